import Derived.Test.YtdeennacdlpheaaTvm0
/- Cases of 'VectorMatch', run. -/
namespace Go.Proofs.Ytdeennacdlpheaa
open Go Go.Vs
theorem r3_3_0_3 (M : IV) : endsT 6 (runC (callN pg 60) 0 60 rest3 [(1, M), (2, .bool false), (7, a3), (8, b3false3), (10, key false), (11, .int .i64 (3 : Nat)), (40, .bool false)] hb3false3) = some (.bool true) := by kernel_rfl
theorem r3_3_0_4 (M : IV) : endsT 6 (runC (callN pg 60) 0 60 rest3 [(1, M), (2, .bool false), (7, a3), (8, b3false4), (10, key false), (11, .int .i64 (4 : Nat)), (40, .bool false)] hb3false4) = some (.bool true) := by kernel_rfl
theorem r3_3_1_0 (M : IV) : endsT 6 (runC (callN pg 60) 0 60 rest3 [(1, M), (2, .bool true), (7, a3), (8, b3true0), (10, key true), (11, .int .i64 (0 : Nat)), (40, .bool false)] hb3true0) = some (.bool true) := by kernel_rfl
theorem r3_3_1_1 (M : IV) : endsT 6 (runC (callN pg 60) 0 60 rest3 [(1, M), (2, .bool true), (7, a3), (8, b3true1), (10, key true), (11, .int .i64 (1 : Nat)), (40, .bool false)] hb3true1) = some (.bool true) := by kernel_rfl
theorem r3_3_1_2 (M : IV) : endsT 6 (runC (callN pg 60) 0 60 rest3 [(1, M), (2, .bool true), (7, a3), (8, b3true2), (10, key true), (11, .int .i64 (2 : Nat)), (40, .bool false)] hb3true2) = some (.bool true) := by kernel_rfl
theorem r3_3_1_3 (M : IV) : endsT 6 (runC (callN pg 60) 0 60 rest3 [(1, M), (2, .bool true), (7, a3), (8, b3true3), (10, key true), (11, .int .i64 (3 : Nat)), (40, .bool false)] hb3true3) = some (.bool true) := by kernel_rfl
end Go.Proofs.Ytdeennacdlpheaa
