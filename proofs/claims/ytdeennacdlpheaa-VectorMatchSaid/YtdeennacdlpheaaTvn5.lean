import Derived.Test.YtdeennacdlpheaaTvm0
/- Cases of 'VectorMatch', run. -/
namespace Go.Proofs.Ytdeennacdlpheaa
open Go Go.Vs
theorem r3_3_1_4 (M : IV) : endsT 6 (runC (callN pg 60) 0 60 rest3 [(1, M), (2, .bool true), (7, a3), (8, b3true4), (10, key true), (11, .int .i64 (4 : Nat)), (40, .bool false)] hb3true4) = some (.bool true) := by kernel_rfl
theorem r3_4_0_0 (M : IV) : endsT 6 (runC (callN pg 60) 0 60 rest3 [(1, M), (2, .bool false), (7, a4), (8, b4false0), (10, key false), (11, .int .i64 (0 : Nat)), (40, .bool false)] hb4false0) = some (.bool true) := by kernel_rfl
theorem r3_4_0_1 (M : IV) : endsT 6 (runC (callN pg 60) 0 60 rest3 [(1, M), (2, .bool false), (7, a4), (8, b4false1), (10, key false), (11, .int .i64 (1 : Nat)), (40, .bool false)] hb4false1) = some (.bool true) := by kernel_rfl
theorem r3_4_0_2 (M : IV) : endsT 6 (runC (callN pg 60) 0 60 rest3 [(1, M), (2, .bool false), (7, a4), (8, b4false2), (10, key false), (11, .int .i64 (2 : Nat)), (40, .bool false)] hb4false2) = some (.bool true) := by kernel_rfl
theorem r3_4_0_3 (M : IV) : endsT 6 (runC (callN pg 60) 0 60 rest3 [(1, M), (2, .bool false), (7, a4), (8, b4false3), (10, key false), (11, .int .i64 (3 : Nat)), (40, .bool false)] hb4false3) = some (.bool true) := by kernel_rfl
end Go.Proofs.Ytdeennacdlpheaa
