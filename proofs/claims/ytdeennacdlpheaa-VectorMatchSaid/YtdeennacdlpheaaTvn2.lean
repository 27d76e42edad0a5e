import Derived.Test.YtdeennacdlpheaaTvm0
/- Cases of 'VectorMatch', run. -/
namespace Go.Proofs.Ytdeennacdlpheaa
open Go Go.Vs
theorem r3_1_1_4 (M : IV) : endsT 6 (runC (callN pg 60) 0 60 rest3 [(1, M), (2, .bool true), (7, a1), (8, b1true4), (10, key true), (11, .int .i64 (4 : Nat)), (40, .bool false)] hb1true4) = some (.bool true) := by kernel_rfl
theorem r3_2_0_0 (M : IV) : endsT 6 (runC (callN pg 60) 0 60 rest3 [(1, M), (2, .bool false), (7, a2), (8, b2false0), (10, key false), (11, .int .i64 (0 : Nat)), (40, .bool false)] hb2false0) = some (.bool true) := by kernel_rfl
theorem r3_2_0_1 (M : IV) : endsT 6 (runC (callN pg 60) 0 60 rest3 [(1, M), (2, .bool false), (7, a2), (8, b2false1), (10, key false), (11, .int .i64 (1 : Nat)), (40, .bool false)] hb2false1) = some (.bool true) := by kernel_rfl
theorem r3_2_0_2 (M : IV) : endsT 6 (runC (callN pg 60) 0 60 rest3 [(1, M), (2, .bool false), (7, a2), (8, b2false2), (10, key false), (11, .int .i64 (2 : Nat)), (40, .bool false)] hb2false2) = some (.bool true) := by kernel_rfl
theorem r3_2_0_3 (M : IV) : endsT 6 (runC (callN pg 60) 0 60 rest3 [(1, M), (2, .bool false), (7, a2), (8, b2false3), (10, key false), (11, .int .i64 (3 : Nat)), (40, .bool false)] hb2false3) = some (.bool true) := by kernel_rfl
theorem r3_2_0_4 (M : IV) : endsT 6 (runC (callN pg 60) 0 60 rest3 [(1, M), (2, .bool false), (7, a2), (8, b2false4), (10, key false), (11, .int .i64 (4 : Nat)), (40, .bool false)] hb2false4) = some (.bool true) := by kernel_rfl
theorem r3_2_1_0 (M : IV) : endsT 6 (runC (callN pg 60) 0 60 rest3 [(1, M), (2, .bool true), (7, a2), (8, b2true0), (10, key true), (11, .int .i64 (0 : Nat)), (40, .bool false)] hb2true0) = some (.bool true) := by kernel_rfl
theorem r3_2_1_1 (M : IV) : endsT 6 (runC (callN pg 60) 0 60 rest3 [(1, M), (2, .bool true), (7, a2), (8, b2true1), (10, key true), (11, .int .i64 (1 : Nat)), (40, .bool false)] hb2true1) = some (.bool true) := by kernel_rfl
end Go.Proofs.Ytdeennacdlpheaa
