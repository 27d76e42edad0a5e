import Derived.Test.YtdeennacdlpheaaTvm0
/- Cases of 'VectorMatch', run. -/
namespace Go.Proofs.Ytdeennacdlpheaa
open Go Go.Vs
theorem r3_0_0_0 (M : IV) : endsT 6 (runC (callN pg 60) 0 60 rest3 [(1, M), (2, .bool false), (7, a0), (8, b0false0), (10, key false), (11, .int .i64 (0 : Nat)), (40, .bool false)] hb0false0) = some (.bool true) := by kernel_rfl
theorem r3_0_0_1 (M : IV) : endsT 6 (runC (callN pg 60) 0 60 rest3 [(1, M), (2, .bool false), (7, a0), (8, b0false1), (10, key false), (11, .int .i64 (1 : Nat)), (40, .bool false)] hb0false1) = some (.bool true) := by kernel_rfl
theorem r3_0_0_2 (M : IV) : endsT 6 (runC (callN pg 60) 0 60 rest3 [(1, M), (2, .bool false), (7, a0), (8, b0false2), (10, key false), (11, .int .i64 (2 : Nat)), (40, .bool false)] hb0false2) = some (.bool true) := by kernel_rfl
theorem r3_0_0_3 (M : IV) : endsT 6 (runC (callN pg 60) 0 60 rest3 [(1, M), (2, .bool false), (7, a0), (8, b0false3), (10, key false), (11, .int .i64 (3 : Nat)), (40, .bool false)] hb0false3) = some (.bool true) := by kernel_rfl
theorem r3_0_0_4 (M : IV) : endsT 6 (runC (callN pg 60) 0 60 rest3 [(1, M), (2, .bool false), (7, a0), (8, b0false4), (10, key false), (11, .int .i64 (4 : Nat)), (40, .bool false)] hb0false4) = some (.bool true) := by kernel_rfl
theorem r3_0_1_0 (M : IV) : endsT 6 (runC (callN pg 60) 0 60 rest3 [(1, M), (2, .bool true), (7, a0), (8, b0true0), (10, key true), (11, .int .i64 (0 : Nat)), (40, .bool false)] hb0true0) = some (.bool true) := by kernel_rfl
theorem r3_0_1_1 (M : IV) : endsT 6 (runC (callN pg 60) 0 60 rest3 [(1, M), (2, .bool true), (7, a0), (8, b0true1), (10, key true), (11, .int .i64 (1 : Nat)), (40, .bool false)] hb0true1) = some (.bool true) := by kernel_rfl
theorem r3_0_1_2 (M : IV) : endsT 6 (runC (callN pg 60) 0 60 rest3 [(1, M), (2, .bool true), (7, a0), (8, b0true2), (10, key true), (11, .int .i64 (2 : Nat)), (40, .bool false)] hb0true2) = some (.bool true) := by kernel_rfl
theorem r3_0_1_3 (M : IV) : endsT 6 (runC (callN pg 60) 0 60 rest3 [(1, M), (2, .bool true), (7, a0), (8, b0true3), (10, key true), (11, .int .i64 (3 : Nat)), (40, .bool false)] hb0true3) = some (.bool true) := by kernel_rfl
theorem r3_0_1_4 (M : IV) : endsT 6 (runC (callN pg 60) 0 60 rest3 [(1, M), (2, .bool true), (7, a0), (8, b0true4), (10, key true), (11, .int .i64 (4 : Nat)), (40, .bool false)] hb0true4) = some (.bool true) := by kernel_rfl
theorem r3_1_0_0 (M : IV) : endsT 6 (runC (callN pg 60) 0 60 rest3 [(1, M), (2, .bool false), (7, a1), (8, b1false0), (10, key false), (11, .int .i64 (0 : Nat)), (40, .bool false)] hb1false0) = some (.bool true) := by kernel_rfl
end Go.Proofs.Ytdeennacdlpheaa
