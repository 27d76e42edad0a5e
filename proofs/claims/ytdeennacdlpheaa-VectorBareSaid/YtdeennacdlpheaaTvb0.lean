import Derived.Test.YtdeennacdlpheaaTva
/- Cases of 'VectorBare', run. -/
namespace Go.Proofs.Ytdeennacdlpheaa
open Go Go.Vs
theorem r6_0_0 : endsT 4 (runC (callN pg 60) 0 60 rest6 [(1, .bool false), (5, .nsl), (6, .int .i64 1)] []) = some (.bool true) := by kernel_rfl
theorem r6_0_1 : endsT 4 (runC (callN pg 60) 0 60 rest6 [(1, .bool true), (5, .nsl), (6, .int .i64 1)] []) = some (.bool true) := by kernel_rfl
theorem r6_1_0 : endsT 4 (runC (callN pg 60) 0 60 rest6 [(1, .bool false), (5, .nsl), (6, .int .i64 2)] []) = some (.bool true) := by kernel_rfl
theorem r6_1_1 : endsT 4 (runC (callN pg 60) 0 60 rest6 [(1, .bool true), (5, .nsl), (6, .int .i64 2)] []) = some (.bool true) := by kernel_rfl
theorem r6_2_0 : endsT 4 (runC (callN pg 60) 0 60 rest6 [(1, .bool false), (5, .nsl), (6, .int .i64 3)] []) = some (.bool true) := by kernel_rfl
theorem r6_2_1 : endsT 4 (runC (callN pg 60) 0 60 rest6 [(1, .bool true), (5, .nsl), (6, .int .i64 3)] []) = some (.bool true) := by kernel_rfl
end Go.Proofs.Ytdeennacdlpheaa
