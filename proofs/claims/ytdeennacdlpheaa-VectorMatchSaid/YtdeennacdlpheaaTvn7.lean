import Derived.Test.YtdeennacdlpheaaTvm0
/- Cases of 'VectorMatch', run. -/
namespace Go.Proofs.Ytdeennacdlpheaa
open Go Go.Vs
theorem r3_4_1_4 (M : IV) : endsT 6 (runC (callN pg 60) 0 60 rest3 [(1, M), (2, .bool true), (7, a4), (8, b4true4), (10, key true), (11, .int .i64 (4 : Nat)), (40, .bool false)] hb4true4) = some (.bool true) := by kernel_rfl
end Go.Proofs.Ytdeennacdlpheaa
