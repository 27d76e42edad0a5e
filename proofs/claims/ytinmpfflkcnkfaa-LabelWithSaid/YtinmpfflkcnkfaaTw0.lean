import Derived.Test.YtinmpfflkcnkfaaFnsLh
import Derived.Test.YtinmpfflkcnkfaaVsLaw
namespace Go.Proofs.Ytinmpfflkcnkfaa
open Go Go.Vs
theorem known_c2 (B0 B1 : Bk) : ∃ H', callW pg 2 12 [] [B0, B1] = some (.bool true, H') := callW_of (n := 60) (by kernel_rfl)
end Go.Proofs.Ytinmpfflkcnkfaa
