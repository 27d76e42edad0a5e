import Derived.Test.YtfgmncabjljhmaaTcnt1
namespace Go.Proofs.Ytfgmncabjljhmaa
open Go Go.Vs
variable {ro : Nat} {H : Hp}

def hi (S : Int) : Int := S / 18446744073709551616 % 18446744073709551616
def lo (S : Int) : Int := S % 18446744073709551616

/-! numbers -/
def okNum (o : Bool) (n : Int) : Bool := if o then decide (n = 0) else !decide (n = -9223372036854775808)

theorem ovf_2 : doCall (callW pg) ro 2 (.fn 39 []) [] H = some (.agg [.bool true, .int .i64 0], H) := call2p (ovf_c (Nat.le_refl _)) rfl rfl

theorem is_c {o : Bool} {n : Int} : ∃ H2, callW pg ro 32 [.agg [.bool o, .int .i64 n]] H = some (.bool (okNum o n), H2) := by
  rw [callW_eqO (fn := fn32) rfl rfl]
  unfold okNum
  cases o
  · by_cases h : n = -9223372036854775808 <;> simp [fn32, ovf_2, h]
  · by_cases h : n = 0 <;> simp [fn32, ovf_2, h]

theorem is_2 {o : Bool} {n : Int} : doCall (callW pg) ro 2 (.fn 32 []) [.agg [.bool o, .int .i64 n]] H = some (.bool (okNum o n), H) := by
  obtain ⟨H2, h⟩ := is_c (ro := H.length) (H := H) (o := o) (n := n)
  exact call2p h rfl rfl


theorem of_2 {n : Int} (h1 : -9000000000000 ≤ n) (h2 : n ≤ 9000000000000) : doCall (callW pg) ro 2 (.fn 11 []) [.int .i64 n] H = some (.agg [.bool false, .int .i64 (n * 1000000)], H) := by
  obtain ⟨H2, h⟩ := of_c (ro := H.length) (H := H) (Nat.le_refl _) h1 h2
  exact call2p h rfl rfl

end Go.Proofs.Ytfgmncabjljhmaa
