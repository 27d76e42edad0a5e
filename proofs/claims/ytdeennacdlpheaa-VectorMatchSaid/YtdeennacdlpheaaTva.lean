import Derived.Test.YtdeennacdlpheaaFnsLv
import Derived.Test.YtdeennacdlpheaaVsLaw
import Derived.Test.YtdeennacdlpheaaVsArg
/- A few cases, run: what is behind a place. -/
namespace Go.Proofs.Ytdeennacdlpheaa
open Go Go.Vs

theorem known_c : ∃ H', callW pg 0 8 [] [] = some (.bool true, H') := callW_of (n := 60) (by kernel_rfl)
theorem known_2 : doCall (callW pg) 0 2 (.fn 8 []) [] [] = some (.bool true, []) := by
  obtain ⟨Hk, hkn⟩ := known_c
  exact call2p hkn rfl rfl

/-- What is behind. -/
def tl : Cd → Cd
  | .seq _ b => b
  | c => c
def hd : Cd → Cd
  | .seq a _ => a
  | c => c
/-- What a run gives back in a slot. -/
def endsT (t : Nat) : Option (Ex × Env × Hp) → Option IV
  | some (.ret, e, _) => some (get e t)
  | _ => none
theorem ends_of {c : Cd} {e : Env} {H : Hp} {n t : Nat} {x : IV} (h : endsT t (runC (callN pg n) 0 n c e H) = some x) : ∃ H', finO [.t t] (runW pg 0 c e H) = some (x, H') := by
  cases hr : runC (callN pg n) 0 n c e H with
  | none => rw [hr] at h; cases h
  | some r =>
    obtain ⟨ex, e', H'⟩ := r
    rw [hr] at h
    cases ex <;> simp [endsT] at h
    have := runW_iff.2 ⟨n, hr⟩
    refine ⟨H', ?_⟩
    rw [this]
    simp [h]

def rest6 : Cd := tl (tl (tl (tl fn6.cd)))
end Go.Proofs.Ytdeennacdlpheaa
