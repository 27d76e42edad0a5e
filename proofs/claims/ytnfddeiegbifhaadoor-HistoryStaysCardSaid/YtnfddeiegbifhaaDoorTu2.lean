import Derived.Test.YtnfddeiegbifhaaDoorTu1
import Derived.Test.YtnfddeiegbifhaaDoorVsLaw
import Derived.Test.YtnfddeiegbifhaaDoorVsArg
/- What is handed. -/
namespace Go.Proofs.YtnfddeiegbifhaaDoor
open Go Go.Vs
variable {ro : Nat} {H : Hp}

theorem ex_of_map {x : Option (IV × Hp)} {v : IV} (h : x.map (·.1) = some v) : ∃ H', x = some (v, H') := by
  obtain ⟨⟨v', H'⟩, h, e⟩ := Option.map_eq_some_iff.1 h
  exact ⟨H', by rw [h]; simp only at e; rw [e]⟩

/-! what is handed -/
theorem bs_self (s : ByteArray) : bs s.data.toList = s := by cases s; rfl
abbrev TP : Ty := .pair .str .str
def toP (p : ByteArray × ByteArray) : Pr := (p.1.data.toList, p.2.data.toList)
theorem row_p (p : ByteArray × ByteArray) : [IV.str p.1, IV.str p.2] = prow (toP p) := by simp [prow, toP, bs_self]
def toPd (p : TP.den) : Pr := toP p
theorem toP_row (p : TP.den) : TP.enc p = prow (toPd p) := row_p p
theorem reach_eq : reachBytes = 140737488351232 := by decide

theorem pairs_val (x : (Ty.sl TP).den) (h : (Ty.sl TP).okw x) : ∃ l : List Pr, SlA ((Ty.sl TP).arg x) 2 (l.map prow) ∧ l.length * 32 ≤ room := by
  obtain ⟨l, hl, hx⟩ := sl_arg x
  refine ⟨l.map toPd, ?_, ?_⟩
  · rw [List.map_map]
    have : l.map TP.enc = l.map (prow ∘ toPd) := List.map_congr_left fun p _ => toP_row p
    rw [← this]; exact hl
  · rcases hx with ⟨_, rfl⟩ | rfl
    · simp
    · have h1 : l.length * 32 ≤ reachBytes := (h l rfl).1
      rw [reach_eq] at h1
      have e : (l.map toPd).length = l.length := List.length_map ..
      rw [e]
      simp only [room]; omega
theorem room_lt {n : Nat} (h : n * 32 ≤ room) : n < 9223372036854775807 := by simp only [room] at h; omega

end Go.Proofs.YtnfddeiegbifhaaDoor
