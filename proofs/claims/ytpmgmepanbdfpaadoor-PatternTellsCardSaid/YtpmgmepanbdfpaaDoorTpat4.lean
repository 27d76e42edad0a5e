/- One matcher, and the law 'PatternPlain'. -/
import Derived.Test.YtpmgmepanbdfpaaDoorTpat3
namespace Go.Proofs.YtpmgmepanbdfpaaDoor
open Go Go.Vs
variable {ro : Nat} {H : Hp}

/-- A text begins with another. -/
def begs (t s : List UInt8) : Bool := s.take t.length == t
theorem begs_iff {t s : List UInt8} : begs t s = true ↔ ∃ u, s = t ++ u := by
  simp only [begs, beq_iff_eq]
  constructor
  · intro h; exact ⟨s.drop t.length, by have := List.take_append_drop t.length s; rw [h] at this; exact this.symm⟩
  · rintro ⟨u, rfl⟩; simp
theorem begs_long {t s : List UInt8} (h : ¬ t.length ≤ s.length) : begs t s = false := by
  cases e : begs t s
  · rfl
  · obtain ⟨u, rfl⟩ := begs_iff.1 e; simp at h

theorem hasPrefix_2 {s t : List UInt8} : doCall (callW pg) ro 2 (.fn 21 []) [.str (bs s), .str (bs t)] H = some (.bool (begs t s), H) := by
  have h26 : ∀ H : Hp, callW pg H.length 26 [.str (bs s), .str (bs t)] H = some (.bool (begs t s), H) := by
    intro H
    rw [callW_eqO (fn := fn26) rfl rfl]
    by_cases h : t.length ≤ s.length
    · have h1 : (t.length : Int) ≤ s.length := by omega
      simp [fn26, h, h1, begs]
    · have h1 : ¬ (t.length : Int) ≤ s.length := by omega
      simp [fn26, h, h1, begs_long h]
  have h2 : ∀ (ro : Nat) (H : Hp), doCall (callW pg) ro 2 (.fn 26 []) [.str (bs s), .str (bs t)] H = some (.bool (begs t s), H) := fun ro H => call2p (h26 H) rfl rfl
  have h : callW pg H.length 21 [.str (bs s), .str (bs t)] H = some (.bool (begs t s), H) := by
    rw [callW_eqO (fn := fn21) rfl rfl]
    simp [fn21, h2]
  exact call2p h rfl rfl

/-- What a matcher of a kind tells. -/
def oneM (k : Int) (t s : List UInt8) : Bool :=
  if k = 1 then s == t else if k = 2 then !(s == t) else if k = 3 then begs t s else if k = 4 then gm t s else false

theorem one_2 {n : ByteArray} {k : Int} {t s : List UInt8} (ht : t.length ≤ 9223372036854775807) (hs : s.length ≤ 9223372036854775807) :
    doCall (callW pg) ro 2 (.fn 11 []) [.agg [.str n, .int .i64 k, .str (bs t)], .str (bs s)] H = some (.bool (oneM k t s), H) := by
  have g := fun ro H => glob_2 (ro := ro) (H := H) (pat := t) (s := s) ht hs
  have b := fun ro H => hasPrefix_2 (ro := ro) (H := H) (s := s) (t := t)
  have h : (callW pg H.length 11 [.agg [.str n, .int .i64 k, .str (bs t)], .str (bs s)] H).map (·.1) = some (.bool (oneM k t s)) := by
    rw [callW_eqO (fn := fn11) rfl rfl]
    unfold oneM
    by_cases h1 : k = 1
    · subst h1; simp [fn11]
    by_cases h2 : k = 2
    · subst h2; simp [fn11]
    by_cases h3 : k = 3
    · subst h3; simp [fn11, b]
    by_cases h4 : k = 4
    · subst h4; simp [fn11, g]
    simp [fn11, h1, h2, h3, h4]
  obtain ⟨⟨v, H'⟩, h, e⟩ := Option.map_eq_some_iff.1 h
  simp only at e
  subst e
  exact call2p h rfl rfl
end Go.Proofs.YtpmgmepanbdfpaaDoor
