/- The program's matcher tells what fits. -/
import Derived.Test.YtpmgmepanbdfpaaDoorTpat1
namespace Go.Proofs.YtpmgmepanbdfpaaDoor
open Go Go.Vs
variable {ro : Nat} {H : Hp}

theorem gloop {pat s : List UInt8} (hp0 : pat.length ≤ 9223372036854775807) (hs0 : s.length ≤ 9223372036854775807) : ∀ (n p i : Nat) (st : Int) (fr : Nat), (s.length - fr) * (pat.length + 1) + (pat.length - p) ≤ n → GAt pat s p i st fr →
    (∃ e' p', runW pg ro fn13L0 [(0, .str (bs pat)), (1, .str (bs s)), (5, .int .i64 p), (6, .int .i64 i), (7, .int .i64 st), (8, .int .i64 fr)] H = some (.exit 0, e', H) ∧ get e' 0 = .str (bs pat) ∧ get e' 5 = .int .i64 (p' : Nat) ∧ p' ≤ pat.length ∧ gm pat s = (pat.drop p').all (· == 42)) ∨
    (runW pg ro fn13L0 [(0, .str (bs pat)), (1, .str (bs s)), (5, .int .i64 p), (6, .int .i64 i), (7, .int .i64 st), (8, .int .i64 fr)] H = some (.ret, [(4, .bool false)], H) ∧ gm pat s = false) := by
  have L : ∀ e, runW pg ro fn13L0 e H = seqO pg ro fn13L0 (runW pg ro fn13B0 (keepE [0, 1, 5, 6, 7, 8] e) H) := fun e => runW_loopO
  intro n
  induction n with
  | zero =>
    intro p i st fr hn h
    by_cases hi : i = s.length
    · refine .inl ⟨[(0, .str (bs pat)), (1, .str (bs s)), (5, .int .i64 p), (6, .int .i64 i), (7, .int .i64 st), (8, .int .i64 fr), (12, .bool false)], p, ?_, rfl, rfl, h.hp, h.done hi⟩
      rw [L]; subst hi; simp [-getElem?_pos, fn13B0]
    · exfalso
      have := h.hi
      have : fr ≤ i := by cases h <;> omega
      have h1 : 1 * (pat.length + 1) ≤ (s.length - fr) * (pat.length + 1) := Nat.mul_le_mul_right _ (by omega)
      omega
  | succ n ih =>
    intro p i st fr hn h
    have hpl := h.hp
    have hil := h.hi
    by_cases hi : i = s.length
    · refine .inl ⟨[(0, .str (bs pat)), (1, .str (bs s)), (5, .int .i64 p), (6, .int .i64 i), (7, .int .i64 st), (8, .int .i64 fr), (12, .bool false)], p, ?_, rfl, rfl, h.hp, h.done hi⟩
      rw [L]; subst hi; simp [-getElem?_pos, fn13B0]
    have hlt : (i : Int) < s.length := by omega
    have hltn : i < s.length := by omega
    obtain ⟨b, hb⟩ : ∃ b, s[i]? = some b := ⟨_, List.getElem?_eq_getElem hltn⟩
    have w2 : IntKind.i64.wrap ((i : Int) + 1) = i + 1 := by rw [IntKind.wrap_i64]; omega
    -- where it is stuck
    have stk : Vs.stuck pat s p i → (∀ r, (0 ≤ st → runW pg ro fn13L0 [(0, .str (bs pat)), (1, .str (bs s)), (5, .int .i64 (st + 1)), (6, .int .i64 (fr + 1)), (7, .int .i64 st), (8, .int .i64 (fr + 1))] H = r) → (st = -1 → r = some (.ret, [(4, .bool false)], H)) →
        runW pg ro fn13L0 [(0, .str (bs pat)), (1, .str (bs s)), (5, .int .i64 p), (6, .int .i64 i), (7, .int .i64 st), (8, .int .i64 fr)] H = r) →
        (∃ e' p', runW pg ro fn13L0 [(0, .str (bs pat)), (1, .str (bs s)), (5, .int .i64 p), (6, .int .i64 i), (7, .int .i64 st), (8, .int .i64 fr)] H = some (.exit 0, e', H) ∧ get e' 0 = .str (bs pat) ∧ get e' 5 = .int .i64 (p' : Nat) ∧ p' ≤ pat.length ∧ gm pat s = (pat.drop p').all (· == 42)) ∨
        (runW pg ro fn13L0 [(0, .str (bs pat)), (1, .str (bs s)), (5, .int .i64 p), (6, .int .i64 i), (7, .int .i64 st), (8, .int .i64 fr)] H = some (.ret, [(4, .bool false)], H) ∧ gm pat s = false) := by
      intro hs hrun
      rcases (show st = -1 ∨ ∃ k : Nat, st = k by
        cases h with
        | first => exact .inl rfl
        | star => exact .inr ⟨_, rfl⟩) with rfl | ⟨k, rfl⟩
      · exact .inr ⟨hrun _ (fun h => by omega) fun _ => rfl, h.none hs⟩
      · obtain ⟨hfr, hnx⟩ := h.back hs
        have hle : (s.length - (fr + 1)) * (pat.length + 1) + (pat.length - (k + 1)) ≤ n := by
          have e : (s.length - fr) * (pat.length + 1) = (s.length - (fr + 1)) * (pat.length + 1) + (pat.length + 1) := by
            rw [show s.length - fr = s.length - (fr + 1) + 1 by omega, Nat.add_mul, Nat.one_mul]
          omega
        have hih := ih (k + 1) (fr + 1) k (fr + 1) hle hnx
        push_cast at hih
        rw [hrun _ (fun _ => rfl) (fun h => by omega)]
        exact hih
    cases hc : pat[p]? with
    | none =>
      have hpn : ¬ ((p : Int) < pat.length) := by have := List.getElem?_eq_none_iff.1 hc; omega
      have hpn2 : ¬ (p < pat.length) := by omega
      refine stk ⟨b, hb, .inl hc⟩ fun r h1 h2 => ?_
      rw [L]
      by_cases hst : 0 ≤ st
      · have w3 : IntKind.i64.wrap (st + 1) = st + 1 := by cases h <;> (rw [IntKind.wrap_i64]; omega)
        have w4 : IntKind.i64.wrap ((fr : Int) + 1) = fr + 1 := by cases h <;> (rw [IntKind.wrap_i64]; omega)
        rw [← h1 hst]
        simp [-getElem?_pos, fn13B0, hlt, hltn, hpn, hpn2, hst, w3, w4]
      · have : st = -1 := by cases h <;> omega
        rw [h2 this]
        subst this
        simp [-getElem?_pos, fn13B0, hlt, hltn, hpn, hpn2]
    | some c =>
      have hpl2 := (List.getElem?_eq_some_iff.1 hc).1
      have w1 : IntKind.i64.wrap ((p : Int) + 1) = p + 1 := by rw [IntKind.wrap_i64]; omega
      have hpn : (p : Int) < pat.length := by omega
      by_cases h42 : c = 42
      · subst h42
        have hnx := h.newStar hc
        have hle : (s.length - i) * (pat.length + 1) + (pat.length - (p + 1)) ≤ n := by
          have hfi : fr ≤ i := by cases h <;> omega
          have : (s.length - i) * (pat.length + 1) ≤ (s.length - fr) * (pat.length + 1) := Nat.mul_le_mul_right _ (by omega)
          omega
        have hih := ih (p + 1) i p i hle hnx
        push_cast at hih
        have e : runW pg ro fn13L0 [(0, .str (bs pat)), (1, .str (bs s)), (5, .int .i64 p), (6, .int .i64 i), (7, .int .i64 st), (8, .int .i64 fr)] H = runW pg ro fn13L0 [(0, .str (bs pat)), (1, .str (bs s)), (5, .int .i64 (p + 1)), (6, .int .i64 i), (7, .int .i64 p), (8, .int .i64 i)] H := by
          rw [L]
          simp [-getElem?_pos, fn13B0, hlt, hltn, hpn, hpl2, hc, w1]
        rw [e]
        exact hih
      · by_cases hf : fits1 c b = true
        · have hnx := h.step hc hb h42 hf
          have hih := ih (p + 1) (i + 1) st fr (by omega) hnx
          push_cast at hih
          have e : runW pg ro fn13L0 [(0, .str (bs pat)), (1, .str (bs s)), (5, .int .i64 p), (6, .int .i64 i), (7, .int .i64 st), (8, .int .i64 fr)] H = runW pg ro fn13L0 [(0, .str (bs pat)), (1, .str (bs s)), (5, .int .i64 (p + 1)), (6, .int .i64 (i + 1)), (7, .int .i64 st), (8, .int .i64 fr)] H := by
            rw [L]
            unfold fits1 at hf
            by_cases h63 : c = 63
            · subst h63
              simp [-getElem?_pos, fn13B0, hlt, hltn, hpn, hpl2, hc, w1, w2]
            · have : c = b := by simpa [h63] using hf
              subst this
              simp [-getElem?_pos, fn13B0, hlt, hltn, hpn, hpl2, hc, hb, b42, b63, h42, h63, w1, w2]
          rw [e]
          exact hih
        · have hf' : fits1 c b = false := by simpa using hf
          refine stk ⟨b, hb, .inr ⟨c, hc, h42, hf'⟩⟩ fun r h1 h2 => ?_
          have h63 : c ≠ 63 := by rintro rfl; simp [fits1] at hf'
          have hcb : c ≠ b := by rintro rfl; simp [fits1] at hf'
          rw [L]
          by_cases hst : 0 ≤ st
          · have w3 : IntKind.i64.wrap (st + 1) = st + 1 := by cases h <;> (rw [IntKind.wrap_i64]; omega)
            have w4 : IntKind.i64.wrap ((fr : Int) + 1) = fr + 1 := by cases h <;> (rw [IntKind.wrap_i64]; omega)
            rw [← h1 hst]
            simp [-getElem?_pos, fn13B0, hlt, hltn, hpn, hpl2, hc, hb, b42, b63, u8_eq, h42, h63, hcb, hst, w3, w4]
          · have : st = -1 := by cases h <;> omega
            rw [h2 this]
            subst this
            simp [-getElem?_pos, fn13B0, hlt, hltn, hpn, hpl2, hc, hb, b42, b63, u8_eq, h42, h63, hcb]

theorem glob_2 {pat s : List UInt8} (hp : pat.length ≤ 9223372036854775807) (hs : s.length ≤ 9223372036854775807) : doCall (callW pg) ro 2 (.fn 13 []) [.str (bs pat), .str (bs s)] H = some (.bool (gm pat s), H) := by
  have h : callW pg H.length 13 [.str (bs pat), .str (bs s)] H = some (.bool (gm pat s), H) := by
    rw [callW_eqO (fn := fn13) rfl rfl]
    rcases gloop (ro := H.length) (H := H) hp hs _ 0 0 (-1) 0 (Nat.le_refl _) .start with ⟨e', p', h1, h2, h3, h4, h5⟩ | ⟨h1, h2⟩
    · have ht := fun ro H => trim_2 (ro := ro) (H := H) (l := pat.drop p') (by simp; omega)
      have e1 : (trimL 42 (trimR 42 (pat.drop p'))).isEmpty = gm pat s := by
        rw [h5, Bool.eq_iff_iff]
        have := trim_nil (c := 42) (l := pat.drop p')
        simp only [List.isEmpty_iff, this, List.all_eq_true, beq_iff_eq]
      have e2 : List.take (pat.length - p') (pat.drop p') = pat.drop p' := List.take_of_length_le (by simp)
      simp at h1
      simp [-getElem?_pos, fn13, h1, h2, h3, h4, e2, ht, bs0, e1]
    · simp at h1
      simp [-getElem?_pos, fn13, h1, h2]
  exact call2p h rfl rfl

end Go.Proofs.YtpmgmepanbdfpaaDoor
