/- The laws 'PatternParts' and 'PatternPlain'. -/
import Derived.Test.YtpmgmepanbdfpaaDoorTpat2
namespace Go.Proofs.YtpmgmepanbdfpaaDoor
open Go Go.Vs
variable {ro : Nat} {H : Hp}

theorem known_c : ∃ H', callW pg 0 8 [] [] = some (.bool true, H') := callW_of (n := 60) (by kernel_rfl)
theorem known_2 : doCall (callW pg) 0 2 (.fn 8 []) [] [] = some (.bool true, []) := by
  obtain ⟨Hk, hkn⟩ := known_c
  exact call2p hkn rfl rfl

theorem str_of (s : ByteArray) : ∃ l, s = bs l := bs_of s

namespace Prt

theorem take_n {s : List UInt8} {i : Nat} (h : i ≤ s.length) : (bs s).extract 0 i = bs (s.take i) := by rw [bs_extract]; simp

theorem inner {a b s : List UInt8} (ha : a.length ≤ 20) (hb : b.length ≤ 20) (hs : s.length ≤ 30) {i : Nat} (hi : i ≤ s.length) : ∀ (d k : Nat) (any : Bool), k + d = s.length + 1 →
    ∃ (r : Bool) (k' : Nat), runW pg 0 fn5L0 [(0, .str (bs a)), (1, .str (bs b)), (2, .str (bs s)), (7, .bool any), (8, .int .i64 i), (9, .int .i64 k)] H = some (.exit 2, [(0, .str (bs a)), (1, .str (bs b)), (2, .str (bs s)), (7, .bool r), (8, .int .i64 i), (9, .int .i64 k'), (41, .bool false)], H) ∧
      (r = true ↔ any = true ∨ ∃ j, k ≤ j ∧ j ≤ s.length ∧ gm a (s.take i) = true ∧ gm b (s.drop j) = true) := by
  have L : ∀ e, runW pg 0 fn5L0 e H = seqO pg 0 fn5L0 (runW pg 0 fn5B0 (keepE [0, 1, 2, 7, 8, 9] e) H) := fun e => runW_loopO
  intro d
  induction d with
  | zero =>
    intro k any hk
    refine ⟨any, k, ?_, ?_⟩
    · have h1 : ¬ ((k : Int) ≤ s.length) := by omega
      have h2 : ¬ (k ≤ s.length) := by omega
      rw [L]; simp [fn5B0, h1, h2]
    · constructor
      · exact .inl
      · rintro (h | ⟨j, h1, h2, _⟩)
        · exact h
        · omega
  | succ d ih =>
    intro k any hk
    have h1 : (k : Int) ≤ s.length := by omega
    have h2 : k ≤ s.length := by omega
    cases any with
    | true =>
      refine ⟨true, k, ?_, by simp⟩
      rw [L]; simp [fn5B0, h1, h2]
    | false =>
      have w1 : IntKind.i64.wrap ((k : Int) + 1) = k + 1 := by rw [IntKind.wrap_i64]; omega
      have g1 := fun ro H => glob_2 (ro := ro) (H := H) (pat := a) (s := s.take i) (by omega) (by simp; omega)
      have g2 := fun ro H => glob_2 (ro := ro) (H := H) (pat := b) (s := s.drop k) (by omega) (by simp; omega)
      have e2 : List.take (s.length - k) (s.drop k) = s.drop k := List.take_of_length_le (by simp)
      obtain ⟨r, k', hr, hiff⟩ := ih (k + 1) (gm a (s.take i) && gm b (s.drop k)) (by omega)
      push_cast at hr
      refine ⟨r, k', ?_, ?_⟩
      · rw [L]
        cases h3 : gm a (s.take i)
        · rw [h3] at g1 hr
          simp at hr
          simp [fn5B0, h1, h2, hi, g1, w1, hr]
        · rw [h3] at g1 hr
          simp at hr
          simp [fn5B0, h1, h2, hi, g1, g2, e2, w1, hr]
      · rw [hiff, Bool.and_eq_true]
        constructor
        · rintro (⟨h3, h4⟩ | ⟨j, h3, h4, h5⟩)
          · exact .inr ⟨k, Nat.le_refl _, h2, h3, h4⟩
          · exact .inr ⟨j, by omega, h4, h5⟩
        · rintro (h | ⟨j, h3, h4, h5⟩)
          · cases h
          · by_cases e : j = k
            · subst e; exact .inl h5
            · exact .inr ⟨j, by omega, h4, h5⟩

theorem outer {a b s : List UInt8} (ha : a.length ≤ 20) (hb : b.length ≤ 20) (hs : s.length ≤ 30) : ∀ (d i : Nat) (any : Bool), i + d = s.length + 1 →
    ∃ (r : Bool), runW pg 0 fn5L1 [(0, .str (bs a)), (1, .str (bs b)), (2, .str (bs s)), (7, .bool any), (8, .int .i64 i)] H = some (.exit 0, [(0, .str (bs a)), (1, .str (bs b)), (2, .str (bs s)), (7, .bool r), (8, .int .i64 (s.length + 1)), (30, .bool false)], H) ∧
      (r = true ↔ any = true ∨ ∃ i' j, i ≤ i' ∧ i' ≤ j ∧ j ≤ s.length ∧ gm a (s.take i') = true ∧ gm b (s.drop j) = true) := by
  have L : ∀ e, runW pg 0 fn5L1 e H = seqO pg 0 fn5L1 (runW pg 0 fn5B1 (keepE [0, 1, 2, 7, 8] e) H) := fun e => runW_loopO
  intro d
  induction d with
  | zero =>
    intro i any hi
    have : i = s.length + 1 := by omega
    subst this
    refine ⟨any, ?_, ?_⟩
    · have h1 : ¬ ((s.length : Int) + 1 ≤ s.length) := by omega
      rw [L]; simp [fn5B1, h1]
    · constructor
      · exact .inl
      · rintro (h | ⟨i', j, h1, h2, h3, _⟩)
        · exact h
        · omega
  | succ d ih =>
    intro i any hi
    have h1 : (i : Int) ≤ s.length := by omega
    have h2 : i ≤ s.length := by omega
    have w1 : IntKind.i64.wrap ((i : Int) + 1) = i + 1 := by rw [IntKind.wrap_i64]; omega
    obtain ⟨r1, k', hr1, hiff1⟩ := inner (H := H) ha hb hs h2 (s.length + 1 - i) i any (by omega)
    obtain ⟨r, hr, hiff⟩ := ih (i + 1) r1 (by omega)
    push_cast at hr
    refine ⟨r, ?_, ?_⟩
    · rw [L]
      simp [fn5B1, h1, h2, hr1, w1, hr]
    · rw [hiff, hiff1]
      constructor
      · rintro ((h | ⟨j, h3, h4, h5⟩) | ⟨i', j, h3, h4, h5⟩)
        · exact .inl h
        · exact .inr ⟨i, j, Nat.le_refl _, h3, h4, h5⟩
        · exact .inr ⟨i', j, by omega, h4, h5⟩
      · rintro (h | ⟨i', j, h3, h4, h5⟩)
        · exact .inl (.inl h)
        · by_cases e : i' = i
          · subst e; exact .inl (.inr ⟨j, h4, h5.1, h5.2⟩)
          · exact .inr ⟨i', j, by omega, h4, h5⟩

theorem ones {a b s : List UInt8} (ha : a.length ≤ 20) (hb : b.length ≤ 20) (hs : s.length ≤ 30) {any : Bool} : ∀ (d i : Nat) (one : Bool), i + d = s.length + 1 →
    ∃ (r : Bool), runW pg 0 fn5L2 [(0, .str (bs a)), (1, .str (bs b)), (2, .str (bs s)), (7, .bool any), (10, .bool one), (11, .int .i64 i)] H = some (.exit 4, [(0, .str (bs a)), (1, .str (bs b)), (2, .str (bs s)), (7, .bool any), (10, .bool r), (11, .int .i64 (s.length + 1)), (59, .bool false)], H) ∧
      (r = true ↔ one = true ∨ ∃ j, i ≤ j ∧ j ≤ s.length ∧ gm a (s.take j) = true ∧ gm b (s.drop j) = true) := by
  have L : ∀ e, runW pg 0 fn5L2 e H = seqO pg 0 fn5L2 (runW pg 0 fn5B2 (keepE [0, 1, 2, 7, 10, 11] e) H) := fun e => runW_loopO
  intro d
  induction d with
  | zero =>
    intro i one hi
    have : i = s.length + 1 := by omega
    subst this
    refine ⟨one, ?_, ?_⟩
    · have h1 : ¬ ((s.length : Int) + 1 ≤ s.length) := by omega
      rw [L]; simp [fn5B2, h1]
    · constructor
      · exact .inl
      · rintro (h | ⟨j, h1, h2, _⟩)
        · exact h
        · omega
  | succ d ih =>
    intro i one hi
    have h1 : (i : Int) ≤ s.length := by omega
    have h2 : i ≤ s.length := by omega
    have w1 : IntKind.i64.wrap ((i : Int) + 1) = i + 1 := by rw [IntKind.wrap_i64]; omega
    have g1 := fun ro H => glob_2 (ro := ro) (H := H) (pat := a) (s := s.take i) (by omega) (by simp; omega)
    have g2 := fun ro H => glob_2 (ro := ro) (H := H) (pat := b) (s := s.drop i) (by omega) (by simp; omega)
    have e2 : List.take (s.length - i) (s.drop i) = s.drop i := List.take_of_length_le (by simp)
    obtain ⟨r, hr, hiff⟩ := ih (i + 1) (one || (gm a (s.take i) && gm b (s.drop i))) (by omega)
    push_cast at hr
    refine ⟨r, ?_, ?_⟩
    · rw [L]
      cases one with
      | true =>
        simp at hr
        simp [fn5B2, h1, h2, w1, hr]
      | false =>
        cases h3 : gm a (s.take i)
        · rw [h3] at g1 hr
          simp at hr
          simp [fn5B2, h1, h2, g1, w1, hr]
        · rw [h3] at g1 hr
          simp at hr
          simp [fn5B2, h1, h2, g1, g2, e2, w1, hr]
    · rw [hiff, Bool.or_eq_true, Bool.and_eq_true]
      constructor
      · rintro ((h | ⟨h3, h4⟩) | ⟨j, h3, h4, h5⟩)
        · exact .inl h
        · exact .inr ⟨i, Nat.le_refl _, h2, h3, h4⟩
        · exact .inr ⟨j, by omega, h4, h5⟩
      · rintro (h | ⟨j, h3, h4, h5⟩)
        · exact .inl (.inl h)
        · by_cases e : j = i
          · subst e; exact .inl (.inr h5)
          · exact .inr ⟨j, by omega, h4, h5⟩

theorem any_gm {a b s : List UInt8} : gm (a ++ 42 :: b) s = true ↔ ∃ i j, i ≤ j ∧ j ≤ s.length ∧ gm a (s.take i) = true ∧ gm b (s.drop j) = true := by
  rw [gm_append]
  constructor
  · rintro ⟨x, y, rfl, h1, h2⟩
    obtain ⟨u, v, rfl, h3⟩ := gm_star.1 h2
    refine ⟨x.length, x.length + u.length, by omega, by simp, by simpa using h1, ?_⟩
    have : (x ++ (u ++ v)).drop (x.length + u.length) = v := by rw [← List.append_assoc, ← List.length_append, List.drop_left]
    rw [this]; exact h3
  · rintro ⟨i, j, h1, h2, h3, h4⟩
    refine ⟨s.take i, s.drop i, (List.take_append_drop i s).symm, h3, gm_star.2 ⟨(s.drop i).take (j - i), s.drop j, mid_split h1, h4⟩⟩
theorem one_gm {a b s : List UInt8} : gm (a ++ b) s = true ↔ ∃ j, j ≤ s.length ∧ gm a (s.take j) = true ∧ gm b (s.drop j) = true := by
  rw [gm_append]
  constructor
  · rintro ⟨x, y, rfl, h1, h2⟩
    exact ⟨x.length, by simp, by simpa using h1, by simpa using h2⟩
  · rintro ⟨j, h1, h2, h3⟩
    exact ⟨s.take j, s.drop j, (List.take_append_drop j s).symm, h2, h3⟩

theorem law {a b s : List UInt8} : ∃ H', callW pg 0 5 [.str (bs a), .str (bs b), .str (bs s)] [] = some (.bool true, H') := by
  rw [callW_eqO (fn := fn5) rfl rfl]
  by_cases ha : 20 < a.length
  · refine ⟨[], ?_⟩
    have h1 : (20 : Int) < a.length := by omega
    simp [fn5, known_2, ha, h1]
  have ha1 : ¬ (20 : Int) < a.length := by omega
  by_cases hb : 20 < b.length
  · refine ⟨[], ?_⟩
    have h1 : (20 : Int) < b.length := by omega
    simp [fn5, known_2, ha, ha1, hb, h1]
  have hb1 : ¬ (20 : Int) < b.length := by omega
  by_cases hs : 30 < s.length
  · refine ⟨[], ?_⟩
    have h1 : (30 : Int) < s.length := by omega
    simp [fn5, known_2, ha, ha1, hb, hb1, hs, h1]
  have hs1 : ¬ (30 : Int) < s.length := by omega
  obtain ⟨r, h1, h2⟩ := outer (H := []) (a := a) (b := b) (s := s) (by omega) (by omega) (by omega) (s.length + 1) 0 false (by omega)
  obtain ⟨q, h3, h4⟩ := ones (H := []) (any := r) (a := a) (b := b) (s := s) (by omega) (by omega) (by omega) (s.length + 1) 0 false (by omega)
  have e1 : gm (a ++ 42 :: b) s = r := by
    rw [Bool.eq_iff_iff, any_gm, h2]; simp
  have e2 : gm (a ++ b) s = q := by
    rw [Bool.eq_iff_iff, one_gm, h4]; simp
  have g1 := fun ro H => glob_2 (ro := ro) (H := H) (pat := a ++ 42 :: b) (s := s) (by simp; omega) (by omega)
  have g2 := fun ro H => glob_2 (ro := ro) (H := H) (pat := a ++ b) (s := s) (by simp; omega) (by omega)
  rw [e1] at g1
  rw [e2] at g2
  have e42 : (⟨#[42]⟩ : ByteArray) = bs [42] := rfl
  have n1 : ¬ ((9223372036854775807 : Int) < (a.length : Int) + 1) := by omega
  have n2 : ¬ ((9223372036854775807 : Int) < (a.length : Int) + 1 + b.length) := by omega
  have n3 : ¬ ((9223372036854775807 : Int) < (a.length : Int) + b.length) := by omega
  have n4 : ¬ ((9223372036854775807 : Int) < (a.length : Int) + (b.length + 1)) := by omega
  simp at h1 h3
  refine ⟨[], ?_⟩
  simp [fn5, known_2, ha, ha1, hb, hb1, hs, hs1, h1, h3, e42, n1, n2, n3, n4, g1, g2]

theorem wf (x0 x1 x2 : Ty.str.den) (_ : Ty.str.ok x0) (_ : Ty.str.ok x1) (_ : Ty.str.ok x2) : ∃ H', callW pg 0 5 [Ty.str.arg x0, Ty.str.arg x1, Ty.str.arg x2] [] = some (.bool true, H') := by
  obtain ⟨a, e0⟩ := bs_of x0
  obtain ⟨b, e1⟩ := bs_of x1
  obtain ⟨s, e2⟩ := bs_of x2
  show ∃ H', callW pg 0 5 [.str x0, .str x1, .str x2] [] = some (.bool true, H')
  rw [e0, e1, e2]
  exact law
end Prt
end Go.Proofs.YtpmgmepanbdfpaaDoor
