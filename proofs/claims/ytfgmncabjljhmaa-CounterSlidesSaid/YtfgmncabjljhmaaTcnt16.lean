import Derived.Test.YtfgmncabjljhmaaTcnt14
namespace Go.Proofs.Ytfgmncabjljhmaa
open Go Go.Vs
variable {ro : Nat} {H : Hp}

/-! the document's products -/
theorem signed_2 {n : Int} {neg : Bool} (h0 : 0 ≤ n) (h1 : n < 18446744073709551616) : doCall (callW pg) ro 2 (.fn 48 []) [.int .u64 n, .bool neg] H = some (nval (if 9223372036854775807 < n then (true, 0) else (false, if neg then -n else n)), H) := by
  have h : ∃ H2, callW pg H.length 48 [.int .u64 n, .bool neg] H = some (nval (if 9223372036854775807 < n then (true, 0) else (false, if neg then -n else n)), H2) := by
    rw [callW_eqO (fn := fn48) rfl rfl]
    by_cases hb : 9223372036854775807 < n
    · simp [-getElem?_pos, fn48, hb, ovf2_2, nval]
    · have h6 : IntKind.i64.wrap n = n := by rw [IntKind.wrap_i64]; omega
      have h7 : IntKind.i64.wrap (-n) = -n := by rw [IntKind.wrap_i64]; omega
      cases neg
      · simp [-getElem?_pos, fn48, hb, h6, nval]
      · simp [-getElem?_pos, fn48, hb, h6, h7, nval]
  obtain ⟨H2, h⟩ := h
  exact call2p h rfl (by rfl)

theorem over2_2' {neg : Bool} {a b c : Int} (ha0 : 0 ≤ a) (ha : a < 18446744073709551616) (hb0 : 0 ≤ b) (hb : b < 18446744073709551616) (hc0 : 0 < c) (hc : c < 18446744073709551616) :
    doCall (callW pg) ro 2 (.fn 34 []) [.int .u64 a, .int .u64 b, .int .u64 c, .bool neg] H = some (nval (scaledN neg a b c), H) := by
  have hab0 : 0 ≤ a * b := Int.mul_nonneg ha0 hb0
  have h : ∃ H2, callW pg H.length 34 [.int .u64 a, .int .u64 b, .int .u64 c, .bool neg] H = some (nval (scaledN neg a b c), H2) := by
    rw [callW_eqO (fn := fn34) rfl rfl]
    have c1 : ∀ (ro : Nat) (H : Hp), doCall (callW pg) ro 2 (.fn 46 []) [.int .u64 a, .int .u64 b] H = some (.tup [.int .u64 (a * b / 18446744073709551616), .int .u64 (a * b % 18446744073709551616)], H) := by
      intro ro H
      exact call2p (mul64_c (ro := H.length) (H := H) ha0 ha hb0 hb) rfl rfl
    have hd := Int.emod_add_mul_ediv (a * b) 18446744073709551616
    have hm0 := Int.emod_nonneg (a * b) (show (18446744073709551616 : Int) ≠ 0 by decide)
    have hm1 := Int.emod_lt_of_pos (a * b) (show (0 : Int) < 18446744073709551616 by decide)
    have hq0 : 0 ≤ a * b / 18446744073709551616 := Int.ediv_nonneg hab0 (by decide)
    have hQ0 : 0 ≤ a * b / c := Int.ediv_nonneg hab0 (by omega)
    by_cases hov : c ≤ a * b / 18446744073709551616
    · have hbig : 9223372036854775807 < a * b / c := by
        have : 18446744073709551616 ≤ a * b / c := by
          rw [Int.le_ediv_iff_mul_le hc0]
          omega
        omega
      unfold scaledN
      rw [if_pos hbig]
      simp [-getElem?_pos, fn34, c1, hov, nval, ovf2_2]
    · have c2 : ∀ (ro : Nat) (H : Hp), doCall (callW pg) ro 2 (.fn 47 []) [.int .u64 (a * b / 18446744073709551616), .int .u64 (a * b % 18446744073709551616), .int .u64 c] H = some (.tup [.int .u64 (a * b / c), .int .u64 (a * b % c)], H) := by
        intro ro H
        have := div64_g (ro := H.length) (H := H) hq0 (by omega) hc hm0 hm1
        have e : a * b / 18446744073709551616 * 18446744073709551616 + a * b % 18446744073709551616 = a * b := by omega
        rw [e] at this
        exact call2p this rfl rfl
      have hQ1 : a * b / c < 18446744073709551616 := by
        rw [Int.ediv_lt_iff_lt_mul hc0]
        omega
      have c3 := fun ro H => signed_2 (ro := ro) (H := H) (neg := neg) hQ0 hQ1
      have e : (if 9223372036854775807 < a * b / c then ((true, 0) : Num) else (false, if neg then -(a * b / c) else a * b / c)) = scaledN neg a b c := rfl
      rw [e] at c3
      obtain ⟨⟨so, sn⟩, hs⟩ : ∃ y, scaledN neg a b c = y := ⟨_, rfl⟩
      rw [hs] at c3 ⊢
      simp only [nval] at c3 ⊢
      simp [-getElem?_pos, fn34, c1, c2, c3, hov]
  obtain ⟨H2, h⟩ := h
  exact call2p h rfl (by rfl)

theorem size2_2 {n : Int} (hn : NumOk n) : doCall (callW pg) ro 2 (.fn 35 []) [.int .i64 n] H = some (.int .u64 (absI n), H) := by
  unfold NumOk at hn
  refine call2p (H2 := H) ?_ rfl rfl
  rw [callW_eqO (fn := fn35) rfl rfl]
  unfold absI
  by_cases h : n < 0
  · have e : IntKind.u64.wrap (IntKind.i64.wrap (-n)) = -n := by rw [IntKind.wrap_u64, IntKind.wrap_i64]; omega
    simp [-getElem?_pos, fn35, h, e]
  · have e : IntKind.u64.wrap n = n := by rw [IntKind.wrap_u64]; omega
    simp [-getElem?_pos, fn35, h, e]

theorem absI_b {n : Int} (hn : NumOk n) : 0 ≤ absI n ∧ absI n < 18446744073709551616 := by
  unfold NumOk at hn; unfold absI; split <;> omega

theorem div2_2 {a b : Num} (ha : NumOk a.2) (hb : NumOk b.2) : doCall (callW pg) ro 2 (.fn 18 []) [.agg [.bool a.1, .int .i64 a.2], .agg [.bool b.1, .int .i64 b.2]] H = some (nval (divN a b), H) := by
  obtain ⟨ao, an⟩ := a
  obtain ⟨bo, bn⟩ := b
  have h : ∃ H2, callW pg H.length 18 [.agg [.bool ao, .int .i64 an], .agg [.bool bo, .int .i64 bn]] H = some (nval (divN (ao, an) (bo, bn)), H2) := by
    have hn := fun ro H => none_2 (ro := ro) (H := H) (a := (ao, an)) (b := (bo, bn))
    dsimp only at hn
    rw [callW_eqO (fn := fn18) rfl rfl]
    unfold divN
    cases h0 : (ovN ao an || ovN bo bn)
    · by_cases h3 : bn = 0
      · subst h3
        simp [-getElem?_pos, fn18, hn, h0, nval, ovf2_2]
      · have hbb : 0 < absI bn ∧ absI bn < 18446744073709551616 := by have := absI_b hb; unfold absI at *; dsimp only at *; split at this <;> split <;> omega
        have haa := absI_b ha
        have sa := fun ro H => size2_2 (ro := ro) (H := H) ha
        have sb := fun ro H => size2_2 (ro := ro) (H := H) hb
        dsimp only at sa sb
        obtain ⟨⟨so, sn⟩, hso⟩ : ∃ y, scaledN (decide (an < 0) != decide (bn < 0)) (absI an) 1000000 (absI bn) = y := ⟨_, rfl⟩
        have hs' := fun ro H => over2_2' (ro := ro) (H := H) (neg := (decide (an < 0) != decide (bn < 0))) haa.1 haa.2 (show (0 : Int) ≤ 1000000 by decide) (by decide) hbb.1 hbb.2
        dsimp only at hs'
        rw [hso] at hs'
        simp only [nval] at hs'
        simp only [h0, h3, Bool.false_or, decide_false, Bool.false_eq_true, if_false, hso, nval]
        have en2 : (!decide (an < 0) == decide (bn < 0)) = (decide (an < 0) != decide (bn < 0)) := by cases decide (an < 0) <;> cases decide (bn < 0) <;> rfl
        simp [-getElem?_pos, fn18, hn, h0, h3, sa, sb, en2, hs']
    · simp [-getElem?_pos, fn18, hn, h0, nval, ovf2_2]
  obtain ⟨H2, h⟩ := h
  exact call2p h rfl (by rfl)

/-- A whole number. -/
theorem whole_2 {n : Int} (h0 : 0 ≤ n) (h1 : n ≤ 9000000) : doCall (callW pg) ro 2 (.fn 19 []) [.int .i64 n] H = some (.agg [.bool false, .int .i64 (n * 1000000)], H) := by
  have e : scaledN false n 1000000000000 1000000 = (false, n * 1000000) := by
    have : n * 1000000000000 / 1000000 = n * 1000000 := by omega
    unfold scaledN
    rw [this, if_neg (by omega)]; rfl
  have hmul : ∀ (ro : Nat) (H : Hp), doCall (callW pg) ro 2 (.fn 49 []) [.agg [.bool false, .int .i64 n], .agg [.bool false, .int .i64 1000000000000]] H = some (.agg [.bool false, .int .i64 (n * 1000000)], H) := by
    intro ro H
    have h : ∃ H2, callW pg H.length 49 [.agg [.bool false, .int .i64 n], .agg [.bool false, .int .i64 1000000000000]] H = some (.agg [.bool false, .int .i64 (n * 1000000)], H2) := by
      have hn := fun ro H => none_2 (ro := ro) (H := H) (a := (false, n)) (b := (false, 1000000000000))
      have n1 : ¬ n = -9223372036854775808 := by omega
      have ho : (ovN false n || ovN false 1000000000000) = false := by simp [ovN, n1]
      dsimp only at hn
      rw [ho] at hn
      have sa := fun ro H => size2_2 (ro := ro) (H := H) (n := n) (by unfold NumOk; omega)
      have sb := fun ro H => size2_2 (ro := ro) (H := H) (n := 1000000000000) (by unfold NumOk; omega)
      have ea : absI n = n := by unfold absI; rw [if_neg (by omega)]
      have eb : absI 1000000000000 = 1000000000000 := by decide
      rw [ea] at sa
      rw [eb] at sb
      have hs := fun ro H => over2_2' (ro := ro) (H := H) (neg := false) (a := n) (b := 1000000000000) (c := 1000000) h0 (by omega) (by decide) (by decide) (by decide) (by decide)
      rw [e] at hs
      simp only [nval] at hs
      have hneg : ¬ n < 0 := by omega
      rw [callW_eqO (fn := fn49) rfl rfl]
      simp [-getElem?_pos, fn49, hn, sa, sb, hneg, hs]
    obtain ⟨H2, h⟩ := h
    exact call2p h rfl rfl
  have hof : ∀ (ro : Nat) (H : Hp), doCall (callW pg) ro 2 (.fn 36 []) [.int .i64 n] H = some (.agg [.bool false, .int .i64 (n * 1000000)], H) := by
    intro ro H
    have h : ∃ H2, callW pg H.length 36 [.int .i64 n] H = some (.agg [.bool false, .int .i64 (n * 1000000)], H2) := by
      rw [callW_eqO (fn := fn36) rfl rfl]
      simp [-getElem?_pos, fn36, hmul]
    obtain ⟨H2, h⟩ := h
    exact call2p h rfl rfl
  have h : ∃ H2, callW pg H.length 19 [.int .i64 n] H = some (.agg [.bool false, .int .i64 (n * 1000000)], H2) := by
    rw [callW_eqO (fn := fn19) rfl rfl]
    simp [-getElem?_pos, fn19, hof]
  obtain ⟨H2, h⟩ := h
  exact call2p h rfl rfl

end Go.Proofs.Ytfgmncabjljhmaa
