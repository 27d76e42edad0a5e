import Derived.Test.YtdaajnaphkepmaaTring2
import Derived.Test.YtdaajnaphkepmaaTring7
import Derived.Test.YtdaajnaphkepmaaVsSl
namespace Go.Proofs.Ytdaajnaphkepmaa
open Go Go.Vs
variable {ro : Nat} {H : Hp}

abbrev Num := Bool × Int
def nrow (x : Num) : List IV := [.bool x.1, .int .i64 x.2]
def nval (x : Num) : IV := .agg [.bool x.1, .int .i64 x.2]
def NumOk (n : Int) : Prop := -9223372036854775808 ≤ n ∧ n < 9223372036854775808

/-! times, divided by -/
def scaledN (neg : Bool) (a b c : Int) : Num := if 9223372036854775807 < a * b / c then (true, 0) else (false, if neg then -(a * b / c) else a * b / c)

theorem scaled_g {neg : Bool} {a b c : Int} (ha0 : 0 ≤ a) (ha : a < 18446744073709551616) (hb0 : 0 ≤ b) (hb : b < 18446744073709551616) (hc0 : 0 < c) (hc : c < 18446744073709551616) :
    doCall (callW pg) ro 2 (.fn 26 []) [.bool neg, .int .u64 a, .int .u64 b, .int .u64 c] H = some (nval (scaledN neg a b c), H) := by
  have hab0 : 0 ≤ a * b := Int.mul_nonneg ha0 hb0
  have h : ∃ H2, callW pg H.length 26 [.bool neg, .int .u64 a, .int .u64 b, .int .u64 c] H = some (nval (scaledN neg a b c), H2) := by
    rw [callW_eqO (fn := fn26) rfl rfl]
    have c1 : ∀ (ro : Nat) (H : Hp), doCall (callW pg) ro 2 (.fn 42 []) [.int .u64 a, .int .u64 b] H = some (.tup [.int .u64 (a * b / 18446744073709551616), .int .u64 (a * b % 18446744073709551616)], H) := by
      intro ro H
      exact call2p (mul64_c (ro := H.length) (H := H) ha0 ha hb0 hb) rfl rfl
    have hd := Int.emod_add_mul_ediv (a * b) 18446744073709551616
    have hm0 := Int.emod_nonneg (a * b) (show (18446744073709551616 : Int) ≠ 0 by decide)
    have hm1 := Int.emod_lt_of_pos (a * b) (show (0 : Int) < 18446744073709551616 by decide)
    have hq0 : 0 ≤ a * b / 18446744073709551616 := Int.ediv_nonneg hab0 (by decide)
    have hQ0 : 0 ≤ a * b / c := Int.ediv_nonneg hab0 (by omega)
    by_cases hov : c ≤ a * b / 18446744073709551616
    · have hbig : 9223372036854775807 < a * b / c := by
        have : 18446744073709551616 ≤ a * b / c := by
          rw [Int.le_ediv_iff_mul_le hc0]
          omega
        omega
      unfold scaledN
      rw [if_pos hbig]
      simp [fn26, c1, hov, nval, ovf_2]
    · have c2 : ∀ (ro : Nat) (H : Hp), doCall (callW pg) ro 2 (.fn 44 []) [.int .u64 (a * b / 18446744073709551616), .int .u64 (a * b % 18446744073709551616), .int .u64 c] H = some (.tup [.int .u64 (a * b / c), .int .u64 (a * b % c)], H) := by
        intro ro H
        have := div64_g (ro := H.length) (H := H) hq0 (by omega) hc hm0 hm1
        have e : a * b / 18446744073709551616 * 18446744073709551616 + a * b % 18446744073709551616 = a * b := by omega
        rw [e] at this
        exact call2p this rfl rfl
      unfold scaledN
      by_cases hbig : 9223372036854775807 < a * b / c
      · rw [if_pos hbig]
        simp [fn26, c1, c2, hov, hbig, nval, ovf_2]
      · rw [if_neg hbig]
        have h6 : IntKind.i64.wrap (a * b / c) = a * b / c := by rw [IntKind.wrap_i64]; omega
        have h7 : IntKind.i64.wrap (-(a * b / c)) = -(a * b / c) := by rw [IntKind.wrap_i64]; omega
        cases neg
        · simp [fn26, c1, c2, hov, hbig, nval, h6]
        · simp [fn26, c1, c2, hov, hbig, nval, h6, h7]
  obtain ⟨H2, h⟩ := h
  exact call2p h rfl rfl

theorem size_2 {n : Int} (hn : NumOk n) : doCall (callW pg) ro 2 (.fn 27 []) [.int .i64 n] H = some (.int .u64 (if n < 0 then -n else n), H) :=
  call2p (size_c hn.1 hn.2) rfl rfl

def ovN (o : Bool) (n : Int) : Bool := o || decide (n = -9223372036854775808)
theorem over_2 {o : Bool} {n : Int} : doCall (callW pg) ro 2 (.fn 47 []) [.agg [.bool o, .int .i64 n]] H = some (.bool (ovN o n), H) := by
  have h : ∃ H2, callW pg H.length 47 [.agg [.bool o, .int .i64 n]] H = some (.bool (ovN o n), H2) := by
    rw [callW_eqO (fn := fn47) rfl rfl]
    unfold ovN
    cases o <;> simp [fn47]
  obtain ⟨H2, h⟩ := h
  exact call2p h rfl rfl

def absI (n : Int) : Int := if n < 0 then -n else n
def divN (a b : Num) : Num := if (ovN a.1 a.2 || ovN b.1 b.2 || decide (b.2 = 0)) = true then (true, 0) else scaledN (decide (a.2 < 0) != decide (b.2 < 0)) (absI a.2) 1000000 (absI b.2)

theorem div_2 {a b : Num} (ha : NumOk a.2) (hb : NumOk b.2) : doCall (callW pg) ro 2 (.fn 34 []) [.agg [.bool a.1, .int .i64 a.2], .agg [.bool b.1, .int .i64 b.2]] H = some (nval (divN a b), H) := by
  obtain ⟨ao, an⟩ := a
  obtain ⟨bo, bn⟩ := b
  have h : ∃ H2, callW pg H.length 34 [.agg [.bool ao, .int .i64 an], .agg [.bool bo, .int .i64 bn]] H = some (nval (divN (ao, an) (bo, bn)), H2) := by
    rw [callW_eqO (fn := fn34) rfl rfl]
    unfold divN
    cases h1 : ovN ao an
    · cases h2 : ovN bo bn
      · by_cases h3 : bn = 0
        · subst h3
          simp [fn34, over_2, h1, h2, nval, ovf_2]
        · have hbb : 0 < absI bn ∧ absI bn < 18446744073709551616 := by unfold absI; have := hb.1; have := hb.2; dsimp only at *; split <;> omega
          have haa : 0 ≤ absI an ∧ absI an < 18446744073709551616 := by unfold absI; have := ha.1; have := ha.2; dsimp only at *; split <;> omega
          have hs := fun neg ro H => scaled_g (ro := ro) (H := H) (neg := neg) haa.1 haa.2 (show (0 : Int) ≤ 1000000 by decide) (by decide) hbb.1 hbb.2
          have sa := fun ro H => size_2 (ro := ro) (H := H) ha
          have sb := fun ro H => size_2 (ro := ro) (H := H) hb
          dsimp only at sa sb
          have ea : (if an < 0 then -an else an) = absI an := rfl
          have eb : (if bn < 0 then -bn else bn) = absI bn := rfl
          rw [ea] at sa
          rw [eb] at sb
          have en : ∀ x y : Bool, (x != y) = (true ^^ (x == y)) := by decide
          obtain ⟨so, sn, hso⟩ : ∃ so sn, scaledN (decide (an < 0) != decide (bn < 0)) (absI an) 1000000 (absI bn) = (so, sn) := ⟨_, _, rfl⟩
          have hs' := hs (decide (an < 0) != decide (bn < 0))
          rw [hso] at hs'
          simp only [nval] at hs'
          simp only [h1, h2, h3, Bool.or_self, Bool.false_or, decide_false, Bool.false_eq_true, if_false, hso, nval]
          have en2 : (!decide (an < 0) == decide (bn < 0)) = (decide (an < 0) != decide (bn < 0)) := by cases decide (an < 0) <;> cases decide (bn < 0) <;> rfl
          simp [fn34, over_2, h1, h2, h3, sa, sb, en2, hs']
      · simp [fn34, over_2, h1, h2, nval, ovf_2]
    · simp [fn34, over_2, h1, nval, ovf_2]
  obtain ⟨H2, h⟩ := h
  refine call2p h ?_ rfl
  rfl

end Go.Proofs.Ytdaajnaphkepmaa
