import Derived.Test.YtnfddeiegbifhaaDoorVsLaw
import Derived.Test.YtnfddeiegbifhaaDoorFnsLk
import Derived.Laws.MathBits
namespace Go.Proofs.YtnfddeiegbifhaaDoor
open Go Go.Vs
variable {ro : Nat} {H : Hp}

theorem size_c {n : Int} (h1 : -9223372036854775808 ≤ n) (h2 : n < 9223372036854775808) : callW pg ro 28 [.int .i64 n] H = some (.int .u64 (if n < 0 then -n else n), H) := by
  rw [callW_eqO (fn := fn28) rfl rfl]
  simp [fn28]
  by_cases h : n < 0
  · simp [h, IntKind.wrap_u64]; omega
  · simp [h, IntKind.wrap_u64]; omega

theorem ovf_c (hr : ro ≤ H.length) : callW pg ro 31 [] H = some (.agg [.bool true, .int .i64 0], H ++ [{ rows := [[.bool true, .int .i64 0]] }]) := by
  rw [callW_eqO (fn := fn31) rfl rfl]
  simp [fn31, hr]

theorem mul64_c {x y : Int} (hx0 : 0 ≤ x) (hx : x < 18446744073709551616) (hy0 : 0 ≤ y) (hy : y < 18446744073709551616) :
    callW pg ro 52 [.int .u64 x, .int .u64 y] H = some (.tup [.int .u64 (x * y / 18446744073709551616), .int .u64 (x * y % 18446744073709551616)], H) := by
  rw [callW_eqO (fn := fn52) rfl rfl]
  simp [fn52, IntKind.wrap_u64]
  rw [and_low32 x hx0 hx, and_low32 y hy0 hy]
  rw [and_low32 _ (by omega) (by omega)]
  simpa using mul64_arith x y hx0 hx hy0 hy

theorem div64_c {x c : Int} (hx0 : 0 ≤ x) (hx : x < 18446744073709551616) (hc0 : 0 < c) (hc : c < 18446744073709551616) :
    callW pg ro 53 [.int .u64 0, .int .u64 x, .int .u64 c] H = some (.tup [.int .u64 (x / c), .int .u64 (x % c)], H) := by
  rw [callW_eqO (fn := fn53) rfl rfl]
  have h1 : c ≠ 0 := by omega
  have h2 : ¬ c ≤ 0 := by omega
  have h3 : x.tdiv c = x / c := Int.tdiv_eq_ediv_of_nonneg hx0
  have h4 : x.tmod c = x % c := Int.tmod_eq_emod_of_nonneg hx0
  have h5 : 0 ≤ x / c := Int.ediv_nonneg hx0 (by omega)
  have h6 : x / c ≤ x := Int.ediv_le_self c hx0
  simp [fn53, h1, h2, bin_quo, bin_rem, h3, h4, IntKind.wrap_u64]
  omega

theorem scaled_c (hr : ro ≤ H.length) {neg : Bool} {a b c : Int} (ha0 : 0 ≤ a) (ha : a < 18446744073709551616) (hb0 : 0 ≤ b) (hb : b < 18446744073709551616) (hc0 : 0 < c) (hc : c < 18446744073709551616)
    (hab : a * b < 18446744073709551616) (hq : a * b / c < 9223372036854775808) :
    ∃ H2, callW pg ro 27 [.bool neg, .int .u64 a, .int .u64 b, .int .u64 c] H = some (.agg [.bool false, .int .i64 (if neg then - (a * b / c) else a * b / c)], H2) := by
  rw [callW_eqO (fn := fn27) rfl rfl]
  have hab0 : 0 ≤ a * b := Int.mul_nonneg ha0 hb0
  have h1 : a * b / 18446744073709551616 = 0 := by omega
  have h2 : a * b % 18446744073709551616 = a * b := by omega
  have c1 : ∀ (ro : Nat) (H : Hp), doCall (callW pg) ro 2 (.fn 52 []) [.int .u64 a, .int .u64 b] H = some (.tup [.int .u64 0, .int .u64 (a * b)], H) := by
    intro ro H
    have := mul64_c (ro := H.length) (H := H) ha0 ha hb0 hb
    rw [h1, h2] at this
    exact call2p this rfl rfl
  have c2 : ∀ (ro : Nat) (H : Hp), doCall (callW pg) ro 2 (.fn 53 []) [.int .u64 0, .int .u64 (a * b), .int .u64 c] H = some (.tup [.int .u64 (a * b / c), .int .u64 (a * b % c)], H) :=
    fun ro H => call2p (div64_c hab0 hab hc0 hc) rfl rfl
  have h3 : ¬ c ≤ 0 := by omega
  have h4 : ¬ 9223372036854775807 < a * b / c := by omega
  have h5 : 0 ≤ a * b / c := Int.ediv_nonneg hab0 (by omega)
  have h6 : IntKind.i64.wrap (a * b / c) = a * b / c := by rw [IntKind.wrap_i64]; omega
  have h7 : IntKind.i64.wrap (-(a * b / c)) = -(a * b / c) := by rw [IntKind.wrap_i64]; omega
  cases neg
  · simp [fn27, c1, c2, h3, h4, hr, h6]
  · simp [fn27, c1, c2, h3, h4, hr, h6, h7]

theorem of_c (hr : ro ≤ H.length) {n : Int} (h1 : -9000000000000 ≤ n) (h2 : n ≤ 9000000000000) :
    ∃ H2, callW pg ro 10 [.int .i64 n] H = some (.agg [.bool false, .int .i64 (n * 1000000)], H2) := by
  rw [callW_eqO (fn := fn10) rfl rfl]
  have c1 : ∀ (ro : Nat) (H : Hp), doCall (callW pg) ro 2 (.fn 28 []) [.int .i64 n] H = some (.int .u64 (if n < 0 then -n else n), H) :=
    fun ro H => call2p (size_c (by omega) (by omega)) rfl rfl
  have c2 : ∀ (ro : Nat) (H : Hp), doCall (callW pg) ro 2 (.fn 27 []) [.bool (decide (n < 0)), .int .u64 (if n < 0 then -n else n), .int .u64 1000000, .int .u64 1] H = some (.agg [.bool false, .int .i64 (n * 1000000)], H) := by
    intro ro H
    obtain ⟨H2, h⟩ := scaled_c (ro := H.length) (H := H) (neg := decide (n < 0)) (a := if n < 0 then -n else n) (b := 1000000) (c := 1) (Nat.le_refl _) (by split <;> omega) (by split <;> omega) (by omega) (by omega) (by omega) (by omega) (by split <;> omega) (by split <;> omega)
    have e : (if decide (n < 0) = true then -((if n < 0 then -n else n) * 1000000 / 1) else (if n < 0 then -n else n) * 1000000 / 1) = n * 1000000 := by
      by_cases hn : n < 0 <;> simp [hn] <;> omega
    rw [e] at h
    exact call2p h rfl rfl
  simp [fn10, c1, c2, hr]

end Go.Proofs.YtnfddeiegbifhaaDoor
