/- Division by digits of 32 bits: what its rounds come to. -/
import Derived.Test.YtdaajnaphkepmaaVsLaw
import Derived.Laws.BitsAllLaws
namespace Go.Vs
open Go

theorem div_of {N y q : Int} (h1 : q * y ≤ N) (h2 : N < (q + 1) * y) : N / y = q := by
  have e : (q + 1) * y = q * y + y := by grind
  have hy : 0 < y := by omega
  have := (Int.ediv_emod_unique (a := N) (b := y) (r := N - q * y) (q := q) hy).2 ⟨by grind, by omega, by omega⟩
  exact this.1

/-- A round's state. -/
structure Kn (y1 y0 u d q r : Int) : Prop where
  a1 : 2147483648 ≤ y1
  a2 : y1 < 4294967296
  a3 : 0 ≤ y0
  a4 : y0 < 4294967296
  d0 : 0 ≤ d
  d1 : d < 4294967296
  u0 : 0 ≤ u
  u1 : u < y1 * 4294967296 + y0
  e : u = q * y1 + r
  r0 : 0 ≤ r
  r1 : r < 4294967296
  q0 : 0 ≤ q
  q1 : q ≤ 4294967297
  n : u * 4294967296 + d < (q + 1) * (y1 * 4294967296 + y0)

variable {y1 y0 u d q r : Int}

theorem Kn.start (a1 : 2147483648 ≤ y1) (a2 : y1 < 4294967296) (a3 : 0 ≤ y0) (a4 : y0 < 4294967296) (d0 : 0 ≤ d) (d1 : d < 4294967296) (u0 : 0 ≤ u) (u1 : u < y1 * 4294967296 + y0) : Kn y1 y0 u d (u / y1) (u - u / y1 * y1) := by
  have m0 := Int.emod_nonneg u (show y1 ≠ 0 by omega)
  have m1 := Int.emod_lt_of_pos u (show 0 < y1 by omega)
  have m2 := Int.emod_add_mul_ediv u y1
  have m3 : u / y1 * y1 = y1 * (u / y1) := Int.mul_comm _ _
  have hq0 : 0 ≤ u / y1 := Int.ediv_nonneg u0 (by omega)
  have e1 : (u / y1 + 1) * (y1 * 4294967296 + y0) = (u / y1 * y1) * 4294967296 + y1 * 4294967296 + (u / y1 + 1) * y0 := by grind
  have p : 0 ≤ (u / y1 + 1) * y0 := Int.mul_nonneg (by omega) a3
  refine ⟨a1, a2, a3, a4, d0, d1, u0, u1, by omega, by omega, by omega, hq0, ?_, by omega⟩
  have : u / y1 < 4294967298 := by
    rw [Int.ediv_lt_iff_lt_mul (by omega)]
    omega
  omega

/-- What is asked of each round. -/
theorem Kn.ask (h : Kn y1 y0 u d q r) (hq : q < 4294967296) : (4294967296 * r + d < q * y0 ↔ u * 4294967296 + d < q * (y1 * 4294967296 + y0)) ∧ 0 ≤ q * y0 ∧ q * y0 < 18446744073709551616 := by
  have e1 : q * (y1 * 4294967296 + y0) = q * y1 * 4294967296 + q * y0 := by grind
  have p0 : 0 ≤ q * y0 := Int.mul_nonneg h.q0 h.a3
  have p1 : q * y0 ≤ 4294967295 * 4294967295 := Int.mul_le_mul (by omega) (by have := h.a4; omega) h.a3 (by omega)
  have := h.e
  refine ⟨by omega, p0, by omega⟩
/-- The end of the rounds. -/
theorem Kn.done (h : Kn y1 y0 u d q r) (hq : q < 4294967296) (hn : ¬ 4294967296 * r + d < q * y0) : (u * 4294967296 + d) / (y1 * 4294967296 + y0) = q := by
  refine div_of ?_ h.n
  have := (h.ask hq).1
  omega
/-- A round more. -/
theorem Kn.step (h : Kn y1 y0 u d q r) (hc : 4294967296 ≤ q ∨ 4294967296 * r + d < q * y0) : 1 ≤ q ∧ (q - 1) * y1 + (r + y1) = u ∧ u * 4294967296 + d < q * (y1 * 4294967296 + y0) := by
  have hN : u * 4294967296 + d < q * (y1 * 4294967296 + y0) := by
    by_cases hq : q < 4294967296
    · exact (h.ask hq).1.1 (by omega)
    · have : 4294967296 * (y1 * 4294967296 + y0) ≤ q * (y1 * 4294967296 + y0) := Int.mul_le_mul_of_nonneg_right (by omega) (by have := h.a1; have := h.a3; omega)
      have := h.u1; have := h.d1; omega
  refine ⟨?_, by have := h.e; grind, hN⟩
  by_cases h1 : 1 ≤ q
  · exact h1
  · have e : q = 0 := by have := h.q0; omega
    subst e
    have := h.u0; have := h.d0; omega
theorem Kn.next (h : Kn y1 y0 u d q r) (hc : 4294967296 ≤ q ∨ 4294967296 * r + d < q * y0) (hr : r + y1 < 4294967296) : Kn y1 y0 u d (q - 1) (r + y1) := by
  obtain ⟨s1, s2, s3⟩ := h.step hc
  exact ⟨h.a1, h.a2, h.a3, h.a4, h.d0, h.d1, h.u0, h.u1, by omega, by have := h.r0; have := h.a1; omega, hr, by omega, by have := h.q1; omega, by rw [show q - 1 + 1 = q by omega]; exact s3⟩
theorem Kn.last (h : Kn y1 y0 u d q r) (hc : 4294967296 ≤ q ∨ 4294967296 * r + d < q * y0) (hr : 4294967296 ≤ r + y1) : (u * 4294967296 + d) / (y1 * 4294967296 + y0) = q - 1 := by
  obtain ⟨s1, s2, s3⟩ := h.step hc
  refine div_of ?_ (by rw [show q - 1 + 1 = q by omega]; exact s3)
  have e1 : (q - 1) * (y1 * 4294967296 + y0) = (q - 1) * y1 * 4294967296 + (q - 1) * y0 := by grind
  have p1 : (q - 1) * y0 ≤ 4294967296 * 4294967295 := Int.mul_le_mul (by have := h.q1; omega) (by have := h.a4; omega) h.a3 (by omega)
  have := h.d0
  omega

/-- The quotient is a digit. -/
theorem Kn.dig (a1 : 2147483648 ≤ y1) (a3 : 0 ≤ y0) (d0 : 0 ≤ d) (d1 : d < 4294967296) (u0 : 0 ≤ u) (u1 : u < y1 * 4294967296 + y0) :
    0 ≤ (u * 4294967296 + d) / (y1 * 4294967296 + y0) ∧ (u * 4294967296 + d) / (y1 * 4294967296 + y0) < 4294967296 := by
  constructor
  · exact Int.ediv_nonneg (by omega) (by omega)
  · rw [Int.ediv_lt_iff_lt_mul (by omega)]; omega

/-- Both digits. -/
theorem two_digits {Y h' l' : Int} (hY : 0 < Y) (hl0 : 0 ≤ l') (hl : l' < 18446744073709551616) (h0 : 0 ≤ h') (hh : h' < Y) :
    ((h' * 4294967296 + l' / 4294967296) / Y) * 4294967296 + ((h' * 4294967296 + l' / 4294967296) % Y * 4294967296 + l' % 4294967296) / Y = (h' * 18446744073709551616 + l') / Y ∧
    ((h' * 4294967296 + l' / 4294967296) % Y * 4294967296 + l' % 4294967296) % Y = (h' * 18446744073709551616 + l') % Y := by
  generalize hA : h' * 4294967296 + l' / 4294967296 = A
  have m1 := Int.emod_add_mul_ediv A Y
  generalize hA1 : A / Y = q1 at *
  generalize hA2 : A % Y = r1 at *
  generalize hC : r1 * 4294967296 + l' % 4294967296 = C
  have m2 := Int.emod_add_mul_ediv C Y
  have m3 := Int.emod_nonneg C (show Y ≠ 0 by omega)
  have m4 := Int.emod_lt_of_pos C hY
  generalize hC1 : C / Y = q0 at *
  generalize hC2 : C % Y = r0 at *
  have key := (Int.ediv_emod_unique (a := h' * 18446744073709551616 + l') (b := Y) (r := r0) (q := q1 * 4294967296 + q0) hY).2 ⟨by
    have e1 : Y * (q1 * 4294967296 + q0) = Y * q1 * 4294967296 + Y * q0 := by grind
    omega, m3, m4⟩
  exact ⟨key.1.symm, key.2.symm⟩

/-- What a shift makes of the number. -/
theorem shifted {hi lo y : Int} {s : Nat} (hs : s ≤ 63) (h0 : 0 ≤ hi) (hy : hi < y) (l0 : 0 ≤ lo) (l1 : lo < 18446744073709551616) (hY : y * 2 ^ s < 18446744073709551616) :
    (hi * 2 ^ s + lo / 2 ^ (64 - s)) * 18446744073709551616 + lo * 2 ^ s % 18446744073709551616 = (hi * 18446744073709551616 + lo) * 2 ^ s ∧ 0 ≤ hi * 2 ^ s + lo / 2 ^ (64 - s) ∧ hi * 2 ^ s + lo / 2 ^ (64 - s) < y * 2 ^ s ∧
      bits .or .u64 (hi * 2 ^ s) (lo / 2 ^ (64 - s)) = hi * 2 ^ s + lo / 2 ^ (64 - s) ∧ 0 ≤ hi * 2 ^ s ∧ hi * 2 ^ s < 18446744073709551616 := by
  have hP : (0 : Int) < 2 ^ s := Int.pow_pos (by decide)
  have hP' : (0 : Int) < 2 ^ (64 - s) := Int.pow_pos (by decide)
  have hPP : (2 : Int) ^ s * 2 ^ (64 - s) = 18446744073709551616 := by
    rw [← Int.pow_add, show s + (64 - s) = 64 by omega]; rfl
  have e1 : lo * 2 ^ s / 18446744073709551616 = lo / 2 ^ (64 - s) := by
    rw [← hPP, Int.mul_comm lo, Int.mul_ediv_mul_of_pos _ _ hP]
  have m := Int.emod_add_mul_ediv (lo * 2 ^ s) 18446744073709551616
  rw [e1] at m
  have m0 := Int.emod_nonneg (lo * 2 ^ s) (show (18446744073709551616 : Int) ≠ 0 by decide)
  have hd0 : 0 ≤ lo / 2 ^ (64 - s) := Int.ediv_nonneg l0 (by omega)
  have hd1 : lo / 2 ^ (64 - s) < 2 ^ s := by
    rw [Int.ediv_lt_iff_lt_mul hP', hPP]; exact l1
  have hh0 : 0 ≤ hi * 2 ^ s := Int.mul_nonneg h0 (by omega)
  have hh1 : (hi + 1) * 2 ^ s ≤ y * 2 ^ s := Int.mul_le_mul_of_nonneg_right (by omega) (by omega)
  have e3 : (hi + 1) * 2 ^ s = hi * 2 ^ s + 2 ^ s := by grind
  have e4 : (hi * 18446744073709551616 + lo) * 2 ^ s = hi * 2 ^ s * 18446744073709551616 + lo * 2 ^ s := by grind
  refine ⟨by omega, by omega, by omega, ?_, hh0, by omega⟩
  rw [u64_or _ _ hh0 (by omega) hd0 (by omega)]
  obtain ⟨a, rfl⟩ := Int.eq_ofNat_of_zero_le h0
  obtain ⟨b, hb⟩ := Int.eq_ofNat_of_zero_le hd0
  rw [hb]
  have c1 : ((a : Int) * 2 ^ s).toNat = a <<< s := by
    rw [Nat.shiftLeft_eq]
    have : (a : Int) * 2 ^ s = ((a * 2 ^ s : Nat) : Int) := by push_cast; rfl
    rw [this]; rfl
  have c2 : (b : Int).toNat = b := rfl
  have hb2 : b < 2 ^ s := by
    rw [hb] at hd1
    have : ((2 ^ s : Nat) : Int) = 2 ^ s := by push_cast; rfl
    omega
  rw [c1, c2, ← Nat.shiftLeft_add_eq_or_of_lt hb2, Nat.shiftLeft_eq]
  push_cast
  rfl

end Go.Vs
