/- The law 'PatternStars'. -/
import Derived.Test.YtpmgmepanbdfpaaDoorTpat5
namespace Go.Proofs.YtpmgmepanbdfpaaDoor
open Go Go.Vs
variable {ro : Nat} {H : Hp}

namespace Stars

/-- Each star, and k more. -/
def dup (k : Nat) (p : List UInt8) : List UInt8 := p.flatMap fun c => if c = 42 then c :: List.replicate k 42 else [c]
theorem dup_snoc {k : Nat} {p : List UInt8} {c : UInt8} : dup k (p ++ [c]) = dup k p ++ (if c = 42 then c :: List.replicate k 42 else [c]) := by simp [dup]
theorem dup_len {k : Nat} : ∀ {p : List UInt8}, (dup k p).length ≤ p.length * (k + 1)
  | [] => by simp [dup]
  | c :: p => by
    have ih := dup_len (k := k) (p := p)
    have e : (dup k (c :: p)).length = (if c = 42 then c :: List.replicate k 42 else [c]).length + (dup k p).length := by simp [dup]
    rw [e, List.length_cons, Nat.add_mul]
    split <;> simp <;> omega
theorem star_star {q s : List UInt8} : gm (42 :: 42 :: q) s = gm (42 :: q) s := by
  rw [Bool.eq_iff_iff, gm_star]
  constructor
  · rintro ⟨a, b, rfl, h⟩; exact gm_star_suffix h
  · intro h; exact ⟨[], s, rfl, h⟩
theorem star_more {q s : List UInt8} : ∀ {k : Nat}, gm (42 :: (List.replicate k 42 ++ q)) s = gm (42 :: q) s
  | 0 => rfl
  | k + 1 => by rw [List.replicate_succ, List.cons_append, star_star, star_more]
theorem gm_dup {k : Nat} : ∀ {p s : List UInt8}, gm (dup k p) s = gm p s
  | [], s => rfl
  | c :: p, s => by
    have ih := fun t => gm_dup (k := k) (p := p) (s := t)
    by_cases hc : c = 42
    · subst hc
      have e : dup k (42 :: p) = 42 :: (List.replicate k 42 ++ dup k p) := by simp [dup]
      rw [e, star_more, Bool.eq_iff_iff, gm_star, gm_star]
      simp only [ih]
    · have e : dup k (c :: p) = c :: dup k p := by simp [dup, hc]
      rw [e, Bool.eq_iff_iff, gm_char hc, gm_char hc]
      simp only [ih]

def T : Nat → List UInt8
  | 0 => []
  | m + 1 => T m ++ [97, 42]
theorem T_cons : ∀ {m : Nat}, T (m + 1) = 97 :: 42 :: T m
  | 0 => rfl
  | m + 1 => by
    have e1 : T (m + 2) = T (m + 1) ++ [97, 42] := rfl
    have e2 : T (m + 1) = T m ++ [97, 42] := rfl
    have e3 : T (m + 1) = 97 :: 42 :: T m := T_cons
    rw [e1, e3, List.cons_append, List.cons_append, ← e2, e3]
theorem T_len : ∀ {m : Nat}, (T m).length = 2 * m
  | 0 => rfl
  | m + 1 => by rw [T, List.length_append, T_len]; simp; omega
theorem T_some : ∀ {m n : Nat}, m + 1 ≤ n → gm (T (m + 1)) (List.replicate n 97) = true
  | m, 0, h => by omega
  | m, n + 1, h => by
    rw [T_cons, List.replicate_succ, gm_char_cons (by decide)]
    simp only [BEq.rfl, Bool.or_true, Bool.true_and]
    rw [gm_star]
    cases m with
    | zero => exact ⟨List.replicate n 97, [], by simp, by simp [T, gm_nil]⟩
    | succ m => exact ⟨[], List.replicate n 97, rfl, T_some (by omega)⟩
theorem T_b {m n : Nat} : gm (T m ++ [98]) (List.replicate n 97) = false := by
  cases h : gm (T m ++ [98]) (List.replicate n 97)
  · rfl
  · obtain ⟨a, b, hab, hf, _⟩ := (gm_snoc_char (by decide)).1 h
    have hb : b ∈ List.replicate n (97 : UInt8) := by rw [hab]; simp
    have : b = 97 := List.eq_of_mem_replicate hb
    subst this
    exact absurd hf (by decide)
theorem T_iff {m n : Nat} (h : m ≤ n) (h0 : 0 < n) : gm (T m) (List.replicate n 97) = decide (0 < m) := by
  cases m with
  | zero =>
    obtain ⟨n, rfl⟩ : ∃ k, n = k + 1 := ⟨n - 1, by omega⟩
    simp [T, gm_nil, List.replicate_succ]
  | succ m => rw [T_some h]; simp

/-! the loops -/
theorem inner {p : List UInt8} {x1 : IV} {n i : Nat} {c : UInt8} (hn : n < 256) (hp : p.length ≤ 20) (hc : p[i]? = some c) {q : List UInt8} (hq : q.length ≤ 200) (h42 : c = 42) : ∀ (d k : Nat), k + d = n % 6 →
    runW pg 0 fn7L0 [(0, .str (bs p)), (1, x1), (2, .int .u8 n), (7, .str (bs (q ++ List.replicate k 42))), (8, .int .i64 i), (9, .int .i64 k)] H =
      some (.exit 2, [(0, .str (bs p)), (1, x1), (2, .int .u8 n), (7, .str (bs (q ++ List.replicate (n % 6) 42))), (8, .int .i64 i), (9, .int .i64 (n % 6 : Nat)), (47, .bool false)], H) := by
  have L : ∀ e, runW pg 0 fn7L0 e H = seqO pg 0 fn7L0 (runW pg 0 fn7B0 (keepE [0, 1, 2, 7, 8, 9] e) H) := fun e => runW_loopO
  have t1 : binV .rem (.int .u8 n) (.int .u8 6) = some (.int .u8 ((n : Int) % 6)) := by rw [bin_rem (by decide), Int.tmod_eq_emod_of_nonneg (by omega)]
  have w0 : IntKind.i64.wrap ((n : Int) % 6) = (n : Int) % 6 := by rw [IntKind.wrap_i64]; omega
  have hi := (List.getElem?_eq_some_iff.1 hc).1
  have hi1 : (i : Int) < p.length := by omega
  subst h42
  intro d
  induction d with
  | zero =>
    intro k hk
    have : k = n % 6 := by omega
    subst this
    rw [L]; simp [-getElem?_pos, fn7B0, hc, hi, hi1, t1, w0]
  | succ d ih =>
    intro k hk
    have h1 : (k : Int) < n % 6 := by omega
    have w1 : IntKind.i64.wrap ((k : Int) + 1) = k + 1 := by rw [IntKind.wrap_i64]; omega
    have n1 : ¬ ((9223372036854775807 : Int) < (q.length : Int) + k + 1) := by omega
    have e42 : (⟨#[42]⟩ : ByteArray) = bs [42] := rfl
    have e1 : q ++ (List.replicate k (42 : UInt8) ++ [42]) = q ++ List.replicate (k + 1) 42 := by rw [List.replicate_succ']
    have hih := ih (k + 1) (by omega)
    push_cast at hih
    rw [L]; simp [-getElem?_pos, fn7B0, hc, hi, hi1, t1, w0, h1, w1, n1, e42, e1, hih]
theorem innerNot {p : List UInt8} {x1 x7 x9 : IV} {n i : Nat} {c : UInt8} (hc : p[i]? = some c) (h42 : c ≠ 42) :
    runW pg 0 fn7L0 [(0, .str (bs p)), (1, x1), (2, .int .u8 n), (7, x7), (8, .int .i64 i), (9, x9)] H =
      some (.exit 2, [(0, .str (bs p)), (1, x1), (2, .int .u8 n), (7, x7), (8, .int .i64 i), (9, x9), (47, .bool false)], H) := by
  have L : ∀ e, runW pg 0 fn7L0 e H = seqO pg 0 fn7L0 (runW pg 0 fn7B0 (keepE [0, 1, 2, 7, 8, 9] e) H) := fun e => runW_loopO
  have hi := (List.getElem?_eq_some_iff.1 hc).1
  have hi1 : (i : Int) < p.length := by omega
  rw [L]; simp [-getElem?_pos, fn7B0, hc, hi, hi1, b42, h42]

theorem outer {p : List UInt8} {x1 : IV} {n : Nat} (hn : n < 256) (hp : p.length ≤ 20) : ∀ (d i : Nat), i + d = p.length →
    runW pg 0 fn7L1 [(0, .str (bs p)), (1, x1), (2, .int .u8 n), (7, .str (bs (dup (n % 6) (p.take i)))), (8, .int .i64 i)] H =
      some (.exit 0, [(0, .str (bs p)), (1, x1), (2, .int .u8 n), (7, .str (bs (dup (n % 6) p))), (8, .int .i64 p.length), (27, .bool false)], H) := by
  have L : ∀ e, runW pg 0 fn7L1 e H = seqO pg 0 fn7L1 (runW pg 0 fn7B1 (keepE [0, 1, 2, 7, 8] e) H) := fun e => runW_loopO
  intro d
  induction d with
  | zero =>
    intro i hi
    have : i = p.length := by omega
    subst this
    rw [L]; simp [fn7B1]
  | succ d ih =>
    intro i hi
    have h1 : (i : Int) < p.length := by omega
    have h2 : i < p.length := by omega
    have h3 : i + 1 ≤ p.length := by omega
    have h4 : (i : Int) + 1 ≤ p.length := by omega
    have h5 : (0 : Int) ≤ i + 1 := by omega
    have h6 : (i : Int) ≤ i + 1 := by omega
    have t6 : ((i : Int) + 1).toNat = i + 1 := by omega
    have w1 : IntKind.i64.wrap ((i : Int) + 1) = i + 1 := by rw [IntKind.wrap_i64]; omega
    obtain ⟨c, hc⟩ : ∃ c, p[i]? = some c := ⟨_, List.getElem?_eq_getElem h2⟩
    have ed := dup_len (k := n % 6) (p := p.take i)
    have ed2 : (dup (n % 6) (p.take i)).length ≤ 120 := by
      have h7 : (p.take i).length * (n % 6 + 1) ≤ 20 * 6 := Nat.mul_le_mul (by simp; omega) (by omega)
      omega
    have et : List.take 1 (p.drop i) = [c] := by rw [Vs.drop_cons hc]; rfl
    have n1 : ¬ ((9223372036854775807 : Int) < ((dup (n % 6) (p.take i)).length : Int) + 1) := by omega
    have hih := ih (i + 1) (by omega)
    rw [Vs.take_cons hc, dup_snoc] at hih
    push_cast at hih
    by_cases h42 : c = 42
    · have hin := inner (H := H) (x1 := x1) hn hp hc (q := dup (n % 6) (p.take i) ++ [c]) (by simp; omega) h42 (n % 6) 0 (by omega)
      rw [if_pos h42] at hih
      simp at hin hih
      rw [L]
      simp [-getElem?_pos, fn7B1, h1, h2, h3, h4, h5, h6, t6, w1, et, n1, hin, hih]
    · have hin := fun x7 => innerNot (H := H) (x1 := x1) (x7 := x7) (x9 := .int .i64 0) (n := n) hc h42
      rw [if_neg h42] at hih
      rw [L]
      simp [-getElem?_pos, fn7B1, h1, h2, h3, h4, h5, h6, t6, w1, et, n1, hin, hih]

theorem ts {x0 x1 x7 : IV} {n : Nat} (hn : n < 256) : ∀ (d i : Nat), i + d = n % 40 →
    runW pg 0 fn7L2 [(0, x0), (1, x1), (2, .int .u8 n), (7, x7), (10, .str (bs (T i))), (11, .int .i64 i)] H =
      some (.exit 4, [(0, x0), (1, x1), (2, .int .u8 n), (7, x7), (10, .str (bs (T (n % 40)))), (11, .int .i64 (n % 40 : Nat)), (56, .bool false)], H) := by
  have L : ∀ e, runW pg 0 fn7L2 e H = seqO pg 0 fn7L2 (runW pg 0 fn7B2 (keepE [0, 1, 2, 7, 10, 11] e) H) := fun e => runW_loopO
  have t1 : binV .rem (.int .u8 n) (.int .u8 40) = some (.int .u8 ((n : Int) % 40)) := by rw [bin_rem (by decide), Int.tmod_eq_emod_of_nonneg (by omega)]
  have w0 : IntKind.i64.wrap ((n : Int) % 40) = (n : Int) % 40 := by rw [IntKind.wrap_i64]; omega
  intro d
  induction d with
  | zero =>
    intro i hi
    have : i = n % 40 := by omega
    subst this
    rw [L]; simp [fn7B2, t1, w0]
  | succ d ih =>
    intro i hi
    have h1 : (i : Int) < n % 40 := by omega
    have w1 : IntKind.i64.wrap ((i : Int) + 1) = i + 1 := by rw [IntKind.wrap_i64]; omega
    have n1 : ¬ ((9223372036854775807 : Int) < 2 * (i : Int) + 2) := by omega
    have ea : (⟨#[97, 42]⟩ : ByteArray) = bs [97, 42] := rfl
    have e1 : T i ++ [97, 42] = T (i + 1) := rfl
    have hih := ih (i + 1) (by omega)
    push_cast at hih
    rw [L]; simp [fn7B2, t1, w0, h1, w1, n1, ea, T_len, e1, hih]

theorem long {x0 x1 x2 x7 x10 : IV} {N : Nat} (hN : N = 60) : ∀ (d i : Nat), i + d = N →
    runW pg 0 fn7L3 [(0, x0), (1, x1), (2, x2), (7, x7), (10, x10), (12, .str (bs (List.replicate i 97))), (13, .int .i64 i)] H =
      some (.exit 6, [(0, x0), (1, x1), (2, x2), (7, x7), (10, x10), (12, .str (bs (List.replicate N 97))), (13, .int .i64 N), (62, .bool false)], H) := by
  have L : ∀ e, runW pg 0 fn7L3 e H = seqO pg 0 fn7L3 (runW pg 0 fn7B3 (keepE [0, 1, 2, 7, 10, 12, 13] e) H) := fun e => runW_loopO
  intro d
  induction d with
  | zero =>
    intro i hi
    have : i = N := by omega
    subst this
    have h1 : ¬ ((i : Int) < 60) := by omega
    rw [L]; simp [fn7B3, h1]
  | succ d ih =>
    intro i hi
    have h1 : (i : Int) < 60 := by omega
    have w1 : IntKind.i64.wrap ((i : Int) + 1) = i + 1 := by rw [IntKind.wrap_i64]; omega
    have n1 : ¬ ((9223372036854775807 : Int) < (i : Int) + 1) := by omega
    have ea : (⟨#[97]⟩ : ByteArray) = bs [97] := rfl
    have e1 : List.replicate i (97 : UInt8) ++ [97] = List.replicate (i + 1) 97 := by rw [List.replicate_succ']
    have hih := ih (i + 1) (by omega)
    push_cast at hih
    rw [L]; simp [fn7B3, h1, w1, n1, ea, e1, hih]

theorem law {p s : List UInt8} {n : Nat} (hn : n < 256) : ∃ H', callW pg 0 7 [.str (bs p), .str (bs s), .int .u8 n] [] = some (.bool true, H') := by
  rw [callW_eqO (fn := fn7) rfl rfl]
  by_cases hp : 20 < p.length
  · refine ⟨[], ?_⟩
    have h1 : (20 : Int) < p.length := by omega
    simp [fn7, known_2, hp, h1]
  have hp1 : ¬ (20 : Int) < p.length := by omega
  by_cases hs : 40 < s.length
  · refine ⟨[], ?_⟩
    have h1 : (40 : Int) < s.length := by omega
    simp [fn7, known_2, hp, hp1, hs, h1]
  have hs1 : ¬ (40 : Int) < s.length := by omega
  obtain ⟨N, hN⟩ : ∃ N, N = 60 := ⟨_, rfl⟩
  have h1 := outer (H := []) (x1 := .str (bs s)) (p := p) hn (by omega) p.length 0 (by omega)
  have h2 := ts (H := []) (x0 := .str (bs p)) (x1 := .str (bs s)) (x7 := .str (bs (dup (n % 6) p))) hn (n % 40) 0 (by omega)
  have h3 := long (H := []) (x0 := .str (bs p)) (x1 := .str (bs s)) (x2 := .int .u8 n) (x7 := .str (bs (dup (n % 6) p))) (x10 := .str (bs (T (n % 40)))) hN N 0 (by omega)
  have hd : (dup (n % 6) p).length ≤ 120 := by
    have ed := dup_len (k := n % 6) (p := p)
    have h7 : p.length * (n % 6 + 1) ≤ 20 * 6 := Nat.mul_le_mul (by omega) (by omega)
    omega
  have g1 := fun ro H => glob_2 (ro := ro) (H := H) (pat := p) (s := s) (by omega) (by omega)
  have g2 := fun ro H => glob_2 (ro := ro) (H := H) (pat := dup (n % 6) p) (s := s) (by omega) (by omega)
  have g3 := fun ro H => glob_2 (ro := ro) (H := H) (pat := T (n % 40) ++ [98]) (s := List.replicate N 97) (by simp [T_len]; omega) (by simp; omega)
  have g4 := fun ro H => glob_2 (ro := ro) (H := H) (pat := T (n % 40)) (s := List.replicate N 97) (by simp [T_len]; omega) (by simp; omega)
  rw [gm_dup] at g2
  rw [T_b] at g3
  rw [T_iff (by omega) (by omega)] at g4
  have e98 : (⟨#[98]⟩ : ByteArray) = bs [98] := rfl
  have n2 : ¬ ((9223372036854775807 : Int) < 2 * ((n : Int) % 40) + 1) := by omega
  have t1 : binV .rem (.int .u8 n) (.int .u8 40) = some (.int .u8 ((n : Int) % 40)) := by rw [bin_rem (by decide), Int.tmod_eq_emod_of_nonneg (by omega)]
  have f1 : dup (n % 6) [] = [] := rfl
  have f2 : T 0 = [] := rfl
  rw [List.take_zero, f1] at h1
  rw [f2] at h2
  rw [List.replicate_zero] at h3
  push_cast at h1 h2 h3
  have e5 : decide ((0 : Int) < (n : Int) % 40) = decide (0 < n % 40) := by
    rw [decide_eq_decide]; omega
  refine ⟨[], ?_⟩
  simp [fn7, known_2, hp, hp1, hs, hs1, h1, h2, h3, bs0, g1, g2, g3, g4, T_len, n2, e98, t1, e5]

theorem wf (x0 x1 : Ty.str.den) (x2 : (Ty.int .u8).den) (_ : Ty.str.ok x0) (_ : Ty.str.ok x1) (h2 : (Ty.int .u8).ok x2) : ∃ H', callW pg 0 7 [Ty.str.arg x0, Ty.str.arg x1, (Ty.int .u8).arg x2] [] = some (.bool true, H') := by
  obtain ⟨p, e0⟩ := bs_of x0
  obtain ⟨s, e1⟩ := bs_of x1
  have hr := wf_u8 x2 h2
  obtain ⟨n, e2⟩ : ∃ n : Nat, x2 = (n : Int) := ⟨Int.toNat x2, (Int.toNat_of_nonneg hr.1).symm⟩
  show ∃ H', callW pg 0 7 [.str x0, .str x1, .int .u8 x2] [] = some (.bool true, H')
  have hn : n < 256 := by have := hr.2; rw [e2] at this; omega
  rw [e0, e1, e2]
  exact law hn
end Stars
end Go.Proofs.YtpmgmepanbdfpaaDoor
