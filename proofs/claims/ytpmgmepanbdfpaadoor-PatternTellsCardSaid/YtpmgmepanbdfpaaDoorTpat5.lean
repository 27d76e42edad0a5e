/- The law 'PatternPlain'. -/
import Derived.Test.YtpmgmepanbdfpaaDoorTpat4
namespace Go.Proofs.YtpmgmepanbdfpaaDoor
open Go Go.Vs
variable {ro : Nat} {H : Hp}

namespace Plain

/-! patterns without signs -/
theorem gm_plain {q : List UInt8} : ∀ {p s : List UInt8}, (∀ c ∈ p, c ≠ 42 ∧ c ≠ 63) → (gm (p ++ q) s = true ↔ ∃ u, s = p ++ u ∧ gm q u = true)
  | [], s, _ => by simp
  | c :: p, s, h => by
    have hc := h c (by simp)
    have ih := fun t => gm_plain (q := q) (p := p) (s := t) fun c hc => h c (by simp [hc])
    rw [List.cons_append, gm_char hc.1]
    constructor
    · rintro ⟨b, t, rfl, hb, ht⟩
      obtain ⟨u, rfl, hu⟩ := (ih t).1 ht
      rcases hb with hb | rfl
      · exact absurd hb hc.2
      · exact ⟨u, rfl, hu⟩
    · rintro ⟨u, rfl, hu⟩
      exact ⟨c, p ++ u, rfl, .inr rfl, (ih _).2 ⟨u, rfl, hu⟩⟩
theorem plain_eq {p s : List UInt8} (h : ∀ c ∈ p, c ≠ 42 ∧ c ≠ 63) : gm p s = (p == s) := by
  rw [Bool.eq_iff_iff, ← List.append_nil p, gm_plain (q := []) h]
  simp only [gm_nil, List.isEmpty_iff, List.append_nil, beq_iff_eq]
  constructor
  · rintro ⟨u, rfl, rfl⟩; simp
  · rintro rfl; exact ⟨[], by simp, rfl⟩
theorem stars_all {n : Nat} {s : List UInt8} : gm (List.replicate (n + 1) 42) s = true := by
  rw [List.replicate_succ, gm_star]
  exact ⟨s, [], by simp, by rw [gm_stars]; simp⟩
theorem plain_begs {p s : List UInt8} {n : Nat} (h : ∀ c ∈ p, c ≠ 42 ∧ c ≠ 63) : gm (p ++ List.replicate (n + 1) 42) s = begs p s := by
  rw [Bool.eq_iff_iff, gm_plain h, begs_iff]
  exact ⟨fun ⟨u, hu, _⟩ => ⟨u, hu⟩, fun ⟨u, hu⟩ => ⟨u, hu, stars_all⟩⟩
def ends (p s : List UInt8) : Bool := decide (p.length ≤ s.length) && (s.drop (s.length - p.length) == p)
theorem plain_ends {p s : List UInt8} {n : Nat} (h : ∀ c ∈ p, c ≠ 42 ∧ c ≠ 63) : gm (List.replicate (n + 1) 42 ++ p) s = ends p s := by
  rw [Bool.eq_iff_iff, gm_append]
  simp only [ends, Bool.and_eq_true, decide_eq_true_eq, beq_iff_eq]
  constructor
  · rintro ⟨a, b, rfl, _, hb⟩
    rw [plain_eq h, beq_iff_eq] at hb
    subst hb
    simp
  · rintro ⟨h1, h2⟩
    refine ⟨s.take (s.length - p.length), s.drop (s.length - p.length), (List.take_append_drop _ _).symm, stars_all, ?_⟩
    rw [plain_eq h, h2, beq_iff_eq]
theorem quests : ∀ {n : Nat} {s : List UInt8}, gm (List.replicate n 63) s = (s.length == n)
  | 0, s => by cases s <;> simp [gm_nil]
  | n + 1, [] => by rw [List.replicate_succ, gm_char_nil (by decide)]; simp
  | n + 1, b :: t => by
    rw [List.replicate_succ, gm_char_cons (by decide), quests, Bool.eq_iff_iff]
    simp

/-! the loops -/
theorem signs {p : List UInt8} {x1 x2 : IV} (hp : p.length ≤ 40) : ∀ (d i : Nat), i + d = p.length →
    runW pg 0 fn4L0 [(0, .str (bs p)), (1, x1), (2, x2), (7, .int .i64 i)] H = some (.ret, [(6, .bool true)], H) ∨
    (runW pg 0 fn4L0 [(0, .str (bs p)), (1, x1), (2, x2), (7, .int .i64 i)] H = some (.exit 0, [(0, .str (bs p)), (1, x1), (2, x2), (7, .int .i64 p.length), (27, .bool false)], H) ∧ ∀ c ∈ p.drop i, c ≠ 42 ∧ c ≠ 63) := by
  have L : ∀ e, runW pg 0 fn4L0 e H = seqO pg 0 fn4L0 (runW pg 0 fn4B0 (keepE [0, 1, 2, 7] e) H) := fun e => runW_loopO
  intro d
  induction d with
  | zero =>
    intro i hi
    have : i = p.length := by omega
    subst this
    refine .inr ⟨?_, by simp⟩
    rw [L]; simp [-getElem?_pos, fn4B0]
  | succ d ih =>
    intro i hi
    have h1 : (i : Int) < p.length := by omega
    have h2 : i < p.length := by omega
    have w1 : IntKind.i64.wrap ((i : Int) + 1) = i + 1 := by rw [IntKind.wrap_i64]; omega
    obtain ⟨c, hc⟩ : ∃ c, p[i]? = some c := ⟨_, List.getElem?_eq_getElem h2⟩
    by_cases e42 : c = 42
    · subst e42
      refine .inl ?_
      rw [L]; simp [-getElem?_pos, fn4B0, h1, h2, hc]
    by_cases e63 : c = 63
    · subst e63
      refine .inl ?_
      rw [L]; simp [-getElem?_pos, fn4B0, h1, h2, hc]
    have e : runW pg 0 fn4L0 [(0, .str (bs p)), (1, x1), (2, x2), (7, .int .i64 i)] H = runW pg 0 fn4L0 [(0, .str (bs p)), (1, x1), (2, x2), (7, .int .i64 (i + 1 : Nat))] H := by
      rw [L]; simp [-getElem?_pos, fn4B0, h1, h2, hc, b42, b63, e42, e63, w1]
    rw [e]
    refine (ih (i + 1) (by omega)).imp id fun ⟨h3, h4⟩ => ⟨h3, ?_⟩
    rw [Vs.drop_cons hc]
    simpa [e42, e63] using h4

theorem stars {x0 x1 : IV} {n : Nat} (hn : n < 256) : ∀ (d i : Nat), i + d = n % 5 + 1 →
    runW pg 0 fn4L1 [(0, x0), (1, x1), (2, .int .u8 n), (8, .str (bs (List.replicate i 42))), (9, .int .i64 i)] H = some (.exit 2, [(0, x0), (1, x1), (2, .int .u8 n), (8, .str (bs (List.replicate (n % 5 + 1) 42))), (9, .int .i64 (n % 5 + 1 : Nat)), (44, .bool false)], H) := by
  have L : ∀ e, runW pg 0 fn4L1 e H = seqO pg 0 fn4L1 (runW pg 0 fn4B1 (keepE [0, 1, 2, 8, 9] e) H) := fun e => runW_loopO
  have t1 : binV .rem (.int .u8 n) (.int .u8 5) = some (.int .u8 ((n : Int) % 5)) := by rw [bin_rem (by decide), Int.tmod_eq_emod_of_nonneg (by omega)]
  have w0 : IntKind.i64.wrap ((n : Int) % 5) = (n : Int) % 5 := by rw [IntKind.wrap_i64]; omega
  intro d
  induction d with
  | zero =>
    intro i hi
    have : i = n % 5 + 1 := by omega
    subst this
    have h1 : ¬ ((n : Int) % 5 + 1 ≤ n % 5) := by omega
    rw [L]; simp [fn4B1, t1, w0, h1]
  | succ d ih =>
    intro i hi
    have h1 : (i : Int) ≤ n % 5 := by omega
    have w1 : IntKind.i64.wrap ((i : Int) + 1) = i + 1 := by rw [IntKind.wrap_i64]; omega
    have n1 : ¬ ((9223372036854775807 : Int) < (i : Int) + 1) := by omega
    have e42 : (⟨#[42]⟩ : ByteArray) = bs [42] := rfl
    have e1 : List.replicate i (42 : UInt8) ++ [42] = List.replicate (i + 1) 42 := by rw [List.replicate_succ']
    have hih := ih (i + 1) (by omega)
    push_cast at hih
    rw [L]; simp [fn4B1, t1, w0, h1, w1, n1, e42, e1, hih]
theorem qs {x0 x8 : IV} {s : List UInt8} (hs : s.length ≤ 40) : ∀ (d i : Nat), i + d = s.length →
    runW pg 0 fn4L2 [(0, x0), (1, .str (bs s)), (8, x8), (10, .str (bs (List.replicate i 63))), (11, .int .i64 i)] H = some (.exit 4, [(0, x0), (1, .str (bs s)), (8, x8), (10, .str (bs (List.replicate s.length 63))), (11, .int .i64 s.length), (52, .bool false)], H) := by
  have L : ∀ e, runW pg 0 fn4L2 e H = seqO pg 0 fn4L2 (runW pg 0 fn4B2 (keepE [0, 1, 8, 10, 11] e) H) := fun e => runW_loopO
  intro d
  induction d with
  | zero =>
    intro i hi
    have : i = s.length := by omega
    subst this
    rw [L]; simp [fn4B2]
  | succ d ih =>
    intro i hi
    have h1 : (i : Int) < s.length := by omega
    have w1 : IntKind.i64.wrap ((i : Int) + 1) = i + 1 := by rw [IntKind.wrap_i64]; omega
    have n1 : ¬ ((9223372036854775807 : Int) < (i : Int) + 1) := by omega
    have e63 : (⟨#[63]⟩ : ByteArray) = bs [63] := rfl
    have e1 : List.replicate i (63 : UInt8) ++ [63] = List.replicate (i + 1) 63 := by rw [List.replicate_succ']
    have hih := ih (i + 1) (by omega)
    push_cast at hih
    rw [L]; simp [fn4B2, h1, w1, n1, e63, e1, hih]

theorem law {p s : List UInt8} {n : Nat} (hn : n < 256) : ∃ H', callW pg 0 4 [.str (bs p), .str (bs s), .int .u8 n] [] = some (.bool true, H') := by
  rw [callW_eqO (fn := fn4) rfl rfl]
  by_cases hp : 40 < p.length
  · refine ⟨[], ?_⟩
    have h1 : (40 : Int) < p.length := by omega
    simp [fn4, known_2, hp, h1]
  have hp1 : ¬ (40 : Int) < p.length := by omega
  by_cases hs : 40 < s.length
  · refine ⟨[], ?_⟩
    have h1 : (40 : Int) < s.length := by omega
    simp [fn4, known_2, hp, hp1, hs, h1]
  have hs1 : ¬ (40 : Int) < s.length := by omega
  rcases signs (H := []) (p := p) (x1 := .str (bs s)) (x2 := .int .u8 n) (by omega) p.length 0 (by omega) with h1 | ⟨h1, hpl⟩
  · refine ⟨[], ?_⟩
    simp at h1
    simp [fn4, known_2, hp, hp1, hs, hs1, h1]
  rw [List.drop_zero] at hpl
  have h2 := stars (H := []) (x0 := .str (bs p)) (x1 := .str (bs s)) hn (n % 5 + 1) 0 (by omega)
  have h3 := qs (H := []) (x0 := .str (bs p)) (s := s) (x8 := .str (bs (List.replicate (n % 5 + 1) 42))) (by omega) s.length 0 (by omega)
  have g1 := fun ro H => glob_2 (ro := ro) (H := H) (pat := p) (s := s) (by omega) (by omega)
  have g2 := fun ro H => glob_2 (ro := ro) (H := H) (pat := p ++ List.replicate (n % 5 + 1) 42) (s := s) (by simp; omega) (by omega)
  have g3 := fun ro H => glob_2 (ro := ro) (H := H) (pat := List.replicate (n % 5 + 1) 42 ++ p) (s := s) (by simp; omega) (by omega)
  have g4 := fun ro H => glob_2 (ro := ro) (H := H) (pat := List.replicate (n % 5 + 1) 42) (s := s) (by simp; omega) (by omega)
  have g5 := fun ro H => glob_2 (ro := ro) (H := H) (pat := List.replicate s.length 63) (s := s) (by simp; omega) (by omega)
  have g6 := fun ro H => glob_2 (ro := ro) (H := H) (pat := List.replicate (s.length + 1) 63) (s := s) (by simp; omega) (by omega)
  have g7 := fun ro H => one_2 (ro := ro) (H := H) (n := bs []) (k := 3) (t := p) (s := s) (by omega) (by omega)
  rw [plain_eq hpl] at g1
  rw [plain_begs hpl] at g2
  rw [plain_ends hpl] at g3
  rw [stars_all] at g4
  rw [quests] at g5 g6
  have e63 : (⟨#[63]⟩ : ByteArray) = bs [63] := rfl
  have e1 : List.replicate s.length (63 : UInt8) ++ [63] = List.replicate (s.length + 1) 63 := by rw [List.replicate_succ']
  have f6 : (s.length == s.length + 1) = false := by simp
  rw [f6] at g6
  have o3 : oneM 3 p s = begs p s := rfl
  rw [o3] at g7
  have n1 : ¬ ((9223372036854775807 : Int) < (s.length : Int) + 1) := by omega
  have n2 : ¬ ((9223372036854775807 : Int) < (p.length : Int) + (n % 5 + 1)) := by omega
  have n3 : ¬ ((9223372036854775807 : Int) < ((n : Int) % 5 + 1) + p.length) := by omega
  simp at h1 h2 h3 g5
  refine ⟨[], ?_⟩
  by_cases hl : p.length ≤ s.length
  · have hl1 : (p.length : Int) ≤ s.length := by omega
    have w1 : IntKind.i64.wrap ((s.length : Int) - p.length) = (s.length - p.length : Nat) := by rw [IntKind.wrap_i64]; omega
    have eb : (s.take p.length == p) = begs p s := rfl
    have ee : (s.drop (s.length - p.length) == p) = ends p s := by simp [ends, hl]
    have et : List.take (s.length - (s.length - p.length)) (s.drop (s.length - p.length)) = s.drop (s.length - p.length) := List.take_of_length_le (by simp)
    simp [fn4, known_2, hp, hp1, hs, hs1, h1, h2, h3, bs0, hl, hl1, w1, eb, ee, et, g1, g2, g3, g4, g5, g6, g7, n1, n2, n3, e63, e1]
  · have hl1 : ¬ (p.length : Int) ≤ s.length := by omega
    have eb : begs p s = false := begs_long hl
    have ee : ends p s = false := by simp [ends, hl]
    rw [eb] at g2 g7
    rw [ee] at g3
    simp [fn4, known_2, hp, hp1, hs, hs1, h1, h2, h3, bs0, hl, hl1, g1, g2, g3, g4, g5, g6, g7, n1, n2, n3, e63, e1]
theorem wf (x0 x1 : Ty.str.den) (x2 : (Ty.int .u8).den) (_ : Ty.str.ok x0) (_ : Ty.str.ok x1) (h2 : (Ty.int .u8).ok x2) : ∃ H', callW pg 0 4 [Ty.str.arg x0, Ty.str.arg x1, (Ty.int .u8).arg x2] [] = some (.bool true, H') := by
  obtain ⟨p, e0⟩ := bs_of x0
  obtain ⟨s, e1⟩ := bs_of x1
  have hr := wf_u8 x2 h2
  obtain ⟨n, e2⟩ : ∃ n : Nat, x2 = (n : Int) := ⟨Int.toNat x2, (Int.toNat_of_nonneg hr.1).symm⟩
  show ∃ H', callW pg 0 4 [.str x0, .str x1, .int .u8 x2] [] = some (.bool true, H')
  have hn : n < 256 := by have := hr.2; rw [e2] at this; omega
  rw [e0, e1, e2]
  exact law hn
end Plain
end Go.Proofs.YtpmgmepanbdfpaaDoor
