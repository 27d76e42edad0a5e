import Derived.Test.YtdeennacdlpheaaTvn0
import Derived.Test.YtdeennacdlpheaaTvn1
import Derived.Test.YtdeennacdlpheaaTvn2
import Derived.Test.YtdeennacdlpheaaTvn3
import Derived.Test.YtdeennacdlpheaaTvn4
import Derived.Test.YtdeennacdlpheaaTvn5
import Derived.Test.YtdeennacdlpheaaTvn6
import Derived.Test.YtdeennacdlpheaaTvn7
import Derived.Test.YtdeennacdlpheaaVsArg
/- The law 'VectorMatch'. -/
namespace Go.Proofs.Ytdeennacdlpheaa
open Go Go.Vs

theorem rest3_ok : ∀ (k : Nat), k < 5 → ∀ (s : Bool) (j : Nat), j < 5 → ∀ M : IV, endsT 6 (runC (callN pg 60) 0 60 rest3 [(1, M), (2, .bool s), (7, (gA k).1), (8, (gB k s j).1), (10, key s), (11, .int .i64 j), (40, .bool false)] (gB k s j).2) = some (.bool true)
  | 0, _, false, 0, _ => r3_0_0_0
  | 0, _, false, 1, _ => r3_0_0_1
  | 0, _, false, 2, _ => r3_0_0_2
  | 0, _, false, 3, _ => r3_0_0_3
  | 0, _, false, 4, _ => r3_0_0_4
  | 0, _, true, 0, _ => r3_0_1_0
  | 0, _, true, 1, _ => r3_0_1_1
  | 0, _, true, 2, _ => r3_0_1_2
  | 0, _, true, 3, _ => r3_0_1_3
  | 0, _, true, 4, _ => r3_0_1_4
  | 1, _, false, 0, _ => r3_1_0_0
  | 1, _, false, 1, _ => r3_1_0_1
  | 1, _, false, 2, _ => r3_1_0_2
  | 1, _, false, 3, _ => r3_1_0_3
  | 1, _, false, 4, _ => r3_1_0_4
  | 1, _, true, 0, _ => r3_1_1_0
  | 1, _, true, 1, _ => r3_1_1_1
  | 1, _, true, 2, _ => r3_1_1_2
  | 1, _, true, 3, _ => r3_1_1_3
  | 1, _, true, 4, _ => r3_1_1_4
  | 2, _, false, 0, _ => r3_2_0_0
  | 2, _, false, 1, _ => r3_2_0_1
  | 2, _, false, 2, _ => r3_2_0_2
  | 2, _, false, 3, _ => r3_2_0_3
  | 2, _, false, 4, _ => r3_2_0_4
  | 2, _, true, 0, _ => r3_2_1_0
  | 2, _, true, 1, _ => r3_2_1_1
  | 2, _, true, 2, _ => r3_2_1_2
  | 2, _, true, 3, _ => r3_2_1_3
  | 2, _, true, 4, _ => r3_2_1_4
  | 3, _, false, 0, _ => r3_3_0_0
  | 3, _, false, 1, _ => r3_3_0_1
  | 3, _, false, 2, _ => r3_3_0_2
  | 3, _, false, 3, _ => r3_3_0_3
  | 3, _, false, 4, _ => r3_3_0_4
  | 3, _, true, 0, _ => r3_3_1_0
  | 3, _, true, 1, _ => r3_3_1_1
  | 3, _, true, 2, _ => r3_3_1_2
  | 3, _, true, 3, _ => r3_3_1_3
  | 3, _, true, 4, _ => r3_3_1_4
  | 4, _, false, 0, _ => r3_4_0_0
  | 4, _, false, 1, _ => r3_4_0_1
  | 4, _, false, 2, _ => r3_4_0_2
  | 4, _, false, 3, _ => r3_4_0_3
  | 4, _, false, 4, _ => r3_4_0_4
  | 4, _, true, 0, _ => r3_4_1_0
  | 4, _, true, 1, _ => r3_4_1_1
  | 4, _, true, 2, _ => r3_4_1_2
  | 4, _, true, 3, _ => r3_4_1_3
  | 4, _, true, 4, _ => r3_4_1_4
  | k + 5, h, _, _, _ => by omega
  | _, _, _, j + 5, h => by omega

/-! put together -/
theorem cond0_run {n : Int} {k i : Nat} (hrem : binV .rem (.int .u8 n) (.int .u8 5) = some (.int .u8 k)) (hk : k < 5) {M S a b : IV} {H : Hp} : runW pg 0 cond0 [(0, .int .u8 n), (1, M), (2, S), (7, a), (8, b), (9, .int .i64 i)] H =
    some (if i < k then .nrm else .exit 0, [(0, .int .u8 n), (1, M), (2, S), (7, a), (8, b), (9, .int .i64 i), (22, .bool (decide (i < k)))], H) := by
  have wk : IntKind.i64.wrap (k : Int) = k := by rw [IntKind.wrap_i64]; omega
  have e : cond0 = hd fn3B0 := rfl
  rw [e, fn3B0, hd]
  by_cases h : i < k
  · have h2 : (i : Int) < k := by omega
    simp [hrem, wk, h]
  · have h2 : ¬ (i : Int) < k := by omega
    simp [hrem, wk, h]
theorem cond1_run {n : Int} {k i : Nat} (hrem : binV .rem (.int .u8 n) (.int .u8 5) = some (.int .u8 k)) (hk : k < 5) {S a b c : IV} {H : Hp} : runW pg 0 cond1 [(1, .int .u8 n), (2, S), (7, a), (8, b), (10, c), (11, .int .i64 i)] H =
    some (if i < k then .nrm else .exit 2, [(1, .int .u8 n), (2, S), (7, a), (8, b), (10, c), (11, .int .i64 i), (40, .bool (decide (i < k)))], H) := by
  have wk : IntKind.i64.wrap (k : Int) = k := by rw [IntKind.wrap_i64]; omega
  have e : cond1 = hd fn3B1 := rfl
  rw [e, fn3B1, hd]
  by_cases h : i < k
  · have h2 : (i : Int) < k := by omega
    simp [hrem, wk, h]
  · have h2 : ¬ (i : Int) < k := by omega
    simp [hrem, wk, h]

theorem loopA {n : Int} {k : Nat} (hrem : binV .rem (.int .u8 n) (.int .u8 5) = some (.int .u8 k)) (hk : k < 5) {M S : IV} : ∀ (d i : Nat), i + d = k →
    runW pg 0 fn3L0 [(0, .int .u8 n), (1, M), (2, S), (7, (gA i).1), (8, .nsl), (9, .int .i64 i)] (gA i).2 = some (.exit 0, [(0, .int .u8 n), (1, M), (2, S), (7, (gA k).1), (8, .nsl), (9, .int .i64 k), (22, .bool false)], (gA k).2) := by
  have L : ∀ e H, runW pg 0 fn3L0 e H = seqO pg 0 fn3L0 (runW pg 0 fn3B0 (keepE [0, 1, 2, 7, 8, 9] e) H) := fun e H => runW_loopO
  have eB : fn3B0 = .seq cond0 body0 := rfl
  have K : ∀ a b c d e f : IV, keepE [0, 1, 2, 7, 8, 9] [(0, a), (1, b), (2, c), (7, d), (8, e), (9, f)] = [(0, a), (1, b), (2, c), (7, d), (8, e), (9, f)] := fun _ _ _ _ _ _ => rfl
  intro d
  induction d with
  | zero =>
    intro i hi
    have : i = k := by omega
    subst this
    rw [L, K, eB, runW_seqO, cond0_run hrem hk, if_neg (Nat.lt_irrefl _)]
    simp
  | succ d ih =>
    intro i hi
    have hlt : i < k := by omega
    have h1 := runW_iff.2 ⟨60, stepA i (by omega) (.int .u8 n) M S⟩
    rw [L, K, eB, runW_seqO, cond0_run hrem hk, if_pos hlt, decide_eq_true hlt, seqO_nrm, h1, seqO_nrm]
    exact ih (i + 1) (by omega)
theorem loopB {m : Int} {k j : Nat} (hrem : binV .rem (.int .u8 m) (.int .u8 5) = some (.int .u8 j)) (hk : k < 5) (hj : j < 5) {S : IV} (s : Bool) : ∀ (d i : Nat), i + d = j →
    runW pg 0 fn3L1 [(1, .int .u8 m), (2, S), (7, (gA k).1), (8, (gB k s i).1), (10, key s), (11, .int .i64 i)] (gB k s i).2 = some (.exit 2, [(1, .int .u8 m), (2, S), (7, (gA k).1), (8, (gB k s j).1), (10, key s), (11, .int .i64 j), (40, .bool false)], (gB k s j).2) := by
  have L : ∀ e H, runW pg 0 fn3L1 e H = seqO pg 0 fn3L1 (runW pg 0 fn3B1 (keepE [1, 2, 7, 8, 10, 11] e) H) := fun e H => runW_loopO
  have eB : fn3B1 = .seq cond1 body1 := rfl
  have K : ∀ a b c d e f : IV, keepE [1, 2, 7, 8, 10, 11] [(1, a), (2, b), (7, c), (8, d), (10, e), (11, f)] = [(1, a), (2, b), (7, c), (8, d), (10, e), (11, f)] := fun _ _ _ _ _ _ => rfl
  intro d
  induction d with
  | zero =>
    intro i hi
    have : i = j := by omega
    subst this
    rw [L, K, eB, runW_seqO, cond1_run hrem hj, if_neg (Nat.lt_irrefl _)]
    simp
  | succ d ih =>
    intro i hi
    have hlt : i < j := by omega
    have h1 := runW_iff.2 ⟨60, stepB k hk s i (by omega) (.int .u8 m) S⟩
    rw [L, K, eB, runW_seqO, cond1_run hrem hj, if_pos hlt, decide_eq_true hlt, seqO_nrm, h1, seqO_nrm]
    exact ih (i + 1) (by omega)

theorem Match.law {n m : Int} (hn : 0 ≤ n ∧ n < 256) (hm : 0 ≤ m ∧ m < 256) (s : Bool) : ∃ H', callW pg 0 3 [.int .u8 n, .int .u8 m, .bool s] [] = some (.bool true, H') := by
  obtain ⟨k, hk, hk5⟩ : ∃ k : Nat, n.tmod 5 = k ∧ k < 5 := ⟨(n.tmod 5).toNat, by rw [Int.tmod_eq_emod_of_nonneg hn.1]; omega, by rw [Int.tmod_eq_emod_of_nonneg hn.1]; omega⟩
  obtain ⟨j, hj, hj5⟩ : ∃ j : Nat, m.tmod 5 = j ∧ j < 5 := ⟨(m.tmod 5).toNat, by rw [Int.tmod_eq_emod_of_nonneg hm.1]; omega, by rw [Int.tmod_eq_emod_of_nonneg hm.1]; omega⟩
  have r1 : binV .rem (.int .u8 n) (.int .u8 5) = some (.int .u8 k) := by rw [bin_rem (by decide), hk]
  have r2 : binV .rem (.int .u8 m) (.int .u8 5) = some (.int .u8 j) := by rw [bin_rem (by decide), hj]
  have hA := loopA r1 hk5 (M := .int .u8 m) (S := .bool s) k 0 (by omega)
  have hB := loopB r2 hk5 hj5 (S := .bool s) s j 0 (by omega)
  obtain ⟨H', h⟩ := ends_of (rest3_ok k hk5 s j hj5 (.int .u8 m))
  refine ⟨H', ?_⟩
  have e : fn3.cd = .seq (hd fn3.cd) (.seq (hd (tl fn3.cd)) (.seq (hd (tl (tl fn3.cd))) (.seq (hd (tl (tl (tl fn3.cd)))) (.seq (hd (tl (tl (tl (tl fn3.cd))))) (.seq (hd (tl (tl (tl (tl (tl fn3.cd)))))) (.seq (hd (tl (tl (tl (tl (tl (tl fn3.cd))))))) rest3)))))) := rfl
  rw [callW_eqO (fn := fn3) rfl rfl, e]
  have e0 := gA0
  have e1 := gB0 k hk5 s
  rw [e0] at hA
  rw [e1] at hB
  have c1 : runW pg 0 (hd fn3.cd) (parE 0 [.int .u8 n, .int .u8 m, .bool s]) [] = some (.nrm, [(0, .int .u8 n), (1, .int .u8 m), (2, .bool s)], []) := by simp [fn3, hd]
  have c2 : runW pg 0 (hd (tl fn3.cd)) [(0, .int .u8 n), (1, .int .u8 m), (2, .bool s)] [] = some (.nrm, [(0, .int .u8 n), (1, .int .u8 m), (2, .bool s), (17, .bool false)], []) := by
    simp [fn3, hd, tl, known_2]
  have c3 : runW pg 0 (hd (tl (tl fn3.cd))) [(0, .int .u8 n), (1, .int .u8 m), (2, .bool s), (17, .bool false)] [] = some (.nrm, [(0, .int .u8 n), (1, .int .u8 m), (2, .bool s), (7, .nsl), (8, .nsl)], []) := by
    simp [fn3, hd, tl]
  have c4 : runW pg 0 (hd (tl (tl (tl fn3.cd)))) [(0, .int .u8 n), (1, .int .u8 m), (2, .bool s), (7, .nsl), (8, .nsl)] [] = some (.nrm, [(0, .int .u8 n), (1, .int .u8 m), (2, .bool s), (7, (gA k).1), (8, .nsl), (9, .int .i64 k), (22, .bool false)], (gA k).2) := by
    simp at hA
    simp [fn3, hd, tl, hA]
  have c5 : runW pg 0 (hd (tl (tl (tl (tl fn3.cd))))) [(0, .int .u8 n), (1, .int .u8 m), (2, .bool s), (7, (gA k).1), (8, .nsl), (9, .int .i64 k), (22, .bool false)] (gA k).2 = some (.nrm, [(1, .int .u8 m), (2, .bool s), (7, (gA k).1), (8, .nsl), (10, .str ⟨#[120]⟩)], (gA k).2) := by
    simp [fn3, hd, tl]
  have c6 : ∃ X, runW pg 0 (hd (tl (tl (tl (tl (tl fn3.cd)))))) [(1, .int .u8 m), (2, .bool s), (7, (gA k).1), (8, .nsl), (10, .str ⟨#[120]⟩)] (gA k).2 = some (.nrm, X, (gA k).2) ∧ get X 1 = .int .u8 m ∧ get X 2 = .bool s ∧ get X 7 = (gA k).1 ∧ get X 8 = .nsl ∧ get X 10 = key s := by
    cases s
    · exact ⟨_, by simp [fn3, hd, tl]; rfl, rfl, rfl, rfl, rfl, rfl⟩
    · exact ⟨_, by simp [fn3, hd, tl]; rfl, rfl, rfl, rfl, rfl, rfl⟩
  obtain ⟨X, c6, x1, x2, x7, x8, x10⟩ := c6
  have c7 : runW pg 0 (hd (tl (tl (tl (tl (tl (tl fn3.cd))))))) X (gA k).2 = some (.nrm, [(1, .int .u8 m), (2, .bool s), (7, (gA k).1), (8, (gB k s j).1), (10, key s), (11, .int .i64 j), (40, .bool false)], (gB k s j).2) := by
    simp at hB
    simp [fn3, hd, tl, x1, x2, x7, x8, x10, hB]
  rw [runW_seqO, c1, seqO_nrm, runW_seqO, c2, seqO_nrm, runW_seqO, c3, seqO_nrm, runW_seqO, c4, seqO_nrm, runW_seqO, c5, seqO_nrm, runW_seqO, c6, seqO_nrm, runW_seqO, c7, seqO_nrm]
  exact h
theorem Match.wf (x0 x1 : (Ty.int .u8).den) (x2 : (Ty.bool).den) (h0 : (Ty.int .u8).ok x0) (h1 : (Ty.int .u8).ok x1) (_ : (Ty.bool).ok x2) :
    ∃ H', callW pg 0 3 [(Ty.int .u8).arg x0, (Ty.int .u8).arg x1, (Ty.bool).arg x2] [] = some (.bool true, H') := Match.law (wf_u8 _ h0) (wf_u8 _ h1) x2

end Go.Proofs.Ytdeennacdlpheaa
