import Derived.Test.YtfgmncabjljhmaaTcnt18
namespace Go.Proofs.Ytfgmncabjljhmaa
open Go Go.Vs
variable {ro : Nat} {H : Hp}

/-! the law 'CounterSlides' -/
namespace Sld

def f (u : Int) (j : Nat) : Smp := (j, false, (j : Int) * u * 1000000)
def seg (u : Int) : Nat → Nat → List Smp
  | _, 0 => []
  | a, n + 1 => f u a :: seg u (a + 1) n
theorem seg_snoc {u : Int} : ∀ (n a : Nat), seg u a (n + 1) = seg u a n ++ [f u (a + n)]
  | 0, a => rfl
  | n + 1, a => by
    rw [seg, seg_snoc n (a + 1), seg]
    simp [Nat.add_assoc, Nat.add_comm 1 n]
theorem len_seg {u : Int} : ∀ (n a : Nat), (seg u a n).length = n
  | 0, _ => rfl
  | n + 1, a => by simp [seg, len_seg n]
theorem mem_seg {u : Int} : ∀ (n a : Nat) {s}, s ∈ seg u a n → ∃ j, a ≤ j ∧ j < a + n ∧ s = f u j
  | 0, a, s, h => by simp [seg] at h
  | n + 1, a, s, h => by
    rcases List.mem_cons.1 h with rfl | h
    · exact ⟨a, by omega, by omega, rfl⟩
    · obtain ⟨j, h1, h2, h3⟩ := mem_seg n (a + 1) h
      exact ⟨j, by omega, by omega, h3⟩
theorem get_seg {u : Int} : ∀ (n a j : Nat), j < n → (seg u a n)[j]? = some (f u (a + j))
  | 0, _, _, h => by omega
  | n + 1, a, 0, _ => rfl
  | n + 1, a, j + 1, h => by
    rw [seg, List.getElem?_cons_succ, get_seg n (a + 1) j (by omega), show a + 1 + j = a + (j + 1) by omega]
theorem getD_seg {u : Int} {n a j : Nat} (h : j < n) : (seg u a n).getD j (0, false, 0) = f u (a + j) := by
  rw [List.getD_eq_getElem?_getD, get_seg n a j h]; rfl

theorem mul_b {j : Nat} {u : Int} (hj : j ≤ 300) (hu : 0 ≤ u ∧ u < 256) : 0 ≤ (j : Int) * u ∧ (j : Int) * u ≤ 300 * 256 :=
  ⟨Int.mul_nonneg (by omega) hu.1, Int.mul_le_mul (by omega) (by omega) hu.1 (by omega)⟩

theorem rs_eq {u : Int} (hu : 0 ≤ u ∧ u < 256) {a n : Nat} (hn : a + n ≤ 300) : ∀ (m : Nat), m + 1 ≤ n → anyOv (rs (seg u a n) m) = false ∧ totN (rs (seg u a n) m) = (m : Int) * u * 1000000
  | 0, _ => by simp [rs, anyOv, totN]
  | m + 1, hm => by
    have ih := rs_eq hu hn m (by omega)
    have b1 := mul_b (j := a + m) (by omega) hu
    have b2 := mul_b (j := a + (m + 1)) (by omega) hu
    have e : ((a + (m + 1) : Nat) : Int) * u = ((a + m : Nat) : Int) * u + u := by push_cast; grind
    have e2 : ((m + 1 : Nat) : Int) * u = (m : Int) * u + u := by push_cast; grind
    have hr : riseN (f u (a + m)).2 (f u (a + (m + 1))).2 = (false, u * 1000000) := by
      simp only [f]
      rw [rise_num (by omega) (by omega), if_neg (by omega)]
      congr 1; omega
    rw [rs_succ, getD_seg (by omega), getD_seg (by omega), hr]
    have app : ∀ (x y : List Num), anyOv (x ++ y) = (anyOv x || anyOv y) ∧ totN (x ++ y) = totN x + totN y := fun x y => by
      refine ⟨by simp [anyOv], ?_⟩
      induction x with
      | nil => simp [totN]
      | cons a x ih => simp only [List.cons_append, totN, ih]; omega
    rw [(app _ _).1, (app _ _).2, ih.1, ih.2]
    refine ⟨?_, ?_⟩
    · have : ¬ u * 1000000 = -9223372036854775808 := by omega
      simp [anyOv, ovN, this]
    · simp only [totN]; rw [e2]; omega

theorem inc_eq {u : Int} (hu : 0 ≤ u ∧ u < 256) {a m : Nat} (hn : a + (m + 1) ≤ 300) (hm : 1 ≤ m) : incL (seg u a (m + 1)) = ((false, (m : Int) * u * 1000000), true) := by
  obtain ⟨h1, h2⟩ := rs_eq hu hn m (by omega)
  have b := mul_b (j := m) (by omega) hu
  unfold incL
  rw [len_seg, if_neg (by omega), show m + 1 - 1 = m by omega]
  unfold sumL
  rw [h1, h2]
  simp only [Bool.false_eq_true, if_false]
  unfold fitN
  rw [if_pos (by omega)]

theorem res_eq {u : Int} (hu : 0 ≤ u ∧ u < 256) {a n : Nat} (hn : a + n ≤ 300) : ∀ (m : Nat), m + 1 ≤ n → resN (seg u a n) m = 0
  | 0, _ => rfl
  | m + 1, hm => by
    have b1 := mul_b (j := a + m) (by omega) hu
    have b2 := mul_b (j := a + (m + 1)) (by omega) hu
    have e : ((a + (m + 1) : Nat) : Int) * u = ((a + m : Nat) : Int) * u + u := by push_cast; grind
    have hc : ¬ cmpN (f u (a + (m + 1))).2.1 (f u (a + (m + 1))).2.2 (f u (a + m)).2.1 (f u (a + m)).2.2 < 0 := by
      show ¬ cmpN false (((a + (m + 1) : Nat) : Int) * u * 1000000) false (((a + m : Nat) : Int) * u * 1000000) < 0
      rw [cmp_num (by omega) (by omega), if_neg (by omega)]
      split <;> simp
    simp only [resN]
    rw [res_eq hu hn m (by omega), getD_seg (by omega), getD_seg (by omega), if_neg hc]
    simp

def wn (u : Int) (k i : Nat) : Cnt := ⟨k, ((i - 1 : Nat) : Int), (i : Int) - 1, seg u (i - k) (min i k)⟩
def wm (u : Int) (k i : Nat) : Cnt := ⟨k, i, (i : Int) - 1, seg u (i + 1 - k) (min i (k - 1))⟩

theorem seg_ok {u : Int} (hu : 0 ≤ u ∧ u < 256) {k a n : Nat} {now last : Int} (hk : 1 ≤ k) (hk2 : k ≤ 100) (h1 : 0 ≤ now) (h2 : now ≤ 1000000) (h3 : a + n ≤ 300) : CntOk ⟨k, now, last, seg u a n⟩ := by
  refine ⟨by dsimp only; omega, by dsimp only; omega, h1, h2, by dsimp only; rw [len_seg]; omega, fun s hs => ?_⟩
  obtain ⟨j, _, h, rfl⟩ := mem_seg _ _ hs
  have := mul_b (j := j) (by omega) hu
  simp only [f, NumOk]; omega

theorem wn_adv {u : Int} {k i : Nat} (hk : 1 ≤ k) (hi : i ≤ 1000) : (wn u k i).adv i = wm u k i := by
  have e1 : max ((i - 1 : Nat) : Int) (min (i : Int) 1000000) = i := by omega
  simp only [Cnt.adv, wn, wm, e1]
  congr 1
  by_cases h : i < k
  · rw [strip_id, show i - k = i + 1 - k by omega, show min i k = min i (k - 1) by omega]
    intro x hx
    obtain ⟨j, _, h, rfl⟩ := mem_seg _ _ hx
    simp only [f]; omega
  · have e2 : min i k = (k - 1) + 1 := by omega
    have e3 : min i (k - 1) = k - 1 := by omega
    have e4 : i - k + 1 = i + 1 - k := by omega
    rw [e2, e3, seg, strip, if_pos (by simp only [f]; omega), e4, strip_id]
    intro x hx
    obtain ⟨j, h1, h, rfl⟩ := mem_seg _ _ hx
    simp only [f]; omega
theorem wm_takes {u : Int} {k i : Nat} (hk : 1 ≤ k) (hk2 : k ≤ 100) (hi : i ≤ 1000) : takes (wm u k i).w (wm u k i).now (wm u k i).last i = 0 := by
  have w1 : IntKind.i64.wrap ((i : Int) - k) = i - k := by rw [IntKind.wrap_i64]; omega
  simp only [wm]
  unfold takes; rw [w1, if_neg (by omega), if_neg (by omega)]
theorem wm_add {u : Int} (hu : 0 ≤ u ∧ u < 256) {k i : Nat} (hk : 1 ≤ k) (hk2 : k ≤ 100) (hi : i ≤ 256) : (wm u k i).add (f u i) = wn u k (i + 1) := by
  have ht := wm_takes (u := u) hk hk2 (show i ≤ 1000 by omega)
  have b := mul_b (j := i) (by omega) hu
  have hh : heldS (f u i) = f u i := by
    unfold heldS normN okNum f
    have : ¬ (i : Int) * u * 1000000 = -9223372036854775808 := by omega
    simp [this]
  rw [Cnt.add, if_pos (by exact ht), hh]
  have e2 : min (i + 1) k = min i (k - 1) + 1 := by omega
  have e3 : i + 1 - k + min i (k - 1) = i := by omega
  simp only [wn, wm, e2, seg_snoc, e3, f]
  simp

theorem L0_eq {e : Env} : runW pg 0 fn7L0 e H = seqO pg 0 fn7L0 (runW pg 0 fn7B0 (keepE [1, 2, 7, 8, 9] e) H) := runW_loopO

theorem body {C k i : Nat} {n u : Int} (hu : 0 ≤ u ∧ u < 256) (hk : 2 ≤ k) (hk2 : k ≤ 81) (hi : (i : Int) ≤ n) (hn : n < 256) (h : Hold H (CO C (wn u k i))) :
    ∃ H', Hold H' (CO C (wn u k (i + 1))) ∧ runW pg 0 fn7B0 [(1, .int .u8 n), (2, .int .u8 u), (7, .int .i64 k), (8, .ptr C 0 0 0), (9, .int .i64 i)] H =
      some (.nrm, [(1, .int .u8 n), (2, .int .u8 u), (7, .int .i64 k), (8, .ptr C 0 0 0), (9, .int .i64 ((i : Int) + 1))], H') := by
  have b := mul_b (j := i) (by omega) hu
  obtain ⟨H1, c1, h1⟩ := (adv_t (r := wn u k i) (n := i) (seg_ok hu (by omega) (by omega) (by omega) (by omega) (by omega) : CntOk (wn u k i))).use0 h
  rw [wn_adv (by omega) (by omega)] at h1
  obtain ⟨H2, c2, h2⟩ := (add_t (r := wm u k i) (t := i) (o := false) (n := (i : Int) * u * 1000000) (seg_ok hu (by omega) (by omega) (by omega) (by omega) (by omega) : CntOk (wm u k i))).use0 h1
  have htk := wm_takes (u := u) (k := k) (i := i) (by omega) (by omega) (by omega)
  rw [htk] at c2
  rw [show ((i : Int), false, (i : Int) * u * 1000000) = f u i from rfl, wm_add hu (by omega) (by omega) (by omega)] at h2
  have ok : CntOk (wn u k (i + 1)) := seg_ok hu (by omega) (by omega) (by omega) (by omega) (by omega)
  obtain ⟨m, hm⟩ : ∃ m, min (i + 1) k = m + 1 := ⟨min (i + 1) k - 1, by omega⟩
  have hmi : min (i : Int) ((k : Int) - 1) = m := by omega
  have g1 := fun ro => inc_h (ro := ro) h2 ok
  have g3 := fun ro Z => rate_h (ro := ro) (h2.app Z) ok
  have k1 := fun ro Z => resets_h (ro := ro) (h2.app Z) ok.len
  have el : (wn u k (i + 1)).l = seg u (i + 1 - k) (m + 1) := by simp only [wn, hm]
  have ew : (wn u k (i + 1)).w = k := rfl
  rw [el] at g1 g3 k1
  rw [ew] at g3
  rw [len_seg, res_eq hu (by omega) _ (by omega)] at k1
  have w1 : IntKind.i64.wrap ((i : Int) + 1) = i + 1 := by rw [IntKind.wrap_i64]; omega
  have w2 : IntKind.i64.wrap ((k : Int) - 1) = k - 1 := by rw [IntKind.wrap_i64]; omega
  have w3 : IntKind.i64.wrap u = u := by rw [IntKind.wrap_i64]; omega
  have w4 : IntKind.i64.wrap n = n := by rw [IntKind.wrap_i64]; omega
  have w5 : IntKind.i64.wrap ((i : Int) * u) = i * u := by rw [IntKind.wrap_i64]; omega
  have bm := mul_b (j := m) (by omega) hu
  have w6 : IntKind.i64.wrap ((m : Int) * u) = m * u := by rw [IntKind.wrap_i64]; omega
  have o1 := fun ro H => of_2 (ro := ro) (H := H) (n := (i : Int) * u) (by omega) (by omega)
  have o2 := fun ro H => of_2 (ro := ro) (H := H) (n := (m : Int) * u) (by omega) (by omega)
  have o3 := fun ro H => of_2 (ro := ro) (H := H) (n := (k : Int)) (by omega) (by omega)
  cases i with
  | zero =>
    have hm0 : m = 0 := by omega
    subst hm0
    have e1 : incL (seg u (0 + 1 - k) (0 + 1)) = ((false, 0), false) := by unfold incL; rw [len_seg, if_pos (by omega)]
    have e2 : rateL k (seg u (0 + 1 - k) (0 + 1)) = ((false, 0), false) := by unfold rateL; rw [e1]; rfl
    rw [e1] at g1
    rw [e2] at g3
    simp only [nval] at g1 g3
    simp only [Int.natCast_zero, Int.zero_mul] at *
    refine ⟨H2 ++ [{ rows := [[.bool false, .int .i64 0]] }, { rows := [[.bool false, .int .i64 0]] }], h2.app _, ?_⟩
    have k0 : IntKind.i64.wrap 0 = 0 := rfl
    have k1' : IntKind.i64.wrap 1 = 1 := rfl
    simp [-getElem?_pos, fn7B0, w4, hi, c1, w3, k0, k1', o1, c2, w2, hmi, g1, g3, k1]
  | succ j =>
    have e1 := inc_eq hu (a := j + 1 + 1 - k) (m := m) (by omega) (by omega)
    rw [e1] at g1
    have e2 : rateL k (seg u (j + 1 + 1 - k) (m + 1)) = (divN (false, (m : Int) * u * 1000000) (false, (k : Int) * 1000000), true) := by unfold rateL; rw [e1]; rfl
    rw [e2] at g3
    have dv := fun ro H => div_2 (ro := ro) (H := H) (a := (false, (m : Int) * u * 1000000)) (b := (false, (k : Int) * 1000000)) (by unfold NumOk; dsimp only; omega) (by unfold NumOk; dsimp only; omega)
    obtain ⟨⟨do_, dn⟩, hd⟩ : ∃ y, divN (false, (m : Int) * u * 1000000) (false, (k : Int) * 1000000) = y := ⟨_, rfl⟩
    rw [hd] at dv g3
    simp only [nval] at g1 g3 dv
    have hp : (0 : Int) < (j : Int) + 1 := by omega
    push_cast at hi c1 c2 o1 w1 w5 hmi ⊢
    refine ⟨H2 ++ [{ rows := [[.bool false, .int .i64 ((m : Int) * u * 1000000)]] }, { rows := [[.bool do_, .int .i64 dn]] }], h2.app _, ?_⟩
    simp [-getElem?_pos, fn7B0, w4, hi, c1, w3, w5, o1, c2, w2, hmi, w6, g1, g3, hp, o2, o3, dv, k1, w1]

theorem outer {C k N : Nat} {u : Int} (hu : 0 ≤ u ∧ u < 256) (hk : 2 ≤ k) (hk2 : k ≤ 81) (hN : N < 256) : ∀ (d i : Nat) (H : Hp), i + d = N + 1 → Hold H (CO C (wn u k i)) →
    ∃ e' H', runW pg 0 fn7L0 [(1, .int .u8 N), (2, .int .u8 u), (7, .int .i64 k), (8, .ptr C 0 0 0), (9, .int .i64 i)] H = some (.exit 0, e', H')
  | 0, i, H, hd, h => by
    have w4 : IntKind.i64.wrap (N : Int) = N := by rw [IntKind.wrap_i64]; omega
    have hf : ¬ (i : Int) ≤ N := by omega
    refine ⟨[(1, .int .u8 N), (2, .int .u8 u), (7, .int .i64 k), (8, .ptr C 0 0 0), (9, .int .i64 i), (26, .bool false)], H, ?_⟩
    rw [L0_eq]
    simp [fn7B0, w4, hf]
  | d + 1, i, H, hd, h => by
    obtain ⟨H1, h1, hb⟩ := body (n := N) hu hk hk2 (i := i) (by omega) (by omega) h
    obtain ⟨e', H2, hr⟩ := outer hu hk hk2 hN d (i + 1) H1 (by omega) h1
    push_cast at hr
    refine ⟨e', H2, ?_⟩
    rw [L0_eq]
    simp [hb, hr]

theorem law {a n u : Int} (ha : 0 ≤ a ∧ a < 256) (hn : 0 ≤ n ∧ n < 256) (hu : 0 ≤ u ∧ u < 256) : ∃ H', callW pg 0 7 [.int .u8 a, .int .u8 n, .int .u8 u] [] = some (.bool true, H') := by
  obtain ⟨Hk, hkn⟩ := known_c
  have hk2 : doCall (callW pg) 0 2 (.fn 8 []) [] [] = some (.bool true, []) := call2p hkn rfl rfl
  obtain ⟨k, hk⟩ : ∃ k : Nat, (k : Int) = a % 80 + 2 := ⟨(a % 80 + 2).toNat, by omega⟩
  obtain ⟨N, rfl⟩ : ∃ N : Nat, (N : Int) = n := ⟨n.toNat, by omega⟩
  have hmin : min (max (k : Int) 1) 100 = k := by omega
  have new1 := new_c (ro := 0) (H := []) (n := (k : Int)) (Nat.le_refl _)
  rw [hmin] at new1
  have hat : Hold ([{ rows := [Cnt.row ⟨(k : Int), 0, -1, []⟩ .nsl] }] : Hp) (CO 0 (wn u k 0)) := by
    have e : wn u k 0 = ⟨(k : Int), 0, -1, []⟩ := by simp [wn, seg]
    rw [e]
    exact let ⟨F, h, _⟩ := new_hold (H := []) (k := (k : Int)); ⟨F, h⟩
  obtain ⟨e', H', hr⟩ := outer (C := 0) (k := k) (N := N) hu (by omega) (by omega) (by omega) (N + 1) 0 _ (by omega) hat
  have t1 : binV .rem (.int .u8 a) (.int .u8 80) = some (.int .u8 (a % 80)) := by rw [bin_rem (by decide), Int.tmod_eq_emod_of_nonneg ha.1]
  have w0 : IntKind.i64.wrap (a % 80) = a % 80 := by rw [IntKind.wrap_i64]; omega
  have w1 : IntKind.i64.wrap (a % 80 + 2) = k := by rw [IntKind.wrap_i64]; omega
  refine ⟨H', ?_⟩
  simp [Cnt.row] at new1 hr
  rw [callW_eqO (fn := fn7) rfl rfl]
  simp [-getElem?_pos, fn7, hk2, t1, w0, w1, new1, hr]

theorem wf (x0 x1 x2 : (Ty.int .u8).den) (ok0 : (Ty.int .u8).ok x0) (ok1 : (Ty.int .u8).ok x1) (ok2 : (Ty.int .u8).ok x2) : ∃ H', callW pg 0 7 [(Ty.int .u8).arg x0, (Ty.int .u8).arg x1, (Ty.int .u8).arg x2] [] = some (.bool true, H') :=
  law (wf_u8 x0 ok0) (wf_u8 x1 ok1) (wf_u8 x2 ok2)

end Sld
end Go.Proofs.Ytfgmncabjljhmaa
