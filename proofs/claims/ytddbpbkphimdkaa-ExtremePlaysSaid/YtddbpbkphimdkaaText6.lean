import Derived.Test.YtddbpbkphimdkaaText5
namespace Go.Proofs.Ytddbpbkphimdkaa
open Go Go.Vs
variable {ro : Nat} {H : Hp}

/-! samples one tick apart -/
def seg (f : Nat → Smp) : Nat → Nat → List Smp
  | _, 0 => []
  | a, n + 1 => f a :: seg f (a + 1) n
theorem seg_snoc {f : Nat → Smp} : ∀ (n a : Nat), seg f a (n + 1) = seg f a n ++ [f (a + n)]
  | 0, a => rfl
  | n + 1, a => by
    rw [seg, seg_snoc n (a + 1), seg]
    simp [Nat.add_assoc, Nat.add_comm 1 n]
theorem len_seg {f : Nat → Smp} : ∀ (n a : Nat), (seg f a n).length = n
  | 0, _ => rfl
  | n + 1, a => by simp [seg, len_seg n]
theorem mem_seg {f : Nat → Smp} : ∀ (n a : Nat) {s}, s ∈ seg f a n ↔ ∃ j, a ≤ j ∧ j < a + n ∧ s = f j
  | 0, a, s => by simp [seg]; omega
  | n + 1, a, s => by
    rw [seg, List.mem_cons, mem_seg n (a + 1)]
    constructor
    · rintro (rfl | ⟨j, h1, h2, rfl⟩)
      · exact ⟨a, by omega, by omega, rfl⟩
      · exact ⟨j, by omega, by omega, rfl⟩
    · rintro ⟨j, h1, h2, rfl⟩
      by_cases e : j = a
      · subst e; exact .inl rfl
      · exact .inr ⟨j, by omega, by omega, rfl⟩
theorem asc_seg {f : Nat → Smp} (hf : ∀ j, (f j).1 = j) : ∀ (n a : Nat), Asc (seg f a n)
  | 0, _ => trivial
  | n + 1, a => ⟨fun x hx => by
      obtain ⟨j, h1, _, rfl⟩ := (mem_seg n (a + 1)).1 hx
      rw [hf, hf]; omega, asc_seg hf n (a + 1)⟩

/-- The window ahead of round i. -/
def wn (f : Nat → Smp) (k i : Nat) : Win := ⟨k, ((i - 1 : Nat) : Int), (i : Int) - 1, seg f (i - k) (min i k)⟩
/-- The window when its time is i. -/
def wm (f : Nat → Smp) (k i : Nat) : Win := ⟨k, i, (i : Int) - 1, seg f (i + 1 - k) (min i (k - 1))⟩

theorem seg_ok {f : Nat → Smp} {k a n : Nat} {now last : Int} (hf : ∀ j, (f j).1 = j) (hk : 1 ≤ k) (hk2 : k ≤ 100) (h1 : 0 ≤ now) (h2 : now ≤ 1000000) (h3 : ((a + n : Nat) : Int) ≤ last + 1) (hv : ∀ j, j < a + n → NumOk (f j).2.2) : WinOk ⟨k, now, last, seg f a n⟩ := by
  refine ⟨by simp; omega, by simp; omega, h1, h2, asc_seg hf _ _, fun s hs => ?_, fun s hs => ?_⟩
  · obtain ⟨j, _, h, rfl⟩ := (mem_seg _ _).1 hs
    simp only [hf]; omega
  · obtain ⟨j, _, h, rfl⟩ := (mem_seg _ _).1 hs
    exact hv j h
theorem wn_ok {f : Nat → Smp} {k i : Nat} (hf : ∀ j, (f j).1 = j) (hk : 1 ≤ k) (hk2 : k ≤ 100) (hi : i ≤ 1000000) (hv : ∀ j, j < i → NumOk (f j).2.2) : WinOk (wn f k i) :=
  seg_ok hf hk hk2 (by omega) (by omega) (by omega) fun j hj => hv j (by omega)
theorem wm_ok {f : Nat → Smp} {k i : Nat} (hf : ∀ j, (f j).1 = j) (hk : 1 ≤ k) (hk2 : k ≤ 100) (hi : i ≤ 1000000) (hv : ∀ j, j < i → NumOk (f j).2.2) : WinOk (wm f k i) :=
  seg_ok hf hk hk2 (by omega) (by omega) (by omega) fun j hj => hv j (by omega)
theorem wn_adv {f : Nat → Smp} {k i : Nat} (hf : ∀ j, (f j).1 = j) (hk : 1 ≤ k) (hi : i ≤ 1000000) : (wn f k i).adv i = wm f k i := by
  have e1 : max ((i - 1 : Nat) : Int) (min (i : Int) 1000000) = i := by omega
  simp only [Win.adv, wn, wm, e1]
  congr 1
  by_cases h : i < k
  · rw [strip_id, show i - k = i + 1 - k by omega, show min i k = min i (k - 1) by omega]
    intro x hx
    obtain ⟨j, _, h, rfl⟩ := (mem_seg _ _).1 hx
    rw [hf]; omega
  · have e2 : min i k = (k - 1) + 1 := by omega
    have e3 : min i (k - 1) = k - 1 := by omega
    have e4 : i - k + 1 = i + 1 - k := by omega
    rw [e2, e3, seg, strip, hf, if_pos (by omega), e4, strip_id]
    intro x hx
    obtain ⟨j, h1, h, rfl⟩ := (mem_seg _ _).1 hx
    rw [hf]; omega
theorem wm_takes {f : Nat → Smp} {k i : Nat} (hk : 1 ≤ k) (hk2 : k ≤ 100) (hi : i ≤ 1000000) : takes (wm f k i).w (wm f k i).now (wm f k i).last i = 0 := by
  have w1 : IntKind.i64.wrap ((i : Int) - k) = i - k := by rw [IntKind.wrap_i64]; omega
  simp only [wm]
  unfold takes; rw [w1, if_neg (by omega), if_neg (by omega)]
theorem wm_add {f : Nat → Smp} {k i : Nat} {s : Smp} (hs : heldS s = f i) (hst : s.1 = i) (hk : 1 ≤ k) (hk2 : k ≤ 100) (hi : i ≤ 1000000) : (wm f k i).add s = wn f k (i + 1) := by
  have ht := wm_takes (f := f) hk hk2 hi
  rw [Win.add, hst, if_pos ht, hs]
  have e2 : min (i + 1) k = min i (k - 1) + 1 := by omega
  have e3 : i + 1 - k + min i (k - 1) = i := by omega
  simp only [wn, wm, e2, seg_snoc, e3]
  simp

theorem kq_up {K : Smp → Int} {f : Nat → Smp} (h : ∀ i j, i ≤ j → K (f i) ≤ K (f j)) : ∀ (n a : Nat), kq K (seg f a (n + 1)) = [f (a + n)]
  | 0, a => rfl
  | n + 1, a => by
    have ih := kq_up h n (a + 1)
    rw [seg, kq, if_pos, ih, show a + 1 + n = a + (n + 1) by omega]
    exact List.any_eq_true.2 ⟨f (a + 1), (mem_seg _ _).2 ⟨a + 1, by omega, by omega, rfl⟩, by simpa using h a (a + 1) (by omega)⟩
theorem kq_dn {K : Smp → Int} {f : Nat → Smp} (h : ∀ i j, i < j → K (f j) < K (f i)) : ∀ (n a : Nat), kq K (seg f a n) = seg f a n
  | 0, a => rfl
  | n + 1, a => by
    rw [seg, kq, if_neg, kq_dn h n (a + 1)]
    intro e
    obtain ⟨x, hx, h1⟩ := List.any_eq_true.1 e
    obtain ⟨j, h2, _, rfl⟩ := (mem_seg _ _).1 hx
    have := h a j (by omega)
    simp at h1; omega

theorem of_2 {n : Int} (h1 : -9000000000000 ≤ n) (h2 : n ≤ 9000000000000) : doCall (callW pg) ro 2 (.fn 16 []) [.int .i64 n] H = some (.agg [.bool false, .int .i64 (n * 1000000)], H) := by
  obtain ⟨H2, h⟩ := of_c (ro := H.length) (H := H) (Nat.le_refl _) h1 h2
  exact call2p h rfl rfl

theorem known_c : ∃ H', callW pg 0 6 [] [] = some (.bool true, H') := callW_of (n := 40) (by kernel_rfl)

/-! the law 'ExtremeSlides' -/
namespace Sld

def f (b : Bool) (j : Nat) : Smp := (j, false, if b then -(j * 1000000) else j * 1000000)
theorem f_t (b : Bool) (j : Nat) : (f b j).1 = j := rfl
theorem f_num {b : Bool} {j : Nat} (h : j ≤ 1000) : NumOk (f b j).2.2 := by
  unfold f NumOk; cases b <;> simp <;> omega
theorem f_held {b : Bool} {j : Nat} : heldS (f b j) = f b j := by
  have : ¬ ((f b j).2.2 = -9223372036854775808) := by unfold f; cases b <;> simp <;> omega
  unfold heldS okNum
  rw [if_pos]
  have e : (f b j).2.1 = false := rfl
  simp [this, e]
theorem f_key {b g : Bool} {j : Nat} : key g (f b j) = if g = b then -((j : Int) * 1000000) else (j : Int) * 1000000 := by
  have : ¬ ((f b j).2.2 = -9223372036854775808) := by unfold f; cases b <;> simp <;> omega
  have e : (f b j).2.1 = false := rfl
  unfold key nkey ovN
  simp only [this, e]
  cases b <;> cases g <;> simp [f]
theorem up {b g : Bool} (h : g ≠ b) : ∀ i j, i ≤ j → key g (f b i) ≤ key g (f b j) := by
  intro i j hij
  rw [f_key, f_key]; cases b <;> cases g <;> simp_all <;> omega
theorem dn {b : Bool} : ∀ i j, i < j → key b (f b j) < key b (f b i) := by
  intro i j hij
  rw [f_key, f_key]; simp; omega

theorem L0_eq {e : Env} : runW pg 0 fn4L0 e H = seqO pg 0 fn4L0 (runW pg 0 fn4B0 (keepE [1, 2, 7, 8, 9, 10] e) H) := runW_loopO

/-- What they tell behind round i. -/
theorem told {b : Bool} {k i : Nat} (hk : 1 ≤ k) : (ext true (wn (f b) k (i + 1))).best = (false, (if b = true then (f b (i + 1 - k)).2.2 else (f b i).2.2), true) ∧ (ext false (wn (f b) k (i + 1))).best = (false, (if b = true then (f b i).2.2 else (f b (i + 1 - k)).2.2), true) ∧
    (ext true (wn (f b) k (i + 1))).l.length = (if b = true then min (i + 1) k else 1) ∧ (ext false (wn (f b) k (i + 1))).l.length = (if b = true then 1 else min (i + 1) k) := by
  obtain ⟨m, hm⟩ : ∃ m, min (i + 1) k = m + 1 := ⟨min (i + 1) k - 1, by omega⟩
  have e : i + 1 - k + m = i := by omega
  have hup : ∀ g, g ≠ b → kq (key g) (seg (f b) (i + 1 - k) (m + 1)) = [f b i] := fun g hg => by rw [kq_up (up hg), e]
  have hdn : kq (key b) (seg (f b) (i + 1 - k) (m + 1)) = f b (i + 1 - k) :: seg (f b) (i + 1 - k + 1) m := kq_dn dn _ _
  cases b with
  | false =>
    have h1 := hup true (by simp)
    simp [ext, wn, hm, Ext.best, h1, hdn, len_seg, f]
  | true =>
    have h1 := hup false (by simp)
    simp [ext, wn, hm, Ext.best, h1, hdn, len_seg, f]

theorem body {R1 R2 k i : Nat} {n : Int} {b : Bool} (hk : 1 ≤ k) (hk2 : k ≤ 50) (hi : (i : Int) < n) (hn : n < 256) (h : Hold H ((E R1 (ext true (wn (f b) k i))).star (E R2 (ext false (wn (f b) k i))))) :
    ∃ H', Hold H' ((E R1 (ext true (wn (f b) k (i + 1)))).star (E R2 (ext false (wn (f b) k (i + 1))))) ∧
    runW pg 0 fn4B0 [(1, .int .u8 n), (2, .bool b), (7, .int .i64 k), (8, .ptr R1 0 0 0), (9, .ptr R2 0 0 0), (10, .int .i64 i)] H = some (.nrm, [(1, .int .u8 n), (2, .bool b), (7, .int .i64 k), (8, .ptr R1 0 0 0), (9, .ptr R2 0 0 0), (10, .int .i64 ((i : Int) + 1))], H') := by
  have hon : ∀ g, ExtOk (ext g (wn (f b) k i)) := fun g => ext_ok (wn_ok (f_t b) hk (by omega) (by omega) fun j hj => f_num (by omega)) (by simp [wn, len_seg]; omega)
  have hom : ∀ g, ExtOk (ext g (wm (f b) k i)) := fun g => ext_ok (wm_ok (f_t b) hk (by omega) (by omega) fun j hj => f_num (by omega)) (by simp [wm, len_seg]; omega)
  have ea : ∀ g, (ext g (wn (f b) k i)).adv i = ext g (wm (f b) k i) := fun g => by
    rw [ext_adv (wn_ok (f_t b) hk (by omega) (by omega) fun j hj => f_num (by omega)), wn_adv (f_t b) hk (by omega)]
  have ed : ∀ g, (ext g (wm (f b) k i)).add (f b i) = ext g (wn (f b) k (i + 1)) := fun g => by
    rw [ext_add (wm_ok (f_t b) hk (by omega) (by omega) fun j hj => f_num (by omega)) (f_num (by omega)), wm_add f_held rfl hk (by omega) (by omega)]
  obtain ⟨H1, c1, h1⟩ := (adv_t (n := i) (hon true)).frame.use0 h
  rw [ea] at h1
  obtain ⟨H2, c2, h2⟩ := (adv_t (n := i) (hon false)).frame.use0 h1.comm
  rw [ea] at h2
  obtain ⟨H3, c3, h3⟩ := (add_t (t := i) (o := false) (n := (f b i).2.2) (hom true)).frame.use0 h2.comm
  obtain ⟨H4, c4, h4⟩ := (add_t (t := i) (o := false) (n := (f b i).2.2) (hom false)).frame.use0 h3.comm
  have ht : ∀ g, takes (ext g (wm (f b) k i)).w (ext g (wm (f b) k i)).now (ext g (wm (f b) k i)).last i = 0 := fun g => wm_takes (f := f b) hk (by omega) (by omega)
  rw [ht] at c3 c4
  rw [show ((i : Int), false, (f b i).2.2) = f b i from rfl, ed, ed] at h4
  have h5 := h4.comm
  have hg1 := fun ro Y => get_h (ro := ro) (h5.fst.app Y)
  have hg2 := fun ro Y => get_h (ro := ro) (h4.fst.app Y)
  have hk1 := fun ro Y => kept_h (ro := ro) (h5.fst.app Y)
  have hk2' := fun ro Y => kept_h (ro := ro) (h4.fst.app Y)
  have hg1' := fun ro => get_h (ro := ro) h5.fst
  obtain ⟨B1, B2, K1, K2⟩ := told (b := b) (k := k) (i := i) hk
  have w1 : IntKind.i64.wrap ((i : Int) + 1) = i + 1 := by rw [IntKind.wrap_i64]; omega
  have w2 : IntKind.i64.wrap ((i : Int) - k) = i - k := by rw [IntKind.wrap_i64]; omega
  have w3 : IntKind.i64.wrap ((i : Int) - k + 1) = i - k + 1 := by rw [IntKind.wrap_i64]; omega
  have w4 : IntKind.i64.wrap (n : Int) = n := by rw [IntKind.wrap_i64]; omega
  have w5 : IntKind.i64.wrap (-(i : Int)) = -i := by rw [IntKind.wrap_i64]; omega
  have hmx : max 0 ((i : Int) - k + 1) = ((i + 1 - k : Nat) : Int) := by omega
  have hmn : min ((i : Int) + 1) k = ((min (i + 1) k : Nat) : Int) := by omega
  have ho1 := fun (ro : Nat) (H : Hp) => of_2 (ro := ro) (H := H) (n := (i : Int)) (by omega) (by omega)
  have ho2 := fun (ro : Nat) (H : Hp) => of_2 (ro := ro) (H := H) (n := -(i : Int)) (by omega) (by omega)
  have ho3 := fun (ro : Nat) (H : Hp) => of_2 (ro := ro) (H := H) (n := ((i + 1 - k : Nat) : Int)) (by omega) (by omega)
  cases b with
  | false =>
    have e1 : (f false i).2.2 = (i : Int) * 1000000 := by simp [f]
    rw [e1] at c3 c4
    simp only [B1, B2, K1, K2, if_true, if_false] at hg1 hg1' hg2 hk1 hk2'
    have e3 : (f false (i + 1 - k)).2.2 = ((i + 1 - k : Nat) : Int) * 1000000 := by simp [f]
    simp only [e1, e3] at hg1 hg1' hg2
    refine ⟨_, h5.app [{ rows := [[.bool false, .int .i64 ((i : Int) * 1000000)]] }, { rows := [[.bool false, .int .i64 (((i + 1 - k : Nat) : Int) * 1000000)]] }], ?_⟩
    simp at hg1 hg1' hg2 hk1 hk2'
    simp [-getElem?_pos, fn4B0, w4, hi, c1, c2, ho1, c3, c4, w2, w3, hmx, hg1, hg1', hg2, ho3, hk1, hk2', w1, hmn]
  | true =>
    have e1 : (f true i).2.2 = -(i : Int) * 1000000 := by simp [f]; omega
    have e3 : (f true (i + 1 - k)).2.2 = -((i + 1 - k : Nat) : Int) * 1000000 := by simp [f]; omega
    rw [e1] at c3 c4
    simp only [B1, B2, K1, K2, if_true, if_false, e1, e3] at hg1 hg1' hg2 hk1 hk2'
    have hn1 := fun (ro : Nat) (H : Hp) => neg_2 (ro := ro) (H := H) (o := false) (n := -(i : Int) * 1000000)
    have hn2 := fun (ro : Nat) (H : Hp) => neg_2 (ro := ro) (H := H) (o := false) (n := -((i + 1 - k : Nat) : Int) * 1000000)
    have n1 : negN false (-(i : Int) * 1000000) = (false, (i : Int) * 1000000) := by
      have : ¬ (-(i : Int) * 1000000 = -9223372036854775808) := by omega
      have w : IntKind.i64.wrap (-(-(i : Int) * 1000000)) = (i : Int) * 1000000 := by rw [IntKind.wrap_i64]; omega
      unfold negN ovN; rw [w]; simp only [this]; rfl
    have n2 : negN false (-((i + 1 - k : Nat) : Int) * 1000000) = (false, ((i + 1 - k : Nat) : Int) * 1000000) := by
      have : ¬ (-((i + 1 - k : Nat) : Int) * 1000000 = -9223372036854775808) := by omega
      have w : IntKind.i64.wrap (-(-((i + 1 - k : Nat) : Int) * 1000000)) = ((i + 1 - k : Nat) : Int) * 1000000 := by rw [IntKind.wrap_i64]; omega
      unfold negN ovN; rw [w]; simp only [this]; rfl
    rw [n1] at hn1
    rw [n2] at hn2
    refine ⟨_, h5.app [{ rows := [[.bool false, .int .i64 ((i : Int) * 1000000)]] }, { rows := [[.bool false, .int .i64 (((i + 1 - k : Nat) : Int) * 1000000)]] }], ?_⟩
    simp at hg1 hg1' hg2 hk1 hk2' c3 c4 hn1 hn2 ho2
    simp [-getElem?_pos, fn4B0, w4, hi, w5, c1, c2, ho1, ho2, c3, c4, w2, w3, hmx, hg1, hg1', hg2, hn1, hn2, ho3, hk1, hk2', w1, hmn]

theorem outer {R1 R2 k N : Nat} {b : Bool} (hk : 1 ≤ k) (hk2 : k ≤ 50) (hN : N < 256) : ∀ (d i : Nat) (H : Hp), i + d = N → Hold H ((E R1 (ext true (wn (f b) k i))).star (E R2 (ext false (wn (f b) k i)))) →
    ∃ e' H', runW pg 0 fn4L0 [(1, .int .u8 N), (2, .bool b), (7, .int .i64 k), (8, .ptr R1 0 0 0), (9, .ptr R2 0 0 0), (10, .int .i64 i)] H = some (.exit 0, e', H')
  | 0, i, H, hd, h => by
    have e : i = N := by omega
    subst e
    have w4 : IntKind.i64.wrap (i : Int) = i := by rw [IntKind.wrap_i64]; omega
    refine ⟨[(1, .int .u8 i), (2, .bool b), (7, .int .i64 k), (8, .ptr R1 0 0 0), (9, .ptr R2 0 0 0), (10, .int .i64 i), (32, .bool false)], H, ?_⟩
    rw [L0_eq]
    simp [fn4B0, w4]
  | d + 1, i, H, hd, h => by
    obtain ⟨H1, h1, hb⟩ := body (n := N) hk hk2 (i := i) (by omega) (by omega) h
    obtain ⟨e', H2, hr⟩ := outer hk hk2 hN d (i + 1) H1 (by omega) h1
    push_cast at hr
    refine ⟨e', H2, ?_⟩
    rw [L0_eq]
    simp [hb, hr]

theorem law {a n : Int} {b : Bool} (ha0 : 0 ≤ a) (ha : a < 256) (hn0 : 0 ≤ n) (hn : n < 256) : ∃ H', callW pg 0 4 [.int .u8 a, .int .u8 n, .bool b] [] = some (.bool true, H') := by
  obtain ⟨Hk, hkn⟩ := known_c
  have hk2 : doCall (callW pg) 0 2 (.fn 6 []) [] [] = some (.bool true, []) := call2p hkn rfl rfl
  obtain ⟨k, hk⟩ : ∃ k : Nat, (k : Int) = a % 50 + 1 := ⟨(a % 50 + 1).toNat, by omega⟩
  obtain ⟨N, rfl⟩ : ∃ N : Nat, (N : Int) = n := ⟨n.toNat, by omega⟩
  have hmin : min (max (k : Int) 1) 100 = k := by omega
  have new1 := new_c (ro := 0) (H := []) (n := (k : Int)) (g := true) (Nat.le_refl _)
  have new2 := new_c (ro := 0) (H := [{ rows := [Ext.row ⟨(k : Int), 0, -1, true, []⟩ .nsl] }]) (n := (k : Int)) (g := false) (by simp)
  rw [hmin] at new1 new2
  have hat : Hold ([{ rows := [Ext.row ⟨(k : Int), 0, -1, true, []⟩ .nsl] }, { rows := [Ext.row ⟨(k : Int), 0, -1, false, []⟩ .nsl] }] : Hp) ((E 0 (ext true (wn (f b) k 0))).star (E 1 (ext false (wn (f b) k 0)))) := by
    refine Hold.new (H := [{ rows := [Ext.row ⟨(k : Int), 0, -1, true, []⟩ .nsl] }]) (Y := [{ rows := [Ext.row ⟨(k : Int), 0, -1, false, []⟩ .nsl] }]) ⟨_, .nsl, ⟨?_, .inl ⟨rfl, ?_⟩, by simp [blkV]⟩, rfl⟩ ⟨_, ⟨.nsl, ⟨?_, .inl ⟨rfl, ?_⟩, by simp [blkV]⟩, rfl⟩, ?_⟩
    · simp [ext, wn, Ext.row, kq, seg]
    · simp [ext, wn, kq, seg]
    · simp [ext, wn, Ext.row, kq, seg]
    · simp [ext, wn, kq, seg]
    · simp [blkV]
  obtain ⟨e', H', hr⟩ := outer (R1 := 0) (R2 := 1) (k := k) (N := N) (b := b) (by omega) (by omega) (by omega) N 0 _ (by omega) hat
  have t1 : binV .rem (.int .u8 a) (.int .u8 50) = some (.int .u8 (a % 50)) := by rw [bin_rem (by decide), Int.tmod_eq_emod_of_nonneg ha0]
  have w0 : IntKind.i64.wrap (a % 50) = a % 50 := by rw [IntKind.wrap_i64]; omega
  have w1 : IntKind.i64.wrap (a % 50 + 1) = k := by rw [IntKind.wrap_i64]; omega
  refine ⟨H', ?_⟩
  simp [Ext.row] at new1 new2 hr
  rw [callW_eqO (fn := fn4) rfl rfl]
  simp [-getElem?_pos, fn4, hk2, t1, w0, w1, new1, new2, hr]

theorem wf {a n : Int} {b : Bool} (h0 : (Lit.int .u8 a).wf = true) (h1 : (Lit.int .u8 n).wf = true) : ∃ H', callW pg 0 4 [.int .u8 a, .int .u8 n, .bool b] [] = some (.bool true, H') := by
  simp [Lit.wf, IntKind.min, IntKind.max, IntKind.signed, IntKind.bits] at h0 h1
  exact law (by omega) (by omega) (by omega) (by omega)

end Sld
end Go.Proofs.Ytddbpbkphimdkaa
