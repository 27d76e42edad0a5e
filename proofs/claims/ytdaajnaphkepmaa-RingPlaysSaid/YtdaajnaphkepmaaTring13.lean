import Derived.Test.YtdaajnaphkepmaaTring11
namespace Go.Proofs.Ytdaajnaphkepmaa
open Go Go.Vs
variable {ro : Nat} {H : Hp}

def deltaR (l : List Smp) : Num × Bool := match l with
  | [] => ((false, 0), false)
  | [_] => ((false, 0), false)
  | s :: t :: r => (subN ((t :: r).getLast (by simp)).2 s.2, true)

theorem smp_num {s : Smp} (h : SmpOk s) (h2 : s.2.1 = true → NumOk s.2.2) : NumOk s.2.2 := by
  cases e : s.2.1 with
  | true => exact h2 e
  | false => have := h e; unfold NumOk; omega

theorem delta_2 {R : Nat} {v : IV} {r : Ring} (h : RingAt H R v r) (hl : r.l.length ≤ 1000000) (hn : ∀ s ∈ r.l, NumOk s.2.2) : doCall (callW pg) ro 2 (.fn 19 []) [.ptr R 0 0 0] H = some (.tup [nval (deltaR r.l).1, .bool (deltaR r.l).2], H) := by
  have hc : ∃ H2, callW pg H.length 19 [.ptr R 0 0 0] H = some (.tup [nval (deltaR r.l).1, .bool (deltaR r.l).2], H2) := by
    have hR := h.at_
    have hlt : R < H.length := (List.getElem?_eq_some_iff.1 hR).1
    have hsl := h.sl'
    obtain ⟨w, now, last, l⟩ := r
    dsimp only at hsl hl hn ⊢
    have hlen := hsl.len
    rw [List.length_map] at hlen
    rw [callW_eqO (fn := fn19) rfl rfl]
    match l, hsl, hlen, hn, hR, hl with
    | [], hsl, hlen, hn, hR, hl =>
      simp at hlen
      simp [-getElem?_pos, fn19, hR, hlt, hlen, deltaR, nval, Ring.row, List.getElem?_append_left]
    | [_], hsl, hlen, hn, hR, hl =>
      simp at hlen
      simp [-getElem?_pos, fn19, hR, hlt, hlen, deltaR, nval, Ring.row, List.getElem?_append_left]
    | s :: t :: q, hsl, hlen, hn, hR, hl =>
      obtain ⟨z, hz⟩ : ∃ z, (t :: q).getLast (by simp) = z := ⟨_, rfl⟩
      have hzl : (s :: t :: q)[q.length + 1]? = some z := by
        rw [List.getElem?_cons_succ, ← hz, List.getLast_eq_getElem, List.getElem?_eq_getElem (by simp)]
        simp
      have hzn := hn z (List.mem_of_getElem? hzl)
      obtain ⟨z1, zo, zn⟩ := z
      obtain ⟨s1, so, sn⟩ := s
      obtain ⟨b1, B1, j1, hb1, i1, hB1, _, r1⟩ := (hsl.app [{ rows := [[.bool false, .int .i64 0]] }]).idx (i := q.length + 1) (row := [.int .i64 z1, .bool zo, .int .i64 zn]) (by rw [List.getElem?_map, hzl]; rfl)
      obtain ⟨b2, B2, j2, hb2, i2, hB2, _, r2⟩ := (hsl.app [{ rows := [[.bool false, .int .i64 0]] }]).idx (i := 0) (row := [.int .i64 s1, .bool so, .int .i64 sn]) rfl
      simp at hlen i1 i2
      have hz2 : ¬ (q.length : Int) + 1 + 1 < 2 := by omega
      have w1 : IntKind.i64.wrap ((q.length : Int) + 1 + 1 - 1) = q.length + 1 := by simp only [List.length_cons] at hl; rw [IntKind.wrap_i64]; omega
      have w2 : IntKind.i64.wrap ((q.length : Int) + 1) = q.length + 1 := by simp only [List.length_cons] at hl; rw [IntKind.wrap_i64]; omega
      have hsub := fun ro H => sub_2 (ro := ro) (H := H) (a := (zo, zn)) (b := (so, sn)) hzn
      obtain ⟨⟨do_, dn⟩, hd⟩ : ∃ y, subN (zo, zn) (so, sn) = y := ⟨_, rfl⟩
      have e : deltaR ((s1, so, sn) :: t :: q) = ((do_, dn), true) := by
        show (subN ((t :: q).getLast (by simp)).2 (so, sn), true) = _; rw [hz, ← hd]
      rw [e]
      rw [hd] at hsub
      simp only [nval] at hsub ⊢
      simp [-getElem?_pos, fn19, hR, hlt, hlen, hz2, w1, w2, i1, hB1, r1, i2, hB2, r2, hsub, Ring.row, List.getElem?_append_left]
  obtain ⟨H2, hc⟩ := hc
  exact call2 (args' := [.ptr R 0 0 0]) (by simp) hc (by rfl) (.inl (by rfl))

theorem delta_h {R : Nat} {r : Ring} (h : Hold H (RO R r)) (hl : r.l.length ≤ 1000000) (hn : ∀ s ∈ r.l, NumOk s.2.2) : doCall (callW pg) ro 2 (.fn 19 []) [.ptr R 0 0 0] H = some (.tup [nval (deltaR r.l).1, .bool (deltaR r.l).2], H) := let ⟨_, _, h, _⟩ := h; delta_2 h hl hn

/-! the law 'RingMeans' -/
namespace Mns

def ir (n : Int) : List IV := [.int .i32 n]
def zl (l : List Int) (i : Nat) : List Smp := (List.range i).map fun (j : Nat) => ((j : Int), false, l.getD j 0)
theorem zl_succ (l : List Int) (i : Nat) : zl l (i + 1) = zl l i ++ [((i : Int), false, l.getD i 0)] := by simp [zl, List.range_succ]
theorem zl_len (l : List Int) (i : Nat) : (zl l i).length = i := by simp [zl]
def tot (l : List Int) : Nat → Int
  | 0 => 0
  | i + 1 => tot l i + l.getD i 0
theorem zl_sum (l : List Int) : ∀ (i : Nat), sumS (zl l i) = tot l i ∧ cntO (zl l i) = 0
  | 0 => by simp [zl, sumS, cntO, tot]
  | i + 1 => by
    have ih := zl_sum l i
    rw [zl_succ, sumS_app, cntO_app, ih.1, ih.2]
    simp [sumS, cntO, sv, so, tot]
def Given (l : List Int) : Prop := ∀ x ∈ l, -2147483648 ≤ x ∧ x < 2147483648
theorem given {l : List Int} (h : Given l) (j : Nat) : -2147483648 ≤ l.getD j 0 ∧ l.getD j 0 < 2147483648 := by
  rw [List.getD_eq_getElem?_getD]
  cases hx : l[j]? with
  | none => simp
  | some x => exact h x (List.mem_of_getElem? hx)
theorem tot_le {l : List Int} (h : Given l) : ∀ (i : Nat), -2147483648 * (i : Int) ≤ tot l i ∧ tot l i ≤ 2147483648 * i
  | 0 => by simp [tot]
  | i + 1 => by
    have ih := tot_le h i
    have := given h i
    simp only [tot]; push_cast; omega

structure St (v : List Int) (i : Nat) (r : Ring) (lo hi : Int) : Prop where
  good : Good r
  w : r.w = 100
  now : r.now ≤ i
  last : r.last = (i : Int) - 1
  l : r.l = zl v i
  b : ∀ j, j < i → lo ≤ v.getD j 0 ∧ v.getD j 0 ≤ hi

theorem L0_eq {e : Env} : runW pg 0 fn6L0 e H = seqO pg 0 fn6L0 (runW pg 0 fn6B0 (keepE [0, 3, 4, 5, 6, 7] e) H) := runW_loopO

theorem step {A : IV} {l : List Int} (hA : SlA A 1 (l.map ir)) (hG : Given l) {i a : Nat} {r : Ring} {x y : Int} (hi1 : i < l.length) (hl : l.length ≤ 90) (ho : St l i r x y) (h : Hold H (RO a r)) :
    ∃ H' r' x' y', St l (i + 1) r' x' y' ∧ Hold H' (RO a r') ∧ runW pg 0 fn6B0 [(0, A), (3, .ptr a 0 0 0), (4, .int .i64 x), (5, .int .i64 y), (6, .int .i64 (tot l i)), (7, .int .i64 i)] H =
      some (.nrm, [(0, A), (3, .ptr a 0 0 0), (4, .int .i64 x'), (5, .int .i64 y'), (6, .int .i64 (tot l (i + 1))), (7, .int .i64 ((i : Int) + 1))], H') := by
  have hlen := hA.len
  rw [List.length_map] at hlen
  obtain ⟨n, hx⟩ : ∃ x, l[i]? = some x := ⟨_, List.getElem?_eq_getElem hi1⟩
  have hD : l.getD i 0 = n := by rw [List.getD_eq_getElem?_getD, hx]; rfl
  have hn := given hG i
  have ht := tot_le hG i
  rw [hD] at hn
  have hrow : (l.map ir)[i]? = some [.int .i32 n] := by rw [List.getElem?_map, hx]; rfl
  have hidx := fun H => hA.idx H i (by simp; omega)
  have hlt : (i : Int) < l.length := by omega
  have w1 : IntKind.i64.wrap ((i : Int) + 1) = i + 1 := by rw [IntKind.wrap_i64]; omega
  have w2 : IntKind.i64.wrap n = n := by rw [IntKind.wrap_i64]; omega
  have w3 : IntKind.i64.wrap (tot l i + n) = tot l (i + 1) := by rw [IntKind.wrap_i64]; simp only [tot, hD]; omega
  have hlast := ho.last
  have hll : r.l.length = i := by rw [ho.l, zl_len]
  have e1 : r.adv i = ⟨r.w, i, r.last, r.l⟩ := by
    have e : max r.now (min (i : Int) 1000000) = i := by have := ho.now; omega
    simp only [Ring.adv, e]
    rw [strip_id]
    intro s hs
    rw [ho.l] at hs
    obtain ⟨j, _, rfl⟩ := List.mem_map.1 hs
    have := ho.w
    dsimp only; omega
  have g1 := ho.good.adv (n := i)
  have tk : takes (r.adv i).w (r.adv i).now (r.adv i).last i = 0 := by
    rw [e1]; dsimp only; rw [ho.w, hlast]
    unfold takes
    rw [show IntKind.i64.wrap ((i : Int) - 100) = i - 100 by rw [IntKind.wrap_i64]; omega, if_neg (by omega), if_neg (by omega)]
  have hh : heldS ((i : Int), false, n) = ((i : Int), false, n) := by
    unfold heldS okNum
    have : ¬ n = -9223372036854775808 := by omega
    simp [this]
  have e2 : (r.adv i).add (i, false, n) = ⟨r.w, i, i, r.l ++ [((i : Int), false, n)]⟩ := by rw [Ring.add, if_pos tk, hh, e1]
  obtain ⟨H1, c1, h1⟩ := (adv_t (n := i) (ho.good.ok (by omega))).use0 h
  obtain ⟨H2, c2, h2⟩ := (add_t (t := i) (o := false) (n := n) (g1.ok (by rw [e1]; dsimp only; omega)) (by unfold NumOk; omega)).use0 h1
  rw [tk] at c2
  refine ⟨H2, _, min x n, max y n, ⟨g1.add (s := (i, false, n)) (by unfold NumOk; dsimp only; omega), ?_, ?_, ?_, ?_, ?_⟩, h2, ?_⟩
  · rw [e2]; exact ho.w
  · rw [e2]; push_cast; omega
  · rw [e2]; push_cast; omega
  · rw [e2]; dsimp only; rw [ho.l, zl_succ, hD]
  · intro j hj
    by_cases e : j = i
    · subst e; rw [hD]; omega
    · have := ho.b j (by omega); omega
  · simp [-getElem?_pos, fn6B0, hlen, hlt, hidx, hrow, c1, c2, w1, w2, w3]

theorem loop {A : IV} {l : List Int} (hA : SlA A 1 (l.map ir)) (hG : Given l) {a : Nat} (hl : l.length ≤ 90) : ∀ (d i : Nat) (H : Hp) (r : Ring) (x y : Int), i + d = l.length → St l i r x y → Hold H (RO a r) →
    ∃ e' H' r' x' y', St l l.length r' x' y' ∧ Hold H' (RO a r') ∧ get e' 0 = A ∧ get e' 3 = .ptr a 0 0 0 ∧ get e' 4 = .int .i64 x' ∧ get e' 5 = .int .i64 y' ∧ get e' 6 = .int .i64 (tot l l.length) ∧
      runW pg 0 fn6L0 [(0, A), (3, .ptr a 0 0 0), (4, .int .i64 x), (5, .int .i64 y), (6, .int .i64 (tot l i)), (7, .int .i64 i)] H = some (.exit 0, e', H')
  | 0, i, H, r, x, y, hd, ho, h => by
    have hlen := hA.len
    rw [List.length_map] at hlen
    have e : i = l.length := by omega
    subst e
    refine ⟨[(0, A), (3, .ptr a 0 0 0), (4, .int .i64 x), (5, .int .i64 y), (6, .int .i64 (tot l l.length)), (7, .int .i64 l.length), (34, .bool false)], H, r, x, y, ho, h, rfl, rfl, rfl, rfl, rfl, ?_⟩
    rw [L0_eq]; simp [fn6B0, hlen]
  | d + 1, i, H, r, x, y, hd, ho, h => by
    obtain ⟨H1, r1, x1, y1, o1, h1, hb⟩ := step hA hG (by omega) hl ho h
    obtain ⟨e', H2, r2, x2, y2, o2, h2, q0, q3, q4, q5, q6, hr⟩ := loop hA hG hl d (i + 1) H1 r1 x1 y1 (by omega) o1 h1
    push_cast at hr
    refine ⟨e', H2, r2, x2, y2, o2, h2, q0, q3, q4, q5, q6, ?_⟩
    rw [L0_eq]
    simp [hb, hr]

theorem tot_b {l : List Int} {lo hi : Int} : ∀ (i : Nat), (∀ j, j < i → lo ≤ l.getD j 0 ∧ l.getD j 0 ≤ hi) → lo * i ≤ tot l i ∧ tot l i ≤ hi * i
  | 0, _ => by simp [tot]
  | i + 1, h => by
    have ih := tot_b i fun j hj => h j (by omega)
    have := h i (by omega)
    have e1 : lo * ((i + 1 : Nat) : Int) = lo * i + lo := by push_cast; grind
    have e2 : hi * ((i + 1 : Nat) : Int) = hi * i + hi := by push_cast; grind
    simp only [tot]; omega

/-- The mean. -/
theorem mean {S : Int} {n : Nat} (hn : 1 ≤ n) (hn2 : n ≤ 90) (h1 : -2147483648 * 90 ≤ S) (h2 : S ≤ 2147483648 * 90) : divN (false, S) (false, (n : Int) * 1000000) = (false, S.tdiv n) := by
  have n0 : ¬ S = -9223372036854775808 := by omega
  have n1 : ¬ (n : Int) * 1000000 = -9223372036854775808 := by omega
  have n2 : ¬ (n : Int) * 1000000 = 0 := by omega
  have n3 : ¬ (n : Int) * 1000000 < 0 := by omega
  have ea : absI ((n : Int) * 1000000) = (n : Int) * 1000000 := by unfold absI; rw [if_neg n3]
  have eq : absI S * 1000000 / ((n : Int) * 1000000) = absI S / n := Int.mul_ediv_mul_of_pos_left _ _ (by decide)
  have hS0 : 0 ≤ absI S := by unfold absI; split <;> omega
  have hS1 : absI S ≤ 2147483648 * 90 := by unfold absI; split <;> omega
  have hq : absI S / (n : Int) ≤ absI S := Int.ediv_le_self _ hS0
  unfold divN
  rw [if_neg (by simp [ovN, n0, n1]; omega)]
  dsimp only
  unfold scaledN
  rw [ea, eq, if_neg (by omega)]
  congr 1
  simp only [n3, decide_false]
  by_cases hs : S < 0
  · simp only [hs, decide_true, bne_iff_ne, ne_eq, Bool.true_eq_false, not_false_eq_true, if_true]
    have : absI S = -S := by unfold absI; rw [if_pos hs]
    rw [this, ← Int.tdiv_eq_ediv_of_nonneg (by omega), Int.neg_tdiv, Int.neg_neg]
  · simp only [hs, decide_false, bne_self_eq_false, Bool.false_eq_true, if_false]
    have : absI S = S := by unfold absI; rw [if_neg hs]
    rw [this, ← Int.tdiv_eq_ediv_of_nonneg (by omega)]

theorem mean_b {S x y : Int} {n : Nat} (hn : 1 ≤ n) (h1 : x * n ≤ S) (h2 : S ≤ y * n) : x ≤ S.tdiv n ∧ S.tdiv n ≤ y := by
  have hp : (0 : Int) < n := by omega
  by_cases hs : 0 ≤ S
  · rw [Int.tdiv_eq_ediv_of_nonneg hs]
    refine ⟨(Int.le_ediv_iff_mul_le hp).2 h1, ?_⟩
    have : S / n < y + 1 := by
      rw [Int.ediv_lt_iff_lt_mul hp]
      have e : (y + 1) * (n : Int) = y * n + n := by grind
      omega
    omega
  · have e : S.tdiv n = -((-S) / n) := by
      rw [← Int.tdiv_eq_ediv_of_nonneg (by omega), Int.neg_tdiv, Int.neg_neg]
    rw [e]
    have a1 : -y ≤ (-S) / n := (Int.le_ediv_iff_mul_le hp).2 (by have : -y * (n : Int) = -(y * n) := by grind
                                                                 omega)
    have a2 : (-S) / n < -x + 1 := by
      rw [Int.ediv_lt_iff_lt_mul hp]
      have e : (-x + 1) * (n : Int) = -(x * n) + n := by grind
      omega
    omega

theorem delta_of {l : List Smp} {s z : Smp} (h2 : 2 ≤ l.length) (h0 : l[0]? = some s) (hz : l[l.length - 1]? = some z) : deltaR l = (subN z.2 s.2, true) := by
  match l, h2, h0, hz with
  | s' :: t :: r, _, h0, hz =>
    simp at h0; subst h0
    show (subN ((t :: r).getLast (by simp)).2 s'.2, true) = _
    have : (t :: r).getLast (by simp) = z := by
      rw [List.getLast_eq_getElem]
      simp only [List.length_cons, Nat.add_sub_cancel, List.getElem?_cons_succ] at hz
      rw [List.getElem?_eq_getElem (by simp)] at hz
      exact Option.some.inj hz
    rw [this]

theorem law {A : IV} {l : List Int} (hA : SlA A 1 (l.map ir)) (hG : Given l) : ∃ H', callW pg 0 6 [A] [] = some (.bool true, H') := by
  obtain ⟨Hk, hkn⟩ := known_c
  have hk2 : doCall (callW pg) 0 2 (.fn 8 []) [] [] = some (.bool true, []) := call2p hkn rfl rfl
  have hlen := hA.len
  rw [List.length_map] at hlen
  rw [callW_eqO (fn := fn6) rfl rfl]
  by_cases h0 : (l.length : Int) = 0
  · refine ⟨[], ?_⟩
    have h0' : l = [] := List.length_eq_zero_iff.1 (by omega)
    simp [-getElem?_pos, fn6, hk2, hlen, h0, h0']
  have h0' : ¬ l = [] := fun e => h0 (by rw [e]; rfl)
  by_cases hl : (90 : Int) < l.length
  · refine ⟨[], ?_⟩
    simp [-getElem?_pos, fn6, hk2, hlen, h0, h0', hl]
  have new1 := new_c (ro := 0) (H := []) (n := 100) (Nat.le_refl _)
  have hmin : min (max (100 : Int) 1) 100 = 100 := by decide
  rw [hmin] at new1
  have hat : Hold ([{ rows := [Ring.row ⟨100, 0, -1, []⟩ .nsl] }] : Hp) (RO 0 ⟨100, 0, -1, []⟩) := let ⟨F, h, _⟩ := new_hold (H := []) (k := 100); ⟨F, h⟩
  obtain ⟨n0, hx0⟩ : ∃ x, l[0]? = some x := ⟨_, List.getElem?_eq_getElem (by omega)⟩
  have hrow0 : (l.map ir)[0]? = some [.int .i32 n0] := by rw [List.getElem?_map, hx0]; rfl
  have hidx0 := fun H => hA.idx H 0 (by simp; omega)
  simp only [Int.natCast_zero] at hidx0
  have hd0 : l.getD 0 0 = n0 := by rw [List.getD_eq_getElem?_getD, hx0]; rfl
  have hg0 := given hG 0
  rw [hd0] at hg0
  have w0 : IntKind.i64.wrap n0 = n0 := by rw [IntKind.wrap_i64]; omega
  have s0 : St l 0 ⟨100, 0, -1, []⟩ n0 n0 := ⟨⟨by simp, by simp, by simp, by simp, trivial, by simp, by simp⟩, rfl, by simp, by simp, rfl, fun j hj => by omega⟩
  obtain ⟨e', H', r, x, y, o, h, q0, q3, q4, q5, q6, hrun⟩ := loop hA hG (a := 0) (by omega) l.length 0 _ _ n0 n0 (by omega) s0 hat
  simp only [tot] at hrun
  obtain ⟨p, hp⟩ : ∃ p, l.length = p + 1 := ⟨l.length - 1, by omega⟩
  obtain ⟨z, hz⟩ : ∃ x, l[p]? = some x := ⟨_, List.getElem?_eq_getElem (by omega)⟩
  have hrowz : (l.map ir)[p]? = some [.int .i32 z] := by rw [List.getElem?_map, hz]; rfl
  have hidxz := fun H => hA.idx H p (by simp; omega)
  have hdz : l.getD p 0 = z := by rw [List.getD_eq_getElem?_getD, hz]; rfl
  have hgz := given hG p
  rw [hdz] at hgz
  have wz : IntKind.i64.wrap z = z := by rw [IntKind.wrap_i64]; omega
  -- what is told
  have hrl : r.l.length = l.length := by rw [o.l, zl_len]
  obtain ⟨t1, t2⟩ := tot_le hG l.length
  obtain ⟨b1, b2⟩ := tot_b l.length o.b
  obtain ⟨S, hS⟩ : ∃ S, tot l l.length = S := ⟨_, rfl⟩
  rw [hS] at t1 t2 b1 b2 q6
  obtain ⟨m1, m2⟩ := mean_b (n := l.length) (by omega) b1 b2
  have ok := o.good.ok (by omega)
  have zs := zl_sum l l.length
  rw [hS] at zs
  have hsum : sumNN (sumS r.l) (cntO r.l) = (false, S) := by
    rw [o.l, zs.1, zs.2]; unfold sumNN; rw [if_neg (by omega)]
  have hav : avgR r.l = ((false, S.tdiv l.length), true) := by
    unfold avgR
    rw [if_neg (by omega), hsum, hrl, mean (by omega) (by omega) (by omega) (by omega)]
  have av := fun ro => avg_h (ro := ro) h ok
  rw [hav] at av
  have hnum : ∀ s ∈ r.l, NumOk s.2.2 := by
    intro s hs
    rw [o.l] at hs
    obtain ⟨j, _, rfl⟩ := List.mem_map.1 hs
    have := given hG j
    unfold NumOk; dsimp only; omega
  have de := fun ro Y => delta_h (ro := ro) (h.app Y) (by omega) hnum
  have su := fun ro Y => sum_h (ro := ro) (h.app Y) ok
  rw [hsum] at su
  have hsub := fun ro H => sub_2 (ro := ro) (H := H) (a := (false, z)) (b := (false, n0)) (by unfold NumOk; dsimp only; omega)
  obtain ⟨⟨do_, dn⟩, hd⟩ : ∃ y, subN (false, z) (false, n0) = y := ⟨_, rfl⟩
  rw [hd] at hsub
  have wq : IntKind.i64.wrap (S.tdiv l.length) = S.tdiv l.length := by
    have g1 := o.b 0 (by omega)
    have g2 := given hG 0
    have a1 : S.tdiv l.length ≤ 2147483648 * 90 ∧ -2147483648 * 90 ≤ S.tdiv l.length := by
      have := mean_b (S := S) (x := -2147483648) (y := 2147483648) (n := l.length) (by omega) (by omega) (by omega)
      omega
    rw [IntKind.wrap_i64]; omega
  have hquo : binV .quo (.int .i64 S) (.int .i64 l.length) = some (.int .i64 (S.tdiv l.length)) := by rw [bin_quo h0, wq]
  have wp : IntKind.i64.wrap ((l.length : Int) - 1) = p := by rw [IntKind.wrap_i64]; omega
  simp at new1
  simp only [nval] at av de su hsub
  simp [Ring.row] at new1 hrun
  by_cases h2 : 2 ≤ l.length
  · have hdl : deltaR r.l = ((do_, dn), true) := by
      rw [delta_of (s := (0, false, n0)) (z := ((p : Int), false, z)) (by omega) ?_ ?_]
      · rw [← hd]
      · rw [o.l]; unfold zl; rw [List.getElem?_map, List.getElem?_range (by omega)]; simp [hd0] at *; exact hd0
      · rw [hrl, o.l]; unfold zl; rw [List.getElem?_map, List.getElem?_range (by omega), show l.length - 1 = p by omega]
        simp only [Option.map_some, hdz]
    rw [hdl] at de
    have h1 : (1 : Int) < l.length := by omega
    refine ⟨H' ++ [{ rows := [[.bool false, .int .i64 (S.tdiv l.length)]] }, { rows := [[.bool do_, .int .i64 dn]] }], ?_⟩
    simp [-getElem?_pos, fn6, hk2, hlen, h0, h0', hl, new1, hidx0, hrow0, w0, hrun, q0, q3, q4, q5, q6, av, de, m1, m2, hquo, su, h1, wp, hidxz, hrowz, wz, hsub]
  · have hdl : deltaR r.l = ((false, 0), false) := by
      match hh : r.l, hrl with
      | [_], _ => rfl
      | [], e => simp at e; omega
      | _ :: _ :: _, e => simp at e; omega
    rw [hdl] at de
    have h1 : ¬ (1 : Int) < l.length := by omega
    refine ⟨H' ++ [{ rows := [[.bool false, .int .i64 (S.tdiv l.length)]] }, { rows := [[.bool false, .int .i64 0]] }], ?_⟩
    simp [-getElem?_pos, fn6, hk2, hlen, h0, h0', hl, new1, hidx0, hrow0, w0, hrun, q0, q3, q4, q5, q6, av, de, m1, m2, hquo, su, h1, wp, hidxz, hrowz, wz, hsub]

abbrev TL : Ty := .sl (.int .i32)
theorem wf (x0 : TL.den) (ok0 : TL.ok x0) : ∃ H', callW pg 0 6 [TL.arg x0] [] = some (.bool true, H') := by
  obtain ⟨l, hA, hl⟩ := sl_arg (e := .int .i32) x0
  refine law (l := l) hA ?_
  rcases hl with ⟨_, rfl⟩ | h
  · intro y hy; cases hy
  · intro y hy
    exact wf_i32 _ ((ok0 l h).2 y hy)

end Mns
end Go.Proofs.Ytdaajnaphkepmaa
