import Derived.Test.YtdaajnaphkepmaaTring11
namespace Go.Proofs.Ytdaajnaphkepmaa
open Go Go.Vs
variable {ro : Nat} {H : Hp}

/-! the law 'RingForgets' -/
namespace Fgt

theorem L0_eq {e : Env} : runW pg 0 fn5L0 e H = seqO pg 0 fn5L0 (runW pg 0 fn5B0 (keepE [0, 1, 7, 8, 9, 10] e) H) := runW_loopO
theorem L1_eq {e : Env} : runW pg 0 fn5L1 e H = seqO pg 0 fn5L1 (runW pg 0 fn5B1 (keepE [1, 7, 8, 9, 11] e) H) := runW_loopO

def Given (l : List Num) : Prop := ∀ x ∈ l, NumOk x.2

theorem adv_l {r : Ring} {n : Int} (h1 : r.now ≤ n) (h2 : n ≤ 1000000) : r.adv n = ⟨r.w, n, r.last, strip (n - r.w) r.l⟩ := by
  have e : max r.now (min n 1000000) = n := by omega
  simp only [Ring.adv, e]
theorem add_l {r : Ring} {s : Smp} (h1 : 1 ≤ r.w) (h2 : r.w ≤ 100) (h3 : r.now = s.1) (h4 : 0 ≤ s.1) (h5 : s.1 ≤ 1000000) (h6 : r.last < s.1) : takes r.w r.now r.last s.1 = 0 ∧ r.add s = ⟨r.w, r.now, s.1, r.l ++ [heldS s]⟩ := by
  have ht : takes r.w r.now r.last s.1 = 0 := by
    unfold takes
    rw [h3, show IntKind.i64.wrap (s.1 - r.w) = s.1 - r.w by rw [IntKind.wrap_i64]; omega, if_neg (by omega), if_neg (by omega)]
  exact ⟨ht, by rw [Ring.add, if_pos ht]⟩

/-- Behind i of the old ones. -/
structure Old (k i : Nat) (r : Ring) : Prop where
  good : Good r
  w : r.w = k
  now : r.now ≤ i
  last : r.last = (i : Int) - 1
  len : r.l.length ≤ i

theorem old_step {A : IV} {l : List Num} (hA : SlA A 2 (l.map nrow)) (hG : Given l) {k i a b : Nat} {x1 : IV} {r : Ring} {B : Asn} (hk2 : k ≤ 60) (hi1 : i < l.length) (hl : l.length ≤ 50) (ho : Old k i r) (h : Hold H ((RO a r).star B)) :
    ∃ H' r', Old k (i + 1) r' ∧ Hold H' ((RO a r').star B) ∧ runW pg 0 fn5B0 [(0, A), (1, x1), (7, .int .i64 k), (8, .ptr a 0 0 0), (9, .ptr b 0 0 0), (10, .int .i64 i)] H =
      some (.nrm, [(0, A), (1, x1), (7, .int .i64 k), (8, .ptr a 0 0 0), (9, .ptr b 0 0 0), (10, .int .i64 ((i : Int) + 1))], H') := by
  have hlen := hA.len
  rw [List.length_map] at hlen
  obtain ⟨x, hx⟩ : ∃ x, l[i]? = some x := ⟨_, List.getElem?_eq_getElem hi1⟩
  have hxn := hG x (List.mem_of_getElem? hx)
  obtain ⟨o, n⟩ := x
  have hrow : (l.map nrow)[i]? = some [.bool o, .int .i64 n] := by rw [List.getElem?_map, hx]; rfl
  have hidx := fun H => hA.idx H i (by simp; omega)
  have hlt : (i : Int) < l.length := by omega
  have w1 : IntKind.i64.wrap ((i : Int) + 1) = i + 1 := by rw [IntKind.wrap_i64]; omega
  have hw1 := ho.good.w1
  have hw2 := ho.good.w2
  have hlast := ho.last
  have hlen2 := ho.len
  have e1 : r.adv i = ⟨r.w, i, r.last, strip ((i : Int) - r.w) r.l⟩ := adv_l ho.now (by omega)
  obtain ⟨ht, e2⟩ := add_l (r := r.adv i) (s := (i, o, n)) (by rw [e1]; exact hw1) (by rw [e1]; exact hw2) (by rw [e1]) (by dsimp only; omega) (by dsimp only; omega) (by rw [e1]; dsimp only; omega)
  have g1 := ho.good.adv (n := i)
  have l1 : (r.adv i).l.length ≤ i := by rw [e1]; have := strip_len (c := (i : Int) - r.w) (l := r.l); dsimp only; omega
  obtain ⟨H1, c1, h1⟩ := (adv_t (n := i) (ho.good.ok (by omega))).frame.use0 h
  obtain ⟨H2, c2, h2⟩ := (add_t (t := i) (o := o) (n := n) (g1.ok (by omega)) hxn).frame.use0 h1
  rw [ht] at c2
  refine ⟨H2, _, ⟨g1.add (s := (i, o, n)) hxn, ?_, ?_, ?_, ?_⟩, h2, ?_⟩
  · rw [e2, e1]; exact ho.w
  · rw [e2, e1]; push_cast; omega
  · rw [e2]; push_cast; omega
  · rw [e2]; simp; omega
  · simp [-getElem?_pos, fn5B0, hlen, hlt, hidx, hrow, c1, c2, w1]

theorem old_loop {A : IV} {l : List Num} (hA : SlA A 2 (l.map nrow)) (hG : Given l) {k a b : Nat} {x1 : IV} {B : Asn} (hk2 : k ≤ 60) (hl : l.length ≤ 50) : ∀ (d i : Nat) (H : Hp) (r : Ring), i + d = l.length → Old k i r → Hold H ((RO a r).star B) →
    ∃ e' H' r', Old k l.length r' ∧ Hold H' ((RO a r').star B) ∧ get e' 1 = x1 ∧ get e' 7 = .int .i64 k ∧ get e' 8 = .ptr a 0 0 0 ∧ get e' 9 = .ptr b 0 0 0 ∧ runW pg 0 fn5L0 [(0, A), (1, x1), (7, .int .i64 k), (8, .ptr a 0 0 0), (9, .ptr b 0 0 0), (10, .int .i64 i)] H = some (.exit 0, e', H')
  | 0, i, H, r, hd, ho, h => by
    have hlen := hA.len
    rw [List.length_map] at hlen
    have e : i = l.length := by omega
    have hf : ¬ ((i : Int) < l.length) := by omega
    refine ⟨[(0, A), (1, x1), (7, .int .i64 k), (8, .ptr a 0 0 0), (9, .ptr b 0 0 0), (10, .int .i64 i), (38, .bool false)], H, r, by rw [← e]; exact ho, h, rfl, rfl, rfl, rfl, ?_⟩
    rw [L0_eq]; simp [fn5B0, hlen, hf]
  | d + 1, i, H, r, hd, ho, h => by
    obtain ⟨H1, r1, o1, h1, hb⟩ := old_step hA hG (b := b) (x1 := x1) hk2 (by omega) hl ho h
    obtain ⟨e', H2, r2, o2, h2, q1, q7, q8, q9, hr⟩ := old_loop hA hG hk2 hl d (i + 1) H1 r1 (by omega) o1 h1
    push_cast at hr
    refine ⟨e', H2, r2, o2, h2, q1, q7, q8, q9, ?_⟩
    rw [L0_eq]
    simp [hb, hr]

/-- Two rings that tell the same from now on. -/
structure Two (k i : Nat) (r q : Ring) : Prop where
  gr : Good r
  gq : Good q
  wr : r.w = k
  wq : q.w = k
  nr : r.now ≤ 199 + i
  nq : q.now ≤ 199 + i
  lr : r.last ≤ 199 + i
  lq : q.last ≤ 199 + i
  br : r.l.length ≤ 50 + i
  bq : q.l.length ≤ 50 + i
  e : strip (200 + (i : Int) - k) r.l = strip (200 + (i : Int) - k) q.l

theorem two_step {A : IV} {l : List Num} (hA : SlA A 2 (l.map nrow)) (hG : Given l) {k i a b : Nat} {r q : Ring} (hk2 : k ≤ 60) (hi1 : i < l.length) (hl : l.length ≤ 50) (ho : Two k i r q) (h : Hold H ((RO a r).star (RO b q))) :
    ∃ H' r' q', Two k (i + 1) r' q' ∧ Hold H' ((RO a r').star (RO b q')) ∧ runW pg 0 fn5B1 [(1, A), (7, .int .i64 k), (8, .ptr a 0 0 0), (9, .ptr b 0 0 0), (11, .int .i64 i)] H =
      some (.nrm, [(1, A), (7, .int .i64 k), (8, .ptr a 0 0 0), (9, .ptr b 0 0 0), (11, .int .i64 ((i : Int) + 1))], H') := by
  have hlen := hA.len
  rw [List.length_map] at hlen
  obtain ⟨x, hx⟩ : ∃ x, l[i]? = some x := ⟨_, List.getElem?_eq_getElem hi1⟩
  have hxn := hG x (List.mem_of_getElem? hx)
  obtain ⟨o, n⟩ := x
  have hrow : (l.map nrow)[i]? = some [.bool o, .int .i64 n] := by rw [List.getElem?_map, hx]; rfl
  have hidx := fun H => hA.idx H i (by simp; omega)
  have hlt : (i : Int) < l.length := by omega
  have w1 : IntKind.i64.wrap ((i : Int) + 1) = i + 1 := by rw [IntKind.wrap_i64]; omega
  have w2 : IntKind.i64.wrap (200 + (i : Int)) = 200 + i := by rw [IntKind.wrap_i64]; omega
  have br := ho.br
  have bq := ho.bq
  have nr := ho.nr
  have nq := ho.nq
  have lr := ho.lr
  have lq := ho.lq
  have e1 : r.adv (200 + i) = ⟨r.w, 200 + i, r.last, strip (200 + (i : Int) - r.w) r.l⟩ := adv_l (by omega) (by omega)
  have e2 : q.adv (200 + i) = ⟨q.w, 200 + i, q.last, strip (200 + (i : Int) - q.w) q.l⟩ := adv_l (by omega) (by omega)
  have gr := ho.gr.adv (n := 200 + i)
  have gq := ho.gq.adv (n := 200 + i)
  obtain ⟨t1, a1⟩ := add_l (r := r.adv (200 + i)) (s := (200 + i, o, n)) gr.w1 gr.w2 (by rw [e1]) (by dsimp only; omega) (by dsimp only; omega) (by rw [e1]; dsimp only; omega)
  obtain ⟨t2, a2⟩ := add_l (r := q.adv (200 + i)) (s := (200 + i, o, n)) gq.w1 gq.w2 (by rw [e2]) (by dsimp only; omega) (by dsimp only; omega) (by rw [e2]; dsimp only; omega)
  have l1 : (r.adv (200 + i)).l.length ≤ 50 + i := by rw [e1]; have := strip_len (c := 200 + (i : Int) - r.w) (l := r.l); dsimp only; omega
  have l2 : (q.adv (200 + i)).l.length ≤ 50 + i := by rw [e2]; have := strip_len (c := 200 + (i : Int) - q.w) (l := q.l); dsimp only; omega
  obtain ⟨H1, c1, h1⟩ := (adv_t (n := 200 + i) (ho.gr.ok (by omega))).frame.use0 h
  obtain ⟨H2, c2, h2⟩ := (adv_t (n := 200 + i) (ho.gq.ok (by omega))).frame.use0 h1.comm
  obtain ⟨H3, c3, h3⟩ := (add_t (t := 200 + i) (o := o) (n := n) (gr.ok (by omega)) hxn).frame.use0 h2.comm
  obtain ⟨H4, c4, h4⟩ := (add_t (t := 200 + i) (o := o) (n := n) (gq.ok (by omega)) hxn).frame.use0 h3.comm
  rw [t1] at c3
  rw [t2] at c4
  have ee : (r.adv (200 + i)).l = (q.adv (200 + i)).l := by rw [e1, e2]; dsimp only; rw [ho.wr, ho.wq]; exact ho.e
  refine ⟨H4, _, _, ⟨gr.add (s := (200 + i, o, n)) hxn, gq.add (s := (200 + i, o, n)) hxn, ?_, ?_, ?_, ?_, ?_, ?_, ?_, ?_, ?_⟩, h4.comm, ?_⟩
  · rw [a1, e1]; exact ho.wr
  · rw [a2, e2]; exact ho.wq
  · rw [a1, e1]; push_cast; omega
  · rw [a2, e2]; push_cast; omega
  · rw [a1]; push_cast; omega
  · rw [a2]; push_cast; omega
  · rw [a1]; simp; omega
  · rw [a2]; simp; omega
  · rw [a1, a2]; dsimp only; rw [ee]
  · simp [-getElem?_pos, fn5B1, hlen, hlt, w2, hidx, hrow, c1, c2, c3, c4, w1]

theorem two_loop {A : IV} {l : List Num} (hA : SlA A 2 (l.map nrow)) (hG : Given l) {k a b : Nat} (hk2 : k ≤ 60) (hl : l.length ≤ 50) : ∀ (d i : Nat) (H : Hp) (r q : Ring), i + d = l.length → Two k i r q → Hold H ((RO a r).star (RO b q)) →
    ∃ e' H' r' q', Two k l.length r' q' ∧ Hold H' ((RO a r').star (RO b q')) ∧ get e' 1 = A ∧ get e' 7 = .int .i64 k ∧ get e' 8 = .ptr a 0 0 0 ∧ get e' 9 = .ptr b 0 0 0 ∧ runW pg 0 fn5L1 [(1, A), (7, .int .i64 k), (8, .ptr a 0 0 0), (9, .ptr b 0 0 0), (11, .int .i64 i)] H = some (.exit 2, e', H')
  | 0, i, H, r, q, hd, ho, h => by
    have hlen := hA.len
    rw [List.length_map] at hlen
    have e : i = l.length := by omega
    have hf : ¬ ((i : Int) < l.length) := by omega
    refine ⟨[(1, A), (7, .int .i64 k), (8, .ptr a 0 0 0), (9, .ptr b 0 0 0), (11, .int .i64 i), (56, .bool false)], H, r, q, by rw [← e]; exact ho, h, rfl, rfl, rfl, rfl, ?_⟩
    rw [L1_eq]; simp [fn5B1, hlen, hf]
  | d + 1, i, H, r, q, hd, ho, h => by
    obtain ⟨H1, r1, q1, o1, h1, hb⟩ := two_step hA hG hk2 (by omega) hl ho h
    obtain ⟨e', H2, r2, q2, o2, h2, g1, g7, g8, g9, hr⟩ := two_loop hA hG hk2 hl d (i + 1) H1 r1 q1 (by omega) o1 h1
    push_cast at hr
    refine ⟨e', H2, r2, q2, o2, h2, g1, g7, g8, g9, ?_⟩
    rw [L1_eq]
    simp [hb, hr]

theorem law {A B : IV} {old l : List Num} (hA : SlA A 2 (old.map nrow)) (hB : SlA B 2 (l.map nrow)) (hG : Given old) (hG2 : Given l) {w : Int} (hw0 : 0 ≤ w) (hw : w < 256) : ∃ H', callW pg 0 5 [A, B, .int .u8 w] [] = some (.bool true, H') := by
  obtain ⟨Hk, hkn⟩ := known_c
  have hk2 : doCall (callW pg) 0 2 (.fn 8 []) [] [] = some (.bool true, []) := call2p hkn rfl rfl
  have hlenA := hA.len
  have hlenB := hB.len
  rw [List.length_map] at hlenA hlenB
  rw [callW_eqO (fn := fn5) rfl rfl]
  by_cases hl : (50 : Int) < old.length
  · refine ⟨[], ?_⟩
    simp [-getElem?_pos, fn5, hk2, hlenA, hl]
  by_cases hl2 : (50 : Int) < l.length
  · refine ⟨[], ?_⟩
    simp [-getElem?_pos, fn5, hk2, hlenA, hlenB, hl, hl2]
  obtain ⟨k, hk⟩ : ∃ k : Nat, (k : Int) = w % 60 + 1 := ⟨(w % 60 + 1).toNat, by omega⟩
  have hmin : min (max (k : Int) 1) 100 = k := by omega
  have new1 := new_c (ro := 0) (H := []) (n := (k : Int)) (Nat.le_refl _)
  have new2 := new_c (ro := 0) (H := [{ rows := [Ring.row ⟨(k : Int), 0, -1, []⟩ .nsl] }]) (n := (k : Int)) (by simp)
  rw [hmin] at new1 new2
  have hat : Hold ([{ rows := [Ring.row ⟨(k : Int), 0, -1, []⟩ .nsl] }, { rows := [Ring.row ⟨(k : Int), 0, -1, []⟩ .nsl] }] : Hp) ((RO 0 ⟨(k : Int), 0, -1, []⟩).star (RO 1 ⟨(k : Int), 0, -1, []⟩)) := by
    have a1 : Hold ([] ++ [{ rows := [Ring.row ⟨(k : Int), 0, -1, []⟩ .nsl] }]) (RO 0 ⟨(k : Int), 0, -1, []⟩) := let ⟨F, h, _⟩ := new_hold (H := []) (k := (k : Int)); ⟨F, h⟩
    exact a1.new (new_hold (k := (k : Int)))
  have g0 : Good ⟨(k : Int), 0, -1, []⟩ := ⟨by dsimp only; omega, by dsimp only; omega, by simp, by simp, trivial, by simp, by simp⟩
  have o0 : Old k 0 ⟨(k : Int), 0, -1, []⟩ := ⟨g0, rfl, by simp, by simp, by simp⟩
  obtain ⟨e1, H1, r1, o1, h1, p1, p7, p8, p9, run1⟩ := old_loop hA hG (x1 := B) (b := 1) (by omega) (by omega) old.length 0 _ _ (by omega) o0 hat
  have t0 : Two k 0 r1 ⟨(k : Int), 0, -1, []⟩ := by
    have := o1.len
    have := o1.last
    have := o1.now
    refine ⟨o1.good, g0, o1.w, rfl, by omega, by simp, by omega, by simp, by omega, by simp, ?_⟩
    rw [strip_none fun s hs => ?_]
    · rfl
    · have := o1.good.le s hs; omega
  obtain ⟨e2, H2, r2, q2, o2, h2, s1, s7, s8, s9, run2⟩ := two_loop hB hG2 (by omega) (by omega) l.length 0 _ _ _ (by omega) t0 h1
  -- the end
  have br := o2.br
  have bq := o2.bq
  have nr := o2.nr
  have nq := o2.nq
  have lr := o2.lr
  have d1 : r2.adv (200 + l.length) = ⟨r2.w, 200 + l.length, r2.last, strip (200 + (l.length : Int) - r2.w) r2.l⟩ := adv_l (by omega) (by omega)
  have d2 : q2.adv (200 + l.length) = ⟨q2.w, 200 + l.length, q2.last, strip (200 + (l.length : Int) - q2.w) q2.l⟩ := adv_l (by omega) (by omega)
  have gr := o2.gr.adv (n := 200 + l.length)
  have gq := o2.gq.adv (n := 200 + l.length)
  have ee : (r2.adv (200 + l.length)).l = (q2.adv (200 + l.length)).l := by rw [d1, d2]; dsimp only; rw [o2.wr, o2.wq]; exact o2.e
  have sl := strip_len (c := 200 + (l.length : Int) - r2.w) (l := r2.l)
  have l1 : (r2.adv (200 + l.length)).l.length ≤ 1000000 := by rw [d1]; dsimp only; omega
  obtain ⟨H3, c3, h3⟩ := (adv_t (n := 200 + l.length) (o2.gr.ok (by omega))).frame.use0 h2
  obtain ⟨H4, c4, h4⟩ := (adv_t (n := 200 + l.length) (o2.gq.ok (by omega))).frame.use0 h3.comm
  have h4 := h4.comm
  have okr := gr.ok l1
  have okq := gq.ok (by rw [← ee]; exact l1)
  have av1 := fun ro => avg_h (ro := ro) h4.fst okr
  have av2 := fun ro Y => avg_h (ro := ro) (h4.snd.app Y) okq
  rw [← ee] at av2
  have hk3 : ((r2.adv (200 + l.length)).l.length : Int) ≤ k := by
    have := asc_len (lo := 200 + (l.length : Int) - r2.w) (hi := 199 + l.length) gr.asc fun s hs => by
      have h5 := gr.le s hs
      have h6 : 200 + (l.length : Int) - r2.w < s.1 := by
        rw [d1] at hs
        exact strip_gt o2.gr.asc s hs
      refine ⟨h6, ?_⟩
      rw [d1] at h5; dsimp only at h5; omega
    have := o2.wr
    omega
  obtain ⟨⟨⟨ao, an⟩, ab⟩, hav⟩ : ∃ y, avgR (r2.adv (200 + l.length)).l = y := ⟨_, rfl⟩
  rw [hav] at av1 av2
  simp only [nval] at av1 av2
  have hY := h4.app [{ rows := [[.bool ao, .int .i64 an]] }, { rows := [[.bool ao, .int .i64 an]] }]
  obtain ⟨A1, al1, sA1⟩ := all_h hY.fst okr
  obtain ⟨A2, al2, sA2⟩ := all_h hY.snd okq
  rw [← ee] at sA2
  have sm := fun ro (H : Hp) => same_2 (ro := ro) (H := H) sA1 sA2 l1
  have su1 := fun ro => sum_h (ro := ro) hY.fst okr
  have su2 := fun ro => sum_h (ro := ro) hY.snd okq
  rw [← ee] at su2
  obtain ⟨⟨uo, un⟩, hu⟩ : ∃ y, sumNN (sumS (r2.adv (200 + l.length)).l) (cntO (r2.adv (200 + l.length)).l) = y := ⟨_, rfl⟩
  rw [hu] at su1 su2
  simp only [nval] at su1 su2
  have ln := fun ro => len_h (ro := ro) hY.fst
  have t1 : binV .rem (.int .u8 w) (.int .u8 60) = some (.int .u8 (w % 60)) := by rw [bin_rem (by decide), Int.tmod_eq_emod_of_nonneg hw0]
  have w0 : IntKind.i64.wrap (w % 60) = w % 60 := by rw [IntKind.wrap_i64]; omega
  have w1 : IntKind.i64.wrap (w % 60 + 1) = k := by rw [IntKind.wrap_i64]; omega
  have w2 : IntKind.i64.wrap (200 + (l.length : Int)) = 200 + l.length := by rw [IntKind.wrap_i64]; omega
  refine ⟨H4 ++ [{ rows := [[.bool ao, .int .i64 an]] }, { rows := [[.bool ao, .int .i64 an]] }], ?_⟩
  simp at run1 run2
  simp at new1 new2
  simp [-getElem?_pos, fn5, hk2, hlenA, hlenB, hl, hl2, t1, w0, w1, new1, new2, run1, p1, p7, p8, p9, run2, s1, s7, s8, s9, w2, c3, c4, av1, av2, al1, al2, sm, su1, su2, ln, hk3]

abbrev TL : Ty := .sl (.pair .bool (.int .i64))
theorem wf (x0 : TL.den) (x1 : TL.den) (x2 : (Ty.int .u8).den) (ok0 : TL.ok x0) (ok1 : TL.ok x1) (ok2 : (Ty.int .u8).ok x2) : ∃ H', callW pg 0 5 [TL.arg x0, TL.arg x1, (Ty.int .u8).arg x2] [] = some (.bool true, H') := by
  have key : ∀ x : TL.den, TL.ok x → ∃ l, SlA (TL.arg x) 2 (l.map nrow) ∧ Given l := fun x ok => by
    obtain ⟨l, hA, hl⟩ := sl_arg (e := .pair .bool (.int .i64)) x
    refine ⟨l, hA, ?_⟩
    rcases hl with ⟨_, rfl⟩ | h
    · intro y hy; cases hy
    · intro y hy
      exact wf_i64 _ ((ok l h).2 y hy).2
  obtain ⟨l0, a0, g0⟩ := key x0 ok0
  obtain ⟨l1, a1, g1⟩ := key x1 ok1
  obtain ⟨h1, h2⟩ := wf_u8 x2 ok2
  exact law a0 a1 g0 g1 h1 h2

end Fgt
end Go.Proofs.Ytdaajnaphkepmaa
