import Derived.Test.YtfgmncabjljhmaaTcnt18
namespace Go.Proofs.Ytfgmncabjljhmaa
open Go Go.Vs
variable {ro : Nat} {H : Hp}

/-! the law 'CounterPlays' -/
namespace Pl

/-- The law's own window. -/
def M (v : IV) (l : List Smp) : Asn where
  p H F := Sl H v 3 (l.map srow) ∧ F = blkS v
  lt := by rintro H F ⟨h, rfl⟩; exact h.lt
  fr := by rintro H H' F ⟨h, rfl⟩ hf; exact ⟨h.fr hf, rfl⟩
theorem M_sl {v : IV} {l : List Smp} (h : Hold H (M v l)) : Sl H v 3 (l.map srow) := let ⟨_, h, _⟩ := h; h

/-- A step of the row: whether it is time, its time, its value. -/
abbrev Step := Bool × Int × Bool × Int
def strow (s : Step) : List IV := [.bool s.1, .int .i64 s.2.1, .bool s.2.2.1, .int .i64 s.2.2.2]

theorem L0_eq {e : Env} : runW pg 0 fn6L0 e H = seqO pg 0 fn6L0 (runW pg 0 fn6B0 (keepE [1, 5, 6, 7, 8, 9, 10] e) H) := runW_loopO
theorem L1_eq {e : Env} : runW pg 0 fn6L1 e H = seqO pg 0 fn6L1 (runW pg 0 fn6B1 (keepE [1, 5, 6, 7, 8, 9, 10] e) H) := runW_loopO

/-- The law's window as time goes on. -/
theorem mloop {A p : IV} {i : Nat} {w now last : Int} (hw : IntKind.i64.wrap (now - w) = now - w) : ∀ (l : List Smp) (m : IV), Sl H m 3 (l.map srow) →
    ∃ e' m', get e' 1 = A ∧ get e' 5 = p ∧ get e' 6 = .int .i64 w ∧ get e' 7 = .int .i64 now ∧ get e' 8 = .int .i64 last ∧ get e' 9 = m' ∧ get e' 10 = .int .i64 i ∧
      runW pg 0 fn6L0 [(1, A), (5, p), (6, .int .i64 w), (7, .int .i64 now), (8, .int .i64 last), (9, m), (10, .int .i64 i)] H = some (.exit 2, e', H) ∧
      Sl H m' 3 ((strip (now - w) l).map srow) ∧ blkS m' = blkS m
  | [], m, h => by
    have hlen := h.len
    refine ⟨[(1, A), (5, p), (6, .int .i64 w), (7, .int .i64 now), (8, .int .i64 last), (9, m), (10, .int .i64 i), (78, .bool false)], m, rfl, rfl, rfl, rfl, rfl, rfl, rfl, ?_, h, rfl⟩
    simp at hlen
    rw [L0_eq]; simp [fn6B0, hlen]
  | s :: l, m, h => by
    have hlen := h.len
    obtain ⟨t, o, n⟩ := s
    obtain ⟨b, B, j, hb, hidx, hB, hfz, hrow⟩ := h.idx (i := 0) (row := [.int .i64 t, .bool o, .int .i64 n]) rfl
    simp at hlen hidx
    have h0 : (0 : Int) < (l.length : Int) + 1 := by omega
    by_cases hg : t ≤ now - w
    · obtain ⟨m1, hs1, hm1, hb1⟩ := Sl.tail (r := srow (t, o, n)) (rows := l.map srow) (by simpa using h)
      obtain ⟨e', m', g1, g5, g6, g7, g8, g9, g10, hrun, hsl, hbl⟩ := mloop (A := A) (p := p) (i := i) (last := last) hw l m1 hm1
      refine ⟨e', m', g1, g5, g6, g7, g8, g9, g10, ?_, by rw [strip, if_pos hg]; exact hsl, by rw [hbl, hb1]⟩
      rw [L0_eq]
      simp [-getElem?_pos, fn6B0, hlen, h0, hidx, hB, hrow, hw, hg, hs1, hrun]
    · refine ⟨[(1, A), (5, p), (6, .int .i64 w), (7, .int .i64 now), (8, .int .i64 last), (9, m), (10, .int .i64 i), (78, .bool false)], m, rfl, rfl, rfl, rfl, rfl, rfl, rfl, ?_, by rw [strip, if_neg hg]; exact h, rfl⟩
      rw [L0_eq]
      simp [-getElem?_pos, fn6B0, hlen, h0, hidx, hB, hrow, hw, hg]

/-- All that is asked at the end of a round. -/
structure Asked (C : Nat) (m : IV) (w : Int) (H : Hp) (so : Bool) (sn : Int) (sb : Bool) (ro' : Bool) (rn : Int) (K : Int) : Prop where
  g1 : ∀ ro, doCall (callW pg) ro 2 (.fn 16 []) [.ptr C 0 0 0] H = some (.tup [.agg [.bool so, .int .i64 sn], .bool sb], H)
  g2 : ∀ ro Z, doCall (callW pg) ro 2 (.fn 10 []) [m] (H ++ Z) = some (.tup [.agg [.bool so, .int .i64 sn], .bool sb], H ++ Z)
  g3 : ∀ ro Z, doCall (callW pg) ro 2 (.fn 17 []) [.ptr C 0 0 0] (H ++ Z) = some (.tup [.agg [.bool ro', .int .i64 rn], .bool sb], H ++ Z)
  wh : ∀ ro H, doCall (callW pg) ro 2 (.fn 19 []) [.int .i64 w] H = some (.agg [.bool false, .int .i64 (w * 1000000)], H)
  dv : sb = true → ∀ ro H, doCall (callW pg) ro 2 (.fn 18 []) [.agg [.bool so, .int .i64 sn], .agg [.bool false, .int .i64 (w * 1000000)]] H = some (.agg [.bool ro', .int .i64 rn], H)
  k1 : ∀ ro Z, doCall (callW pg) ro 2 (.fn 20 []) [.ptr C 0 0 0] (H ++ Z) = some (.int .i64 K, H ++ Z)
  k2 : ∀ ro Z, doCall (callW pg) ro 2 (.fn 21 []) [m] (H ++ Z) = some (.int .i64 K, H ++ Z)

theorem asked {C : Nat} {m : IV} {r : Cnt} (hG : Good r) (hl : r.l.length ≤ 1000) (h : Hold H ((CO C r).star (M m r.l))) : ∃ so sn sb ro' rn K, Asked C m r.w H so sn sb ro' rn K := by
  have ok := hG.ok (by omega)
  have hw1 := hG.w1
  have hw2 := hG.w2
  have hsl := M_sl h.snd
  refine ⟨(incL r.l).1.1, (incL r.l).1.2, (incL r.l).2, (rateL r.w r.l).1.1, (rateL r.w r.l).1.2, resN r.l (r.l.length - 1), ⟨fun ro => inc_h h.fst ok, fun ro Z => inc_g ((hsl.app Z).frzA plain_srow) hG.num (by omega), fun ro Z => ?_, fun ro H => whole_2 (by omega) (by omega), fun hb ro H => ?_, fun ro Z => resets_h (h.fst.app Z) (by omega), fun ro Z => resetsm_2 ((hsl.app Z).frzA plain_srow) (by omega)⟩⟩
  · have := rate_h (ro := ro) (h.fst.app Z) ok
    have e : (rateL r.w r.l).2 = (incL r.l).2 := by unfold rateL; cases hb : (incL r.l).2 <;> simp
    rw [e] at this
    exact this
  · have := div2_2 (ro := ro) (H := H) (a := (incL r.l).1) (b := (false, r.w * 1000000)) incL_ok (by unfold NumOk; dsimp only; omega)
    have e : (rateL r.w r.l).1 = divN (incL r.l).1 (false, r.w * 1000000) := by unfold rateL; rw [if_pos hb]
    rw [e]
    exact this

theorem time {A : IV} {l : List Step} (hA : SlA A 4 (l.map strow)) {C i : Nat} {m : IV} {r : Cnt} {t n : Int} {o : Bool} (hs : l[i]? = some (true, t, o, n)) (hi : l.length ≤ 150) (hG : Good r) (hl : r.l.length ≤ i)
    (h : Hold H ((CO C r).star (M m r.l))) :
    ∃ H' m', Hold H' ((CO C (r.adv t)).star (M m' (r.adv t).l)) ∧
      runW pg 0 fn6B1 [(1, A), (5, .ptr C 0 0 0), (6, .int .i64 r.w), (7, .int .i64 r.now), (8, .int .i64 r.last), (9, m), (10, .int .i64 i)] H =
        some (.nrm, [(1, A), (5, .ptr C 0 0 0), (6, .int .i64 (r.adv t).w), (7, .int .i64 (r.adv t).now), (8, .int .i64 (r.adv t).last), (9, m'), (10, .int .i64 ((i : Int) + 1))], H') := by
  have hil : i < l.length := (List.getElem?_eq_some_iff.1 hs).1
  have hlen := hA.len
  rw [List.length_map] at hlen
  have hlt : (i : Int) < l.length := by omega
  have hidx := fun H => hA.idx H i (by simp; omega)
  have hrow : (l.map strow)[i]? = some [.bool true, .int .i64 t, .bool o, .int .i64 n] := by rw [List.getElem?_map, hs]; rfl
  have w1 : IntKind.i64.wrap ((i : Int) + 1) = i + 1 := by rw [IntKind.wrap_i64]; omega
  obtain ⟨Ha, c1, h1⟩ := (adv_t (n := t) (hG.ok (by omega))).frame.use0 (h.app [{ rows := [[.int .i64 t, .bool o, .int .i64 n]] }])
  have hGa := hG.adv (n := t)
  have hw : IntKind.i64.wrap ((r.adv t).now - (r.adv t).w) = (r.adv t).now - (r.adv t).w := by
    have := hGa.w1; have := hGa.w2; have := hGa.n1; have := hGa.n2
    rw [IntKind.wrap_i64]; omega
  obtain ⟨e', m', q1, q5, q6, q7, q8, q9, q10, hrun, hsl, hbl⟩ := mloop (A := A) (p := .ptr C 0 0 0) (i := i) (last := r.last) hw r.l m (M_sl h1.snd)
  have h3 : Hold Ha ((CO C (r.adv t)).star (M m' (r.adv t).l)) := h1.imp_r fun {F} hF => ⟨hsl, by rw [hbl]; exact hF.2⟩
  obtain ⟨so, sn, sb, qo, qn, K, a⟩ := asked hGa (by have := strip_len (c := (r.adv t).now - (r.adv t).w) (l := r.l); simp only [Cnt.adv] at *; omega) h3
  obtain ⟨g1, g2, g3, wh, dv, k1, k2⟩ := a
  refine ⟨Ha ++ [{ rows := [[.bool so, .int .i64 sn]] }, { rows := [[.bool so, .int .i64 sn]] }, { rows := [[.bool qo, .int .i64 qn]] }], m', h3.app _, ?_⟩
  have ew : (r.adv t).w = r.w := rfl
  rw [ew] at wh dv
  simp only [Cnt.adv] at q6 q7 hrun
  cases sb with
  | true =>
    have dv := dv rfl
    simp [-getElem?_pos, fn6B1, hlen, hlt, hidx, hrow, c1, hrun, q1, q5, q6, q7, q8, q9, q10, g1, g2, g3, wh, dv, k1, k2, w1, Cnt.adv]
  | false => simp [-getElem?_pos, fn6B1, hlen, hlt, hidx, hrow, c1, hrun, q1, q5, q6, q7, q8, q9, q10, g1, g2, g3, k1, k2, w1, Cnt.adv]

theorem no {A : IV} {l : List Step} (hA : SlA A 4 (l.map strow)) {C i : Nat} {m : IV} {r : Cnt} {t n : Int} {o : Bool} (hs : l[i]? = some (false, t, o, n)) (hi : l.length ≤ 150) (hG : Good r) (hl : r.l.length ≤ i)
    (h : Hold H ((CO C r).star (M m r.l))) (ht : takes r.w r.now r.last t ≠ 0) :
    ∃ H', Hold H' ((CO C r).star (M m r.l)) ∧
      runW pg 0 fn6B1 [(1, A), (5, .ptr C 0 0 0), (6, .int .i64 r.w), (7, .int .i64 r.now), (8, .int .i64 r.last), (9, m), (10, .int .i64 i)] H =
        some (.nrm, [(1, A), (5, .ptr C 0 0 0), (6, .int .i64 r.w), (7, .int .i64 r.now), (8, .int .i64 r.last), (9, m), (10, .int .i64 ((i : Int) + 1))], H') := by
  have hil : i < l.length := (List.getElem?_eq_some_iff.1 hs).1
  have hlen := hA.len
  rw [List.length_map] at hlen
  have hlt : (i : Int) < l.length := by omega
  have hidx := fun H => hA.idx H i (by simp; omega)
  have hrow : (l.map strow)[i]? = some [.bool false, .int .i64 t, .bool o, .int .i64 n] := by rw [List.getElem?_map, hs]; rfl
  have w1 : IntKind.i64.wrap ((i : Int) + 1) = i + 1 := by rw [IntKind.wrap_i64]; omega
  have ea : r.add (t, o, n) = r := by unfold Cnt.add; rw [if_neg ht]
  obtain ⟨Ha, c1, h1⟩ := (add_t (t := t) (o := o) (n := n) (hG.ok (by omega))).frame.use0 (h.app [{ rows := [[.int .i64 t, .bool o, .int .i64 n]] }])
  rw [ea] at h1
  obtain ⟨so, sn, sb, qo, qn, K, a⟩ := asked hG (by omega) h1
  obtain ⟨g1, g2, g3, wh, dv, k1, k2⟩ := a
  refine ⟨Ha ++ [{ rows := [[.bool so, .int .i64 sn]] }, { rows := [[.bool so, .int .i64 sn]] }, { rows := [[.bool qo, .int .i64 qn]] }], h1.app _, ?_⟩
  have dv' : sb = true → ∀ ro H, doCall (callW pg) ro 2 (.fn 18 []) [.agg [.bool so, .int .i64 sn], .agg [.bool false, .int .i64 (r.w * 1000000)]] H = some (.agg [.bool qo, .int .i64 qn], H) := dv
  unfold takes at ht c1
  by_cases d1 : t < 0
  · simp only [d1, true_or, if_true] at c1
    cases sb with
    | true =>
      have dv := dv rfl
      simp [-getElem?_pos, fn6B1, hlen, hlt, hidx, hrow, d1, c1, g1, g2, g3, wh, dv, k1, k2, w1]
    | false => simp [-getElem?_pos, fn6B1, hlen, hlt, hidx, hrow, d1, c1, g1, g2, g3, k1, k2, w1]
  by_cases d2 : r.now < t
  · simp only [d1, d2, true_or, false_or, if_true] at c1
    cases sb with
    | true =>
      have dv := dv rfl
      simp [-getElem?_pos, fn6B1, hlen, hlt, hidx, hrow, d1, d2, c1, g1, g2, g3, wh, dv, k1, k2, w1]
    | false => simp [-getElem?_pos, fn6B1, hlen, hlt, hidx, hrow, d1, d2, c1, g1, g2, g3, k1, k2, w1]
  by_cases d3 : t ≤ IntKind.i64.wrap (r.now - r.w)
  · simp only [d1, d2, d3, false_or, if_true] at c1
    cases sb with
    | true =>
      have dv := dv rfl
      simp [-getElem?_pos, fn6B1, hlen, hlt, hidx, hrow, d1, d2, d3, c1, g1, g2, g3, wh, dv, k1, k2, w1]
    | false => simp [-getElem?_pos, fn6B1, hlen, hlt, hidx, hrow, d1, d2, d3, c1, g1, g2, g3, k1, k2, w1]
  by_cases d4 : t ≤ r.last
  · simp only [d1, d2, d3, d4, or_self, if_true, if_false] at c1
    cases sb with
    | true =>
      have dv := dv rfl
      simp [-getElem?_pos, fn6B1, hlen, hlt, hidx, hrow, d1, d2, d3, d4, c1, g1, g2, g3, wh, dv, k1, k2, w1]
    | false => simp [-getElem?_pos, fn6B1, hlen, hlt, hidx, hrow, d1, d2, d3, d4, c1, g1, g2, g3, k1, k2, w1]
  · simp [d1, d2, d3, d4] at ht

theorem yes {A : IV} {l : List Step} (hA : SlA A 4 (l.map strow)) {C i : Nat} {m : IV} {r : Cnt} {t n : Int} {o : Bool} (hs : l[i]? = some (false, t, o, n)) (hi : l.length ≤ 150) (hG : Good r) (hl : r.l.length ≤ i) (hn : NumOk n)
    (h : Hold H ((CO C r).star (M m r.l))) (ht : takes r.w r.now r.last t = 0) :
    ∃ H' m', Hold H' ((CO C (r.add (t, o, n))).star (M m' (r.add (t, o, n)).l)) ∧
      runW pg 0 fn6B1 [(1, A), (5, .ptr C 0 0 0), (6, .int .i64 r.w), (7, .int .i64 r.now), (8, .int .i64 r.last), (9, m), (10, .int .i64 i)] H =
        some (.nrm, [(1, A), (5, .ptr C 0 0 0), (6, .int .i64 r.w), (7, .int .i64 r.now), (8, .int .i64 t), (9, m'), (10, .int .i64 ((i : Int) + 1))], H') := by
  have hil : i < l.length := (List.getElem?_eq_some_iff.1 hs).1
  have hlen := hA.len
  rw [List.length_map] at hlen
  have hlt : (i : Int) < l.length := by omega
  have hidx := fun H => hA.idx H i (by simp; omega)
  have hrow : (l.map strow)[i]? = some [.bool false, .int .i64 t, .bool o, .int .i64 n] := by rw [List.getElem?_map, hs]; rfl
  have w1 : IntKind.i64.wrap ((i : Int) + 1) = i + 1 := by rw [IntKind.wrap_i64]; omega
  have hwl : (r.add (t, o, n)).l = r.l ++ [(t, normN (o, n))] := by simp [Cnt.add, ht, heldS]
  have hww : (r.add (t, o, n)).w = r.w := by simp [Cnt.add, ht]
  -- the law's own window
  have hm := M_sl (h.app [{ rows := [[.int .i64 t, .bool o, .int .i64 n]] }]).snd
  obtain ⟨m1, hclip, happ⟩ := hm.clip (r := srow (t, normN (o, n))) (bytes := 24) rfl (by rw [List.length_map]; unfold room; omega)
  have hmlen := hm.len
  rw [List.length_map] at hclip hmlen
  obtain ⟨m2, happ, em2, hm2⟩ := happ [{ rows := [srow (t, normN (o, n))] }] (.arr (H.length + 1) 0 0 1 1 true) (by simp) 0
  have hM2 : Hold (H ++ [{ rows := [[.int .i64 t, .bool o, .int .i64 n]] }] ++ [{ rows := [srow (t, normN (o, n))] }] ++ [{ rows := r.l.map srow ++ [srow (t, normN (o, n))] }])
      ((CO C r).star ((cell H.length { rows := [[.int .i64 t, .bool o, .int .i64 n]] }).star (M m2 (r.add (t, o, n)).l))) := by
    have a1 := (Hold.newCell (B := { rows := [[.int .i64 t, .bool o, .int .i64 n]] }) h.fst).app [{ rows := [srow (t, normN (o, n))] }]
    have a2 := a1.new (Y := [{ rows := r.l.map srow ++ [srow (t, normN (o, n))] }]) (B := M m2 (r.add (t, o, n)).l) ⟨blkS m2, ⟨by rw [hwl, List.map_append]; exact hm2, rfl⟩, fun b hb => by rw [em2] at hb; simp [blkS] at hb; simp; omega⟩
    exact a2.assoc
  obtain ⟨Ha, c1, h1⟩ := (add_t (t := t) (o := o) (n := n) (hG.ok (by omega))).frame.use0 hM2
  rw [ht] at c1
  have h3 := h1.rot.snd.comm
  have hGa := hG.add (s := (t, o, n)) hn
  obtain ⟨so, sn, sb, qo, qn, K, a⟩ := asked hGa (by rw [hwl]; simp; omega) h3
  obtain ⟨g1, g2, g3, wh, dv, k1, k2⟩ := a
  rw [hww] at wh dv
  refine ⟨Ha ++ [{ rows := [[.bool so, .int .i64 sn]] }, { rows := [[.bool so, .int .i64 sn]] }, { rows := [[.bool qo, .int .i64 qn]] }], m2, h3.app _, ?_⟩
  have hd : ¬ t < 0 ∧ ¬ r.now < t ∧ ¬ t ≤ IntKind.i64.wrap (r.now - r.w) ∧ ¬ t ≤ r.last := by
    unfold takes at ht
    split at ht
    · cases ht
    · split at ht
      · cases ht
      · rename_i h1 h2; exact ⟨by omega, by omega, by omega, h2⟩
  obtain ⟨d1, d2, d3, d4⟩ := hd
  simp only [srow, List.append_assoc, List.cons_append, List.nil_append] at happ c1
  cases sb with
  | true =>
    have dv := dv rfl
    simp [-getElem?_pos, fn6B1, hlen, hlt, hidx, hrow, d1, d2, d3, d4, hmlen, hclip, norm_2, happ, c1, g1, g2, g3, wh, dv, k1, k2, w1]
  | false => simp [-getElem?_pos, fn6B1, hlen, hlt, hidx, hrow, d1, d2, d3, d4, hmlen, hclip, norm_2, happ, c1, g1, g2, g3, k1, k2, w1]

def Giv (l : List Step) : Prop := ∀ s ∈ l, NumOk s.2.2.2

theorem outer {A : IV} {l : List Step} (hA : SlA A 4 (l.map strow)) (hN : Giv l) (hl : l.length ≤ 150) {C : Nat} : ∀ (d i : Nat) (H : Hp) (r : Cnt) (m : IV), i + d = l.length → Good r → r.l.length ≤ i →
    Hold H ((CO C r).star (M m r.l)) →
    ∃ e' H', runW pg 0 fn6L1 [(1, A), (5, .ptr C 0 0 0), (6, .int .i64 r.w), (7, .int .i64 r.now), (8, .int .i64 r.last), (9, m), (10, .int .i64 i)] H = some (.exit 0, e', H')
  | 0, i, H, r, m, hd, _, _, h => by
    have hlen := hA.len
    rw [List.length_map] at hlen
    have hf : ¬ ((i : Int) < l.length) := by omega
    refine ⟨[(1, A), (5, .ptr C 0 0 0), (6, .int .i64 r.w), (7, .int .i64 r.now), (8, .int .i64 r.last), (9, m), (10, .int .i64 i), (32, .bool false)], H, ?_⟩
    rw [L1_eq]; simp [fn6B1, hlen, hf]
  | d + 1, i, H, r, m, hd, hG, hwl, h => by
    obtain ⟨s, hs⟩ : ∃ s, l[i]? = some s := ⟨_, List.getElem?_eq_getElem (by omega)⟩
    obtain ⟨b, t, o, n⟩ := s
    have hn : NumOk n := hN _ (List.mem_of_getElem? hs)
    cases b with
    | true =>
      obtain ⟨H1, m1, h1, hb⟩ := time hA hs hl hG hwl h
      obtain ⟨e', H2, hr⟩ := outer hA hN hl d (i + 1) H1 (r.adv t) m1 (by omega) hG.adv (by have := strip_len (c := (r.adv t).now - (r.adv t).w) (l := r.l); simp only [Cnt.adv] at *; omega) h1
      push_cast at hr
      refine ⟨e', H2, ?_⟩
      rw [L1_eq]
      simp [hb, hr]
    | false =>
      by_cases ht : takes r.w r.now r.last t = 0
      · obtain ⟨H1, m1, h1, hb⟩ := yes hA hs hl hG hwl hn h ht
        have e1 : r.add (t, o, n) = ⟨r.w, r.now, t, r.l ++ [heldS (t, o, n)]⟩ := by simp [Cnt.add, ht]
        obtain ⟨e', H2, hr⟩ := outer hA hN hl d (i + 1) H1 (r.add (t, o, n)) m1 (by omega) (hG.add hn) (by rw [e1]; simp; omega) h1
        push_cast at hr
        simp only [e1] at hr
        refine ⟨e', H2, ?_⟩
        rw [L1_eq]
        simp [hb, hr]
      · obtain ⟨H1, h1, hb⟩ := no hA hs hl hG hwl h ht
        obtain ⟨e', H2, hr⟩ := outer hA hN hl d (i + 1) H1 r m (by omega) hG (by omega) h1
        push_cast at hr
        refine ⟨e', H2, ?_⟩
        rw [L1_eq]
        simp [hb, hr]

theorem law {A : IV} {l : List Step} (hA : SlA A 4 (l.map strow)) (hN : Giv l) {w : Int} : ∃ H', callW pg 0 6 [.int .i64 w, A] [] = some (.bool true, H') := by
  obtain ⟨Hk, hkn⟩ := known_c
  have hk2 : doCall (callW pg) 0 2 (.fn 8 []) [] [] = some (.bool true, []) := call2p hkn rfl rfl
  have hlen := hA.len
  rw [List.length_map] at hlen
  rw [callW_eqO (fn := fn6) rfl rfl]
  by_cases hl : (150 : Int) < l.length
  · refine ⟨[], ?_⟩
    simp [-getElem?_pos, fn6, hk2, hlen, hl]
  have new1 := new_c (ro := 0) (H := []) (n := w) (Nat.le_refl _)
  have hat : Hold ([{ rows := [Cnt.row ⟨min (max w 1) 100, 0, -1, []⟩ .nsl] }] : Hp) ((CO 0 ⟨min (max w 1) 100, 0, -1, []⟩).star (M .nsl [])) := by
    have a1 : Hold ([] ++ [{ rows := [Cnt.row ⟨min (max w 1) 100, 0, -1, []⟩ .nsl] }]) (CO 0 ⟨min (max w 1) 100, 0, -1, []⟩) := let ⟨F, h, _⟩ := new_hold (H := []) (k := min (max w 1) 100); ⟨F, h⟩
    have a3 := a1.new (Y := []) (B := M .nsl []) ⟨[], ⟨Sl.nil, rfl⟩, by simp⟩
    simpa using a3
  have hG : Good ⟨min (max w 1) 100, 0, -1, []⟩ := ⟨by dsimp only; omega, by dsimp only; omega, by simp, by simp, trivial, by simp, by intro s hs; simp at hs⟩
  obtain ⟨e', H', hr⟩ := outer hA hN (by omega) (C := 0) l.length 0 _ _ .nsl (by omega) hG (by simp) hat
  have e1 : min (max w 1) 100 = max 1 (min w 100) := by omega
  refine ⟨H', ?_⟩
  simp only [Cnt.row, e1] at new1 hr
  simp at new1 hr
  simp [-getElem?_pos, fn6, hk2, hlen, hl, new1, hr]

abbrev TL : Ty := .sl (.pair .bool (.pair (.int .i64) (.pair .bool (.int .i64))))
theorem wf (x0 : (Ty.int .i64).den) (x1 : TL.den) (ok0 : (Ty.int .i64).ok x0) (ok1 : TL.ok x1) : ∃ H', callW pg 0 6 [(Ty.int .i64).arg x0, TL.arg x1] [] = some (.bool true, H') := by
  obtain ⟨l, hA, hl⟩ := sl_arg (e := .pair .bool (.pair (.int .i64) (.pair .bool (.int .i64)))) x1
  have e : l.map (Ty.pair .bool (.pair (.int .i64) (.pair .bool (.int .i64)))).enc = l.map strow := rfl
  rw [e] at hA
  refine law hA ?_
  rcases hl with ⟨_, rfl⟩ | h
  · intro x hx; cases hx
  · intro x hx
    exact wf_i64 _ ((ok1 l h).2 x hx).2.2.2

end Pl
end Go.Proofs.Ytfgmncabjljhmaa
