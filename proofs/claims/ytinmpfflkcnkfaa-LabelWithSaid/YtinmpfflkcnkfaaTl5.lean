import Derived.Test.YtinmpfflkcnkfaaTl4
import Derived.Test.YtinmpfflkcnkfaaVsSq
/- Pairs sorted by name. -/
namespace Go.Proofs.Ytinmpfflkcnkfaa
open Go Go.Vs
variable {ro : Nat} {H : Hp}

def cN (x y : Pr) : Int := cmpL x.1 y.1
theorem cN_anti (x y : Pr) : cN x y = - cN y x := cmpL_3.anti _ _
theorem cN_trans (x y z : Pr) : cN x y ≤ 0 → cN y z ≤ 0 → cN x z ≤ 0 := cmpL_3.trans _ _ _

theorem bcmp_2 {p q : Pr} : doCall (callW pg) ro 2 (.fn 50 []) [.agg (prow p), .agg (prow q)] H = some (.int .i64 (cN p q), H) := by
  have h : ∃ H', callW pg H.length 50 [.agg (prow p), .agg (prow q)] H = some (.int .i64 (cN p q), H') := by
    have h1 := fun ro H => compare_2 (ro := ro) (H := H) (a := p.1) (b := q.1)
    refine ⟨H ++ [{ rows := [prow p] }, { rows := [prow q] }], ?_⟩
    rw [callW_eqO (fn := fn50) rfl rfl]
    unfold prow
    simp [-getElem?_pos, fn50, h1, cN]
  obtain ⟨H', h⟩ := h
  refine call2p h ?_ rfl
  simp [prow, plainD, frzD]

/-! insertion sort -/
theorem pick_j {ps S : List Pr} {p x : Pr} : ((p :: ps).reverse ++ x :: S)[ps.length + 1]? = some x := by
  rw [List.getElem?_append_right (by simp)]; simp
theorem pick_i {ps S : List Pr} {p x : Pr} : ((p :: ps).reverse ++ x :: S)[ps.length]? = some p := by
  rw [List.getElem?_append_left (by simp), List.reverse_cons, List.getElem?_append_right (by simp)]; simp
theorem swap_eq {ps S : List Pr} {p x : Pr} : (((p :: ps).reverse ++ x :: S).set (ps.length + 1) p).set ps.length x = ps.reverse ++ x :: (p :: S) := by
  rw [List.set_append_right _ _ (by simp)]
  simp only [List.reverse_cons, List.length_append, List.length_reverse, List.length_singleton, Nat.sub_self, List.set_cons_zero, List.append_assoc]
  rw [List.set_append_right _ _ (by simp)]
  simp

theorem ins_loop {v i : IV} {n : Nat} : ∀ (ps S : List Pr) (x : Pr) (G : Hp), (∀ r ∈ ps, True) → True → (ps.length : Int) < 1000 → ro ≤ G.length → (∀ b ∈ blkS v, ro ≤ b) → Sq G v 2 ((ps.reverse ++ x :: S).map prow) →
    ∃ (j' : Nat) (G' : Hp), runW pg ro fn84L0 [(0, v), (1, .int .i64 0), (2, .int .i64 n), (3, .fn 50 []), (8, i), (9, .int .i64 ps.length)] G =
        some (.exit 2, [(0, v), (1, .int .i64 0), (2, .int .i64 n), (3, .fn 50 []), (8, i), (9, .int .i64 j'), (34, .bool false)], G') ∧
      Sq G' v 2 (((insR cN x ps).reverse ++ S).map prow) ∧ G'.length = G.length ∧ ∀ b, b ∉ blkS v → G'[b]? = G[b]? := by
  have L : ∀ e H, runW pg ro fn84L0 e H = seqO pg ro fn84L0 (runW pg ro fn84B0 (keepE [0, 1, 2, 3, 8, 9] e) H) := fun e H => runW_loopO
  intro ps
  induction ps with
  | nil =>
    intro S x G _ _ _ _ _ h
    refine ⟨0, G, ?_, by simpa [insR] using h, rfl, fun _ _ => rfl⟩
    rw [L]; simp [fn84B0]
  | cons p ps ih =>
    intro S x G hok hx hlen hG hro h
    have hp : True := hok p (List.mem_cons_self ..)
    simp only [List.length_cons] at hlen
    push_cast at hlen
    have e0 : (0 : Int) < (ps.length : Int) + 1 := by omega
    have w1 : IntKind.i64.wrap ((ps.length : Int) + 1 - 1) = ps.length := by rw [IntKind.wrap_i64]; omega
    have w2 : IntKind.i64.wrap (ps.length : Int) = ps.length := by rw [IntKind.wrap_i64]; omega
    obtain ⟨b1, B1, j1, hb1, hidx1, hB1, hf1, hrow1, hput1⟩ := h.idxw (i := ps.length + 1) (row := prow x) (by rw [List.getElem?_map, pick_j]; rfl)
    obtain ⟨b2, B2, j2, hb2, hidx2, hB2, hf2, hrow2, _⟩ := h.idxw (i := ps.length) (row := prow p) (by rw [List.getElem?_map, pick_i]; rfl)
    have hc := fun ro H => bcmp_2 (ro := ro) (H := H) (p := x) (q := p)
    push_cast at hidx1
    by_cases hlt : cN x p < 0
    · have h2 := hput1 (prow p) rfl
      obtain ⟨b3, B3, j3, hb3, hidx3, hB3, hf3, hrow3, hput3⟩ := h2.idxw (i := ps.length) (row := prow p) (by
        rw [List.getElem?_set_ne (by omega), List.getElem?_map, pick_i]; rfl)
      have h3 := hput3 (prow x) rfl
      have e : (((((p :: ps).reverse ++ x :: S).map prow).set (ps.length + 1) (prow p)).set ps.length (prow x)) = (ps.reverse ++ x :: (p :: S)).map prow := by
        rw [← List.map_set, ← List.map_set, swap_eq]
      rw [e] at h3
      obtain ⟨j', G', hr, q1, q2, q3⟩ := ih (p :: S) x _ (fun r hr => hok r (List.mem_cons_of_mem _ hr)) hx (by omega) (by simpa using hG) hro h3
      refine ⟨j', G', ?_, ?_, by rw [q2]; simp, fun b hb => ?_⟩
      · have hr1 := hro b1 hb1
        have hr3 := hro b3 hb3
        have hlt1 : b1 < G.length := (List.getElem?_eq_some_iff.1 hB1).1
        have hj1 := (List.getElem?_eq_some_iff.1 hrow1).1
        have hj3 := (List.getElem?_eq_some_iff.1 hrow3).1
        have hlt3 : b3 < G.length := by have := (List.getElem?_eq_some_iff.1 hB3).1; simpa using this
        unfold prow at hrow1 hrow2 hrow3 hidx3 hB3 hc hr
        rw [L]
        simp [-getElem?_pos, fn84B0, e0, hidx1, hidx2, hB1, hB2, hf1, hf2, hrow1, hrow2, w1, w2, hc, hlt, hr1, over, hidx3, hB3, hf3, hrow3, hr3, hr]
      · rw [insR, if_pos hlt, List.reverse_cons, List.append_assoc]; exact q1
      · rw [q3 b hb, List.getElem?_set_ne (fun e => hb (by rw [← e]; exact hb3)), List.getElem?_set_ne (fun e => hb (by rw [← e]; exact hb1))]
    · refine ⟨ps.length + 1, G, ?_, ?_, rfl, fun _ _ => rfl⟩
      · unfold prow at hrow1 hrow2 hc
        rw [L]
        simp [-getElem?_pos, fn84B0, e0, hidx1, hidx2, hB1, hB2, hf1, hf2, hrow1, hrow2, w1, w2, hc, hlt]
      · rw [insR, if_neg hlt, List.reverse_cons, List.append_assoc]; exact h
theorem outer_loop {v : IV} {n : Nat} (hn : n ≤ 900) : ∀ (rest acc : List Pr) (G : Hp), acc.length + rest.length = n → (∀ r ∈ acc, True) → (∀ r ∈ rest, True) → ro ≤ G.length → (∀ b ∈ blkS v, ro ≤ b) → Sq G v 2 ((acc.reverse ++ rest).map prow) →
    ∃ (e' : Env) (G' : Hp), runW pg ro fn84L1 [(0, v), (1, .int .i64 0), (2, .int .i64 n), (3, .fn 50 []), (8, .int .i64 acc.length)] G = some (.exit 0, e', G') ∧
      Sq G' v 2 (((rest.foldl (fun a x => insR cN x a) acc).reverse).map prow) ∧ G'.length = G.length ∧ ∀ b, b ∉ blkS v → G'[b]? = G[b]? := by
  have L : ∀ e H, runW pg ro fn84L1 e H = seqO pg ro fn84L1 (runW pg ro fn84B1 (keepE [0, 1, 2, 3, 8] e) H) := fun e H => runW_loopO
  intro rest
  induction rest with
  | nil =>
    intro acc G hl _ _ _ _ h
    simp at hl
    refine ⟨[(0, v), (1, .int .i64 0), (2, .int .i64 n), (3, .fn 50 []), (8, .int .i64 acc.length), (14, .bool false)], G, ?_, by simpa using h, rfl, fun _ _ => rfl⟩
    rw [L]; simp [fn84B1, hl]
  | cons x rest ih =>
    intro acc G hl ha hr hG hro h
    simp only [List.length_cons] at hl
    have hx := hr x (List.mem_cons_self ..)
    obtain ⟨j', G1, h1, h2, h3, h4⟩ := ins_loop (ro := ro) (i := .int .i64 acc.length) (n := n) acc rest x G ha hx (by omega) hG hro h
    obtain ⟨e', G', h5, h6, h7, h8⟩ := ih (insR cN x acc) G1 (by rw [insR_len]; omega) (fun r hr2 => by
      rcases List.mem_cons.1 (insR_perm.mem_iff.1 hr2) with rfl | h
      · exact hx
      · exact ha r h) (fun r h => hr r (List.mem_cons_of_mem _ h)) (by omega) hro h2
    rw [insR_len] at h5
    push_cast at h5
    refine ⟨e', G', ?_, by rw [List.foldl_cons]; exact h6, by omega, fun b hb => by rw [h8 b hb, h4 b hb]⟩
    have hlt : (acc.length : Int) < n := by omega
    have w1 : IntKind.i64.wrap ((acc.length : Int) + 1) = acc.length + 1 := by rw [IntKind.wrap_i64]; omega
    rw [L]
    simp [fn84B1, hlt, h1, w1, h5]

theorem insert_c {v : IV} {L : List Pr} (hn : L.length ≤ 900) (hok : ∀ r ∈ L, True) (hG : ro ≤ H.length) (hro : ∀ b ∈ blkS v, ro ≤ b) (h : Sq H v 2 (L.map prow)) :
    ∃ G', callW pg ro 84 [v, .int .i64 0, .int .i64 L.length, .fn 50 []] H = some (.tup [], G') ∧ Sq G' v 2 ((isort cN L).map prow) ∧ G'.length = H.length ∧ ∀ b, b ∉ blkS v → G'[b]? = H[b]? := by
  have wz : IntKind.i64.wrap 1 = 1 := by decide
  cases L with
  | nil =>
    refine ⟨H, ?_, by simpa [isort, isortR] using h, rfl, fun _ _ => rfl⟩
    have L1 : ∀ e, runW pg ro fn84L1 e H = seqO pg ro fn84L1 (runW pg ro fn84B1 (keepE [0, 1, 2, 3, 8] e) H) := fun e => runW_loopO
    rw [callW_eqO (fn := fn84) rfl rfl]
    simp [-getElem?_pos, fn84, L1, fn84B1, wz]
  | cons x L =>
    obtain ⟨e', G', h1, h2, h3, h4⟩ := outer_loop (ro := ro) (n := (x :: L).length) hn L [x] H (by simp; omega) (by simp) (fun r h => hok r (List.mem_cons_of_mem _ h)) hG hro (by simpa using h)
    refine ⟨G', ?_, h2, h3, h4⟩
    rw [callW_eqO (fn := fn84) rfl rfl]
    simp at h1
    simp [-getElem?_pos, fn84, wz, h1]

theorem stable_c {v : IV} {L : List Pr} (hn : L.length ≤ 20) (hok : ∀ r ∈ L, True) (hG : ro ≤ H.length) (hro : ∀ b ∈ blkS v, ro ≤ b) (h : Sq H v 2 (L.map prow)) :
    ∃ G', callW pg ro 49 [v, .fn 50 []] H = some (.tup [], G') ∧ Sq G' v 2 ((isort cN L).map prow) ∧ G'.length = H.length ∧ ∀ b, b ∉ blkS v → G'[b]? = H[b]? := by
  obtain ⟨G', h1, h2, h3, h4⟩ := insert_c (ro := ro) (by omega) hok hG hro h
  refine ⟨G', ?_, h2, h3, h4⟩
  have hlen := h.len
  rw [List.length_map] at hlen
  have L0 : ∀ e, runW pg ro fn72L0 e H = seqO pg ro fn72L0 (runW pg ro fn72B0 (keepE [0, 1, 2, 6, 7, 8] e) H) := fun e => runW_loopO
  have L2 : ∀ e, runW pg ro fn72L2 e G' = seqO pg ro fn72L2 (runW pg ro fn72B2 (keepE [0, 1, 2, 6] e) G') := fun e => runW_loopO
  have h72 : callW pg ro 72 [v, .int .i64 L.length, .fn 50 []] H = some (.tup [], G') := by
    by_cases c20 : L.length = 20
    · have L0' : ∀ e, runW pg ro fn72L0 e G' = seqO pg ro fn72L0 (runW pg ro fn72B0 (keepE [0, 1, 2, 6, 7, 8] e) G') := fun e => runW_loopO
      have L1 : ∀ e, runW pg ro fn84L1 e G' = seqO pg ro fn84L1 (runW pg ro fn84B1 (keepE [0, 1, 2, 3, 8] e) G') := fun e => runW_loopO
      have w21 : IntKind.i64.wrap 21 = 21 := by decide
      have w40 : IntKind.i64.wrap 40 = 40 := by decide
      have hn2 : callW pg ro 84 [v, .int .i64 20, .int .i64 20, .fn 50 []] G' = some (.tup [], G') := by
        rw [callW_eqO (fn := fn84) rfl rfl]
        simp [-getElem?_pos, fn84, L1, fn84B1, w21]
      rw [c20] at h1 ⊢
      simp at h1
      rw [callW_eqO (fn := fn72) rfl rfl]
      simp [-getElem?_pos, fn72, L0, L0', fn72B0, L2, fn72B2, h1, w40, hn2]
    · have c1 : ¬ (20 : Int) ≤ L.length := by omega
      have c2 : ¬ 20 ≤ L.length := by omega
      have c3 : ¬ (20 : Int) < L.length := by omega
      have c4 : ¬ 20 < L.length := by omega
      rw [callW_eqO (fn := fn72) rfl rfl]
      simp [-getElem?_pos, fn72, L0, fn72B0, L2, fn72B2, c1, c2, c3, c4, h1]
  rw [callW_eqO (fn := fn49) rfl rfl]
  simp [-getElem?_pos, fn49, hlen, h72]

/-- A copy of rows that were handed: append([]E{}, s...). -/
theorem SlA.clone {A : IV} {sz bytes : Nat} {rows : List (List IV)} (h : SlA A sz rows) (hm : rows.length * bytes ≤ room) :
    ∃ v' Y, appV ro (H ++ [{ rows := [] }]) sz bytes (.arr H.length 0 0 0 0 true) A = some (v', H ++ Y) ∧ Sq (H ++ Y) v' sz rows ∧ ∀ b ∈ blkS v', H.length ≤ b := by
  have hr : Vs.rowsOf (H ++ [{ rows := [] }]) A = some rows := h.rws _
  have hw := szOk_all h.sz
  by_cases h0 : rows = []
  · subst h0
    refine ⟨.arr H.length 0 0 0 0 true, [{ rows := [] }], ?_, .inr ⟨H.length, 0, [], [], 0, true, rfl, by simp, by simp, by simp⟩, by simp [blkS]⟩
    simp [-getElem?_pos, appV, hr, blkAt_eq]
  · refine ⟨.arr (H.length + 1) 0 0 rows.length rows.length false, [{ rows := [] }, { rows := rows }], ?_, .inr ⟨H.length + 1, 0, [], [], rows.length, false, by simp, by simp, by simp, by simpa using h.sz⟩, by simp [blkS]⟩
    simp [-getElem?_pos, appV, hr, blkAt_eq, hw, h0, newArr, hm]

theorem cloneR_c {A : IV} {L : List Pr} (h : SlA A 2 (L.map prow)) (hl : L.length ≤ 1000) : ∃ v' Y, callW pg ro 48 [A] H = some (v', H ++ Y) ∧ Sq (H ++ Y) v' 2 (L.map prow) ∧ ∀ b ∈ blkS v', H.length ≤ b := by
  rcases h.imm with ⟨rfl, hr⟩ | ⟨f, hA⟩
  · refine ⟨.nsl, [], ?_, by rw [hr]; exact Sq.nil, by simp [blkS]⟩
    rw [callW_eqO (fn := fn48) rfl rfl]
    simp [-getElem?_pos, fn48]
  · obtain ⟨v', Y, h1, h2, h3⟩ := SlA.clone (ro := ro) (H := H) (bytes := 32) h (by rw [List.length_map]; unfold room; omega)
    refine ⟨v', Y, ?_, h2, h3⟩
    subst hA
    rw [callW_eqO (fn := fn48) rfl rfl]
    simp [-getElem?_pos, fn48, h1]

end Go.Proofs.Ytinmpfflkcnkfaa
