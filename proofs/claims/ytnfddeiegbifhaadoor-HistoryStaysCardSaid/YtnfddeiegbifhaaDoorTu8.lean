import Derived.Test.YtnfddeiegbifhaaDoorTu7
/- The law 'HistoryRefuses'. -/
namespace Go.Proofs.YtnfddeiegbifhaaDoor
open Go Go.Vs
variable {ro : Nat} {H : Hp}

/-- A history of one set with one sample. -/
structure One (H : Hp) (n t V : Int) (l : List Pr) (k s : Nat) (v : IV) : Prop where
  h : H[0]? = some { rows := [[.int .i64 n, .arr k 0 0 1 1 false]] }
  row : H[k]? = some { rows := [[.arr s 0 0 1 1 false, v]] }
  smp : H[s]? = some { rows := [smp t V] }
  set : Sq H v 2 (l.map prow)
theorem One.app {n t V : Int} {l : List Pr} {k s : Nat} {v : IV} (h : One H n t V l k s v) (Y : Hp) : One (H ++ Y) n t V l k s v :=
  ⟨by rw [List.getElem?_append_left (List.getElem?_eq_some_iff.1 h.h).1]; exact h.h, by rw [List.getElem?_append_left (List.getElem?_eq_some_iff.1 h.row).1]; exact h.row, by rw [List.getElem?_append_left (List.getElem?_eq_some_iff.1 h.smp).1]; exact h.smp, h.set.app Y⟩

theorem add_yes {A : IV} {l : List Pr} (hA : SlA A 2 (l.map prow)) (hs : Short l) (hl : l.length ≤ 1000) {n t V : Int} (hn : 0 ≤ n ∧ n ≤ 1000000) (hV : V ≠ -9223372036854775808) (h : isB l = true) (ht : 0 ≤ t ∧ t ≤ n ∧ n - 100 < t) :
    ∃ H' k s v, callW pg 0 9 [.ptr 0 0 0 0, A, .agg (smp t V)] [{ rows := [[.int .i64 n, .nsl]] }] = some (.int .i64 0, H') ∧ One H' n t V l k s v := by
  have his := fun H => is_2 (ro := 0) (H := H) (A := A) (l := l) (by rw [SlA.self hA]; exact hA) hs (by omega)
  have wn : IntKind.i64.wrap (n - 100) = n - 100 := by rw [IntKind.wrap_i64]; omega
  have hf := find0_2 (ro := 0) (H := [{ rows := [[.int .i64 n, .nsl]] }, { rows := [smp t V] }]) (b := 0) (g := 0) rfl rfl rfl hA
  obtain ⟨v, Y, c1, c2, c3⟩ := cloneO_c (ro := 0) (H := [{ rows := [[.int .i64 n, .nsl]] }, { rows := [smp t V] }]) hA hl
  have L : ∀ e H, runW pg 0 fn9L0 e H = seqO pg 0 fn9L0 (runW pg 0 fn9B0 (keepE [0, 1, 5, 7, 8, 9, 50, 51, 52] e) H) := fun e H => runW_loopO
  obtain ⟨G, hG⟩ : ∃ G : Hp, G = [{ rows := [[.int .i64 n, .nsl]] }, { rows := [smp t V] }] ++ Y := ⟨_, rfl⟩
  rw [← hG] at c1 c2
  have g0 : G[0]? = some { rows := [[.int .i64 n, .nsl]] } := by rw [hG]; rfl
  have g1 : G[1]? = some { rows := [smp t V] } := by rw [hG]; rfl
  have gl : 2 ≤ G.length := by rw [hG]; simp
  have hcv : cellOk v = true := c2.sq.cok
  -- the row put in
  have hi : insV 0 (G ++ [{ rows := [[.nsl, v]] }]) 2 48 .nsl (.int .i64 0) (.arr G.length 0 0 1 1 true) = some (.arr (G.length + 1) 0 0 1 1 false, G ++ [{ rows := [[.nsl, v]] }, { rows := [[.nsl, v]] }]) := by
    have hr : rowsOf (G ++ [({ rows := [[.nsl, v]] } : Bk)]) (.arr G.length 0 0 1 1 true) = some [[.nsl, v]] := by simp [rowsOf, blkAt_eq]
    have ha := app_nsl (ro := 0) (H := G ++ [({ rows := [[.nsl, v]] } : Bk)]) (sz := 2) (bytes := 48) hr rfl (by simp) (by simp [room])
    simp [insV, hr, isSl, ha]
  have hi2 : callW pg 0 25 [.nsl, .int .i64 0, .arr G.length 0 0 1 1 true] (G ++ [{ rows := [[.nsl, v]] }]) = some (.arr (G.length + 1) 0 0 1 1 false, G ++ [{ rows := [[.nsl, v]] }, { rows := [[.nsl, v]] }]) := by
    rw [callW_eqO (fn := fn25) rfl rfl]
    simp [fn25, insW, hi]
  obtain ⟨K, hK⟩ : ∃ K : Hp, K = (G ++ [({ rows := [[.nsl, v]] } : Bk), { rows := [[.nsl, v]] }]).set 0 { rows := [[.int .i64 n, .arr (G.length + 1) 0 0 1 1 false]] } := ⟨_, rfl⟩
  have k0 : K[0]? = some { rows := [[.int .i64 n, .arr (G.length + 1) 0 0 1 1 false]] } := by rw [hK, List.getElem?_set_self (by simp)]
  have k1 : K[1]? = some { rows := [smp t V] } := by rw [hK, List.getElem?_set_ne (by decide), List.getElem?_append_left (by omega)]; exact g1
  have kr : K[G.length + 1]? = some { rows := [[.nsl, v]] } := by rw [hK, List.getElem?_set_ne (by omega), List.getElem?_append_right (by omega)]; simp
  have kl : K.length = G.length + 2 := by rw [hK]; simp
  have kv : Sq K v 2 (l.map prow) := by
    rw [hK]
    refine (c2.sq.app _).set fun h0 => ?_
    have := c3 0 h0
    simp at this
  -- the sample behind
  have ha : appV 0 (K ++ [{ rows := [smp t V] }]) 3 24 .nsl (.arr K.length 0 0 1 1 true) = some (.arr (K.length + 1) 0 0 1 1 false, K ++ [{ rows := [smp t V] }, { rows := [smp t V] }]) := by
    have hr : rowsOf (K ++ [({ rows := [smp t V] } : Bk)]) (.arr K.length 0 0 1 1 true) = some [smp t V] := by simp [rowsOf, blkAt_eq]
    have := app_nsl (ro := 0) (H := K ++ [({ rows := [smp t V] } : Bk)]) (sz := 3) (bytes := 24) hr rfl (by simp) (by simp [room])
    simpa using this
  obtain ⟨F, hF⟩ : ∃ F : Hp, F = (K ++ [({ rows := [smp t V] } : Bk), { rows := [smp t V] }]).set (G.length + 1) { rows := [[.arr (K.length + 1) 0 0 1 1 false, v]] } := ⟨_, rfl⟩
  refine ⟨F, G.length + 1, K.length + 1, v, ?_, ⟨?_, ?_, ?_, ?_⟩⟩
  rotate_left
  · rw [hF, List.getElem?_set_ne (by omega), List.getElem?_append_left (by omega)]; exact k0
  · rw [hF, List.getElem?_set_self (by simp; omega)]
  · rw [hF, List.getElem?_set_ne (by omega), List.getElem?_append_right (by omega)]; simp
  · rw [hF]
    refine (kv.app _).set fun h0 => ?_
    have := c2.sq.lt _ h0
    omega
  -- the run, part by part
  have e : fn9.cd = .seq (hd fn9.cd) (.seq (hd (tl fn9.cd)) (.seq (hd (tl (tl fn9.cd))) (.seq (hd (tl (tl (tl fn9.cd)))) (.seq (hd (tl (tl (tl (tl fn9.cd))))) (.seq (hd (tl (tl (tl (tl (tl fn9.cd)))))) (.seq (hd (tl (tl (tl (tl (tl (tl fn9.cd))))))) (.seq (hd (tl (tl (tl (tl (tl (tl (tl fn9.cd)))))))) (tl (tl (tl (tl (tl (tl (tl (tl fn9.cd))))))))))))))) := rfl
  have t1 : runW pg 0 (hd fn9.cd) (parE 0 [.ptr 0 0 0 0, A, .agg (smp t V)]) [{ rows := [[.int .i64 n, .nsl]] }] = some (.nrm, [(0, .ptr 0 0 0 0), (1, A), (5, .ptr 1 0 0 0)], [{ rows := [[.int .i64 n, .nsl]] }, { rows := [smp t V] }]) := by
    unfold smp
    simp [fn9, hd]
  have t2 : runW pg 0 (hd (tl fn9.cd)) [(0, .ptr 0 0 0 0), (1, A), (5, .ptr 1 0 0 0)] [{ rows := [[.int .i64 n, .nsl]] }, { rows := [smp t V] }] = some (.nrm, [(0, .ptr 0 0 0 0), (1, A), (5, .ptr 1 0 0 0), (18, .bool false)], [{ rows := [[.int .i64 n, .nsl]] }, { rows := [smp t V] }]) := by
    have d1 : ¬ t < 0 := by omega
    have d2 : ¬ n < t := by omega
    have d3 : ¬ t ≤ n - 100 := by omega
    unfold smp
    simp [-getElem?_pos, fn9, hd, tl, his, h, blkAt_eq, d1, d2, wn, d3]
  have t3 : runW pg 0 (hd (tl (tl fn9.cd))) [(0, .ptr 0 0 0 0), (1, A), (5, .ptr 1 0 0 0), (18, .bool false)] [{ rows := [[.int .i64 n, .nsl]] }, { rows := [smp t V] }] = some (.nrm, [(0, .ptr 0 0 0 0), (1, A), (5, .ptr 1 0 0 0), (7, .int .i64 0), (8, .bool false)], [{ rows := [[.int .i64 n, .nsl]] }, { rows := [smp t V] }]) := by
    simp [-getElem?_pos, fn9, hd, tl, hf]
  have t4 : runW pg 0 (hd (tl (tl (tl fn9.cd)))) [(0, .ptr 0 0 0 0), (1, A), (5, .ptr 1 0 0 0), (7, .int .i64 0), (8, .bool false)] [{ rows := [[.int .i64 n, .nsl]] }, { rows := [smp t V] }] = some (.nrm, [(0, .ptr 0 0 0 0), (1, A), (5, .ptr 1 0 0 0), (7, .int .i64 0), (8, .bool false), (9, .int .i64 0)], [{ rows := [[.int .i64 n, .nsl]] }, { rows := [smp t V] }]) := by
    simp [fn9, hd, tl]
  have t5 : ∃ X, runW pg 0 (hd (tl (tl (tl (tl fn9.cd))))) [(0, .ptr 0 0 0 0), (1, A), (5, .ptr 1 0 0 0), (7, .int .i64 0), (8, .bool false), (9, .int .i64 0)] [{ rows := [[.int .i64 n, .nsl]] }, { rows := [smp t V] }] = some (.nrm, X, [{ rows := [[.int .i64 n, .nsl]] }, { rows := [smp t V] }]) ∧ get X 0 = .ptr 0 0 0 0 ∧ get X 1 = A ∧ get X 5 = .ptr 1 0 0 0 ∧ get X 7 = .int .i64 0 ∧ get X 8 = .bool false ∧ get X 9 = .int .i64 0 := by
    refine ⟨[(0, .ptr 0 0 0 0), (1, A), (5, .ptr 1 0 0 0), (7, .int .i64 0), (8, .bool false), (9, .int .i64 0), (50, .nsl), (51, .int .i64 0), (52, .int .i64 0), (53, .bool false)], ?_, rfl, rfl, rfl, rfl, rfl, rfl⟩
    simp [-getElem?_pos, fn9, hd, tl, blkAt_eq, L, fn9B0]
  obtain ⟨X, t5, x0, x1, x5, x7, x8, x9⟩ := t5
  have t6 : runW pg 0 (hd (tl (tl (tl (tl (tl fn9.cd)))))) X [{ rows := [[.int .i64 n, .nsl]] }, { rows := [smp t V] }] = some (.nrm, [(0, .ptr 0 0 0 0), (1, A), (5, .ptr 1 0 0 0), (7, .int .i64 0), (8, .bool false), (102, .bool false)], [{ rows := [[.int .i64 n, .nsl]] }, { rows := [smp t V] }]) := by
    simp [-getElem?_pos, fn9, hd, tl, x0, x1, x5, x7, x8, x9]
  have t7 : runW pg 0 (hd (tl (tl (tl (tl (tl (tl fn9.cd))))))) [(0, .ptr 0 0 0 0), (1, A), (5, .ptr 1 0 0 0), (7, .int .i64 0), (8, .bool false), (102, .bool false)] [{ rows := [[.int .i64 n, .nsl]] }, { rows := [smp t V] }] = some (.nrm, [(0, .ptr 0 0 0 0), (5, .ptr 1 0 0 0), (7, .int .i64 0)], K) := by
    have hpos : 0 < G.length := by omega
    have hcs : cellsO v = some [v] := c2.sq.cells
    rw [hK]
    simp [-getElem?_pos, fn9, hd, tl, blkAt_eq, c1, g0, List.getElem?_append_left hpos, hcs, hcv, hi2, wbl]
  have t8 : ∃ X, runW pg 0 (hd (tl (tl (tl (tl (tl (tl (tl fn9.cd)))))))) [(0, .ptr 0 0 0 0), (5, .ptr 1 0 0 0), (7, .int .i64 0)] K = some (.nrm, X, K) ∧ get X 0 = .ptr 0 0 0 0 ∧ get X 5 = .ptr 1 0 0 0 ∧ get X 7 = .int .i64 0 := by
    unfold smp at k1
    refine ⟨[(0, .ptr 0 0 0 0), (5, .ptr 1 0 0 0), (7, .int .i64 0), (128, .bool false)], ?_, rfl, rfl, rfl⟩
    simp [-getElem?_pos, fn9, hd, tl, blkAt_eq, k1, hV]
  obtain ⟨X2, t8, y0, y5, y7⟩ := t8
  have t9 : finO [.t 6] (runW pg 0 (tl (tl (tl (tl (tl (tl (tl (tl fn9.cd)))))))) X2 K) = some (.int .i64 0, F) := by
    have hpos : 0 < K.length := by omega
    have hlt : G.length + 1 < K.length := by omega
    have k1' := k1
    unfold smp at ha k1'
    rw [hF]
    unfold smp
    simp [-getElem?_pos, fn9, tl, blkAt_eq, y0, y5, y7, k0, k1', kr, hpos, List.getElem?_append_left hpos, List.getElem?_append_left hlt, Vs.idx, ha, wbl]
  rw [callW_eqO (fn := fn9) rfl rfl, e]
  rw [runW_seqO, t1, seqO_nrm, runW_seqO, t2, seqO_nrm, runW_seqO, t3, seqO_nrm, runW_seqO, t4, seqO_nrm, runW_seqO, t5, seqO_nrm, runW_seqO, t6, seqO_nrm, runW_seqO, t7, seqO_nrm, runW_seqO, t8, seqO_nrm]
  exact t9
end Go.Proofs.YtnfddeiegbifhaaDoor
