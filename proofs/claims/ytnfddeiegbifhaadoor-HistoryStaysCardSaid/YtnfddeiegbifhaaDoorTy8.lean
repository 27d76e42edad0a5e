import Derived.Test.YtnfddeiegbifhaaDoorTy7
/- The second loop. -/
namespace Go.Proofs.YtnfddeiegbifhaaDoor
open Go Go.Vs
variable {ro : Nat} {H : Hp}

theorem ck_loop {F : Hp} {A W X v : IV} {k : Nat} {V : List Nm} (hA : SlA A 2 (V.map vrow)) (hl : V.length ≤ 60) {g : Int} (hg : 1 ≤ g ∧ g ≤ 120) (hF : His F (g * V.length) ab k X v (SS g V)) (h1 : F[1]? = some { rows := ab.map prow }) (hW : Sq F W 3 ((SS g V).map srow)) : ∀ (d i : Nat) (Y : Hp), i + d = V.length →
    ∃ e' F', runW pg 0 fn4L1 [(0, A), (5, .ptr 0 0 0 0), (6, Lab), (7, .int .i64 g), (9, W), (10, .int .i64 i)] (F ++ Y) = some (.exit 2, e', F') := by
  have L : ∀ e H, runW pg 0 fn4L1 e H = seqO pg 0 fn4L1 (runW pg 0 fn4B1 (keepE [0, 5, 6, 7, 9, 10] e) H) := fun e H => runW_loopO
  have hlen := hA.len
  rw [List.length_map] at hlen
  intro d
  induction d with
  | zero =>
    intro i Y hd
    have : i = V.length := by omega
    subst this
    refine ⟨[(0, A), (5, .ptr 0 0 0 0), (6, Lab), (7, .int .i64 g), (9, W), (10, .int .i64 V.length), (75, .bool false)], F ++ Y, ?_⟩
    rw [L]; simp [-getElem?_pos, fn4B1, hlen]
  | succ d ih =>
    intro i Y hd
    obtain ⟨x, hx⟩ : ∃ x, V[i]? = some x := ⟨_, List.getElem?_eq_getElem (by omega)⟩
    have hg0 : 0 < g := by omega
    have hgi : g * (i + 1) ≤ 120 * 60 := Int.mul_le_mul hg.2 (by omega) (by omega) (by omega)
    have hgi0 : 0 ≤ g * ((i : Int) + 1) := Int.mul_nonneg (by omega) (by omega)
    have w1 : IntKind.i64.wrap ((i : Int) + 1) = i + 1 := by rw [IntKind.wrap_i64]; omega
    have w2 : IntKind.i64.wrap (g * ((i : Int) + 1)) = g * (i + 1) := by rw [IntKind.wrap_i64]; omega
    have w3 : IntKind.i64.wrap (g * ((i : Int) + 1) - 1) = g * (i + 1) - 1 := by rw [IntKind.wrap_i64]; omega
    have w4 : IntKind.i64.wrap (g * ((i : Int) + 1) + 10) = g * (i + 1) + 10 := by rw [IntKind.wrap_i64]; omega
    have hne : SS g V ≠ [] := fun h => by
      have := SS_len (g := g) (V := V)
      rw [h] at this
      simp at this; omega
    have hI := SS_inc hg0 (V := V)
    have hSl : (SS g V).length ≤ 900 := by rw [SS_len]; omega
    have h1l := (List.getElem?_eq_some_iff.1 h1).1
    have hab : ∀ Y, SlA (frzArg (F ++ Y) Lab) 2 (ab.map prow) := fun Y => by
      have : Sq (F ++ Y) Lab 2 (ab.map prow) := .inr ⟨1, 0, [], [], 1, true, rfl, by decide, by rw [List.getElem?_append_left h1l]; exact h1, by simp [ab, prow]⟩
      exact this.frzA prow_plain
    obtain ⟨y, hy⟩ : ∃ y, (SS g V)[i]? = some y := ⟨_, List.getElem?_eq_getElem (by rw [SS_len]; omega)⟩
    have hyx : y = nrm ⟨g * (i + 1), x.1, x.2⟩ := by
      have := hy
      rw [SS_get, hx] at this
      exact (Option.some.inj this).symm
    obtain ⟨p1, p2⟩ := SS_at hg0 hy
    have hat : ∀ Y, doCall (callW pg) 0 2 (.fn 13 []) [.ptr 0 0 0 0, Lab, .int .i64 (g * (i + 1))] (F ++ Y) = some (.tup [.agg (srow y), .bool true], F ++ Y) := fun Y => by
      have := at_g (ro := 0) (hF.app Y) hne hI hSl (hab Y) (by decide) (m := g * (i + 1)) (by omega)
      rw [p1, p2] at this
      exact this
    have hla : ∀ Y, ∃ z, doCall (callW pg) 0 2 (.fn 13 []) [.ptr 0 0 0 0, Lab, .int .i64 (g * (i + 1) + 10)] (F ++ Y) = some (.tup [.agg (srow z), .bool (decide (g ≤ 10) && decide (i + 1 < V.length))], F ++ Y) := fun Y => by
      have := at_g (ro := 0) (hF.app Y) hne hI hSl (hab Y) (by decide) (m := g * (i + 1) + 10) (by omega)
      rw [SS_late hg0 (by omega)] at this
      exact ⟨_, this⟩
    obtain ⟨u1, u2⟩ := SS_btw hg0 (V := V) (i := i) (by omega)
    have hbt : ∀ Y, ∃ B Y', callW pg 0 12 [.ptr 0 0 0 0, Lab, .int .i64 (g * (i + 1) - 1), .int .i64 (g * (i + 1))] (F ++ Y) = some (B, F ++ Y ++ Y') ∧ lenV false B = some 1 := fun Y => by
      obtain ⟨B, Y', b1, b2⟩ := between_g (hF.app Y) hne hI hSl (hab Y) (by decide) (a := g * (i + 1) - 1) (b := g * (i + 1)) (by omega) (by omega)
      refine ⟨B, Y', b1, ?_⟩
      have := b2.len
      rw [this, u1, u2, List.length_take, List.length_drop, List.length_map, SS_len]
      congr 1; omega
    have hwn := want_nrm (g * (i + 1)) x
    rw [← hyx] at hwn
    have his := fun H => is_g (ro := 0) (H := H) (x := x)
    obtain ⟨wb, wg, wj, wR, q1, q2, q3⟩ := Sq_idxA hW (i := i) (row := srow y) (by simp [hy])
    have hi1 : (i : Int) < V.length := by omega
    have hidx := fun H => hA.idx H i (by simp; omega)
    obtain ⟨xo, xn⟩ := x
    obtain ⟨yt, yo, yn⟩ := y
    unfold vrow at his
    unfold srow at hat q3 hla
    -- the heap ahead of Between
    obtain ⟨B, Y', b1, b2⟩ := hbt (Y ++ [{ rows := [[.int .i64 yt, .bool yo, .int .i64 yn]] }, { rows := [[.bool yo, .int .i64 yn]] }])
    obtain ⟨z, l1⟩ := hla (Y ++ ({ rows := [[.int .i64 yt, .bool yo, .int .i64 yn]] } :: { rows := [[.bool yo, .int .i64 yn]] } :: Y'))
    obtain ⟨e', F', hr⟩ := ih (i + 1) (Y ++ ({ rows := [[.int .i64 yt, .bool yo, .int .i64 yn]] } :: { rows := [[.bool yo, .int .i64 yn]] } :: (Y' ++ [{ rows := [srow z] }]))) (by omega)
    push_cast at hr
    unfold srow at hr
    refine ⟨e', F', ?_⟩
    simp at b1 l1 hr
    rw [L]
    cases hb : isN (xo, xn)
    · rw [hb] at his hwn
      simp at hwn
      obtain ⟨rfl, rfl⟩ := hwn
      by_cases c1 : g ≤ 10
      · by_cases c2 : i + 1 < V.length
        · have c2' : (i : Int) + 1 < V.length := by omega
          simp [-getElem?_pos, fn4B1, hlen, hi1, w1, w2, w3, w4, hat, hidx, hx, vrow, his, blkAt_eq, wbl, q1, q2, q3, b1, b2, l1, hr, c1, c2, c2']
        · have c2' : ¬ (i : Int) + 1 < V.length := by omega
          simp [-getElem?_pos, fn4B1, hlen, hi1, w1, w2, w3, w4, hat, hidx, hx, vrow, his, blkAt_eq, wbl, q1, q2, q3, b1, b2, l1, hr, c1, c2, c2']
      · simp [-getElem?_pos, fn4B1, hlen, hi1, w1, w2, w3, w4, hat, hidx, hx, vrow, his, blkAt_eq, wbl, q1, q2, q3, b1, b2, l1, hr, c1]
    · rw [hb] at his hwn
      simp at hwn
      obtain ⟨rfl, rfl⟩ := hwn
      by_cases c1 : g ≤ 10
      · by_cases c2 : i + 1 < V.length
        · have c2' : (i : Int) + 1 < V.length := by omega
          simp [-getElem?_pos, fn4B1, hlen, hi1, w1, w2, w3, w4, hat, hidx, hx, vrow, his, blkAt_eq, wbl, q1, q2, q3, b1, b2, l1, hr, c1, c2, c2']
        · have c2' : ¬ (i : Int) + 1 < V.length := by omega
          simp [-getElem?_pos, fn4B1, hlen, hi1, w1, w2, w3, w4, hat, hidx, hx, vrow, his, blkAt_eq, wbl, q1, q2, q3, b1, b2, l1, hr, c1, c2, c2']
      · simp [-getElem?_pos, fn4B1, hlen, hi1, w1, w2, w3, w4, hat, hidx, hx, vrow, his, blkAt_eq, wbl, q1, q2, q3, b1, b2, l1, hr, c1]
end Go.Proofs.YtnfddeiegbifhaaDoor
