/- Rows of a vector: sorted. -/
import Derived.Test.YtgpooiahnpemjaaTqr1
namespace Go.Proofs.Ytgpooiahnpemjaa
open Go Go.Vs
variable {ro : Nat} {H : Hp}

/-- A row: its labels as they lie there, what they are, its value. -/
structure Rw where
  lv : IV
  ps : List Pr
  ov : Bool
  n : Int
def rrow (r : Rw) : List IV := [r.lv, .bool r.ov, .int .i64 r.n]
def Rw.ok (r : Rw) : Prop := SlA r.lv 2 (r.ps.map prow) ∧ r.ps.length ≤ 9223372036854775807
def cR (x y : Rw) : Int := cmpS x.ps y.ps
theorem cR_anti (x y : Rw) : cR x y = - cR y x := cmpS_3.anti _ _
theorem cR_trans (x y z : Rw) : cR x y ≤ 0 → cR y z ≤ 0 → cR x z ≤ 0 := cmpS_3.trans _ _ _
theorem Rw.ok.plain {r : Rw} (h : r.ok) {k : Nat} : plainD (k + 1) r.lv = true := by
  rcases h.1.imm with ⟨h, _⟩ | ⟨f, h⟩ <;> rw [h] <;> rfl
theorem Rw.ok.cell {r : Rw} (h : r.ok) : cellOk r.lv = true := by
  rcases h.1.imm with ⟨h, _⟩ | ⟨f, h⟩ <;> rw [h] <;> rfl
theorem Rw.ok.agg {r : Rw} (h : r.ok) : plainD frzD (.agg (rrow r)) = true := by
  show (rrow r).all (plainD 11) = true
  simp only [rrow, List.all_cons, List.all_nil, Bool.and_true, h.plain, Bool.true_and]
  rfl
theorem rrow_plain {L : List Rw} (h : ∀ r ∈ L, r.ok) : ∀ row ∈ L.map rrow, ∀ x ∈ row, plainD 10 x = true := by
  intro row hr x hx
  obtain ⟨r, hm, rfl⟩ := List.mem_map.1 hr
  simp [rrow] at hx
  rcases hx with rfl | rfl | rfl
  · exact (h r hm).plain
  · rfl
  · rfl

theorem rcmp_2 {x y : Rw} (hx : x.ok) (hy : y.ok) : doCall (callW pg) ro 2 (.fn 56 []) [.agg (rrow x), .agg (rrow y)] H = some (.int .i64 (cR x y), H) := by
  have h : ∃ H', callW pg H.length 56 [.agg (rrow x), .agg (rrow y)] H = some (.int .i64 (cR x y), H') := by
    have hc := fun ro H => cmp_2 (ro := ro) (H := H) (A := x.lv) (B := y.lv) (l := x.ps) (m := y.ps) (by rw [SlA.self hx.1]; exact hx.1) (by rw [SlA.self hy.1]; exact hy.1) hx.2
    refine ⟨H ++ [{ rows := [rrow x] }, { rows := [rrow y] }], ?_⟩
    rw [callW_eqO (fn := fn56) rfl rfl]
    unfold rrow
    simp [-getElem?_pos, fn56, hc, cR, hx.cell, hy.cell]
  obtain ⟨H', h⟩ := h
  refine call2p h ?_ rfl
  simp only [List.all_cons, List.all_nil, Bool.and_true, hx.agg, hy.agg]

/-! insertion sort -/
theorem pick_j {ps S : List Rw} {p x : Rw} : ((p :: ps).reverse ++ x :: S)[ps.length + 1]? = some x := by
  rw [List.getElem?_append_right (by simp)]; simp
theorem pick_i {ps S : List Rw} {p x : Rw} : ((p :: ps).reverse ++ x :: S)[ps.length]? = some p := by
  rw [List.getElem?_append_left (by simp), List.reverse_cons, List.getElem?_append_right (by simp)]; simp
theorem swap_eq {ps S : List Rw} {p x : Rw} : (((p :: ps).reverse ++ x :: S).set (ps.length + 1) p).set ps.length x = ps.reverse ++ x :: (p :: S) := by
  rw [List.set_append_right _ _ (by simp)]
  simp only [List.reverse_cons, List.length_append, List.length_reverse, List.length_singleton, Nat.sub_self, List.set_cons_zero, List.append_assoc]
  rw [List.set_append_right _ _ (by simp)]
  simp

theorem ins_loop {v i : IV} {n : Nat} : ∀ (ps S : List Rw) (x : Rw) (G : Hp), (∀ r ∈ ps, r.ok) → x.ok → (ps.length : Int) < 1000 → ro ≤ G.length → (∀ b ∈ blkS v, ro ≤ b) → Sq G v 3 ((ps.reverse ++ x :: S).map rrow) →
    ∃ (j' : Nat) (G' : Hp), runW pg ro fn77L0 [(0, v), (1, .int .i64 0), (2, .int .i64 n), (3, .fn 56 []), (8, i), (9, .int .i64 ps.length)] G =
        some (.exit 2, [(0, v), (1, .int .i64 0), (2, .int .i64 n), (3, .fn 56 []), (8, i), (9, .int .i64 j'), (34, .bool false)], G') ∧
      Sq G' v 3 (((insR cR x ps).reverse ++ S).map rrow) ∧ G'.length = G.length ∧ ∀ b, b ∉ blkS v → G'[b]? = G[b]? := by
  have L : ∀ e H, runW pg ro fn77L0 e H = seqO pg ro fn77L0 (runW pg ro fn77B0 (keepE [0, 1, 2, 3, 8, 9] e) H) := fun e H => runW_loopO
  intro ps
  induction ps with
  | nil =>
    intro S x G _ _ _ _ _ h
    refine ⟨0, G, ?_, by simpa [insR] using h, rfl, fun _ _ => rfl⟩
    rw [L]; simp [fn77B0]
  | cons p ps ih =>
    intro S x G hok hx hlen hG hro h
    have hp : p.ok := hok p (List.mem_cons_self ..)
    simp only [List.length_cons] at hlen
    push_cast at hlen
    have e0 : (0 : Int) < (ps.length : Int) + 1 := by omega
    have w1 : IntKind.i64.wrap ((ps.length : Int) + 1 - 1) = ps.length := by rw [IntKind.wrap_i64]; omega
    have w2 : IntKind.i64.wrap (ps.length : Int) = ps.length := by rw [IntKind.wrap_i64]; omega
    obtain ⟨b1, B1, j1, hb1, hidx1, hB1, hf1, hrow1, hput1⟩ := h.idxw (i := ps.length + 1) (row := rrow x) (by rw [List.getElem?_map, pick_j]; rfl)
    obtain ⟨b2, B2, j2, hb2, hidx2, hB2, hf2, hrow2, _⟩ := h.idxw (i := ps.length) (row := rrow p) (by rw [List.getElem?_map, pick_i]; rfl)
    have hc := fun ro H => rcmp_2 (ro := ro) (H := H) hx hp
    push_cast at hidx1
    by_cases hlt : cR x p < 0
    · have h2 := hput1 (rrow p) rfl
      obtain ⟨b3, B3, j3, hb3, hidx3, hB3, hf3, hrow3, hput3⟩ := h2.idxw (i := ps.length) (row := rrow p) (by
        rw [List.getElem?_set_ne (by omega), List.getElem?_map, pick_i]; rfl)
      have h3 := hput3 (rrow x) rfl
      have e : (((((p :: ps).reverse ++ x :: S).map rrow).set (ps.length + 1) (rrow p)).set ps.length (rrow x)) = (ps.reverse ++ x :: (p :: S)).map rrow := by
        rw [← List.map_set, ← List.map_set, swap_eq]
      rw [e] at h3
      obtain ⟨j', G', hr, q1, q2, q3⟩ := ih (p :: S) x _ (fun r hr => hok r (List.mem_cons_of_mem _ hr)) hx (by omega) (by simpa using hG) hro h3
      refine ⟨j', G', ?_, ?_, by rw [q2]; simp, fun b hb => ?_⟩
      · have hr1 := hro b1 hb1
        have hr3 := hro b3 hb3
        have hlt1 : b1 < G.length := (List.getElem?_eq_some_iff.1 hB1).1
        have hj1 := (List.getElem?_eq_some_iff.1 hrow1).1
        have hj3 := (List.getElem?_eq_some_iff.1 hrow3).1
        have hlt3 : b3 < G.length := by have := (List.getElem?_eq_some_iff.1 hB3).1; simpa using this
        unfold rrow at hrow1 hrow2 hrow3 hidx3 hB3 hc hr
        rw [L]
        simp [-getElem?_pos, fn77B0, e0, hidx1, hidx2, hB1, hB2, hf1, hf2, hrow1, hrow2, w1, w2, hc, hlt, hr1, over, hx.cell, hp.cell, hidx3, hB3, hf3, hrow3, hr3, hr]
      · rw [insR, if_pos hlt, List.reverse_cons, List.append_assoc]; exact q1
      · rw [q3 b hb, List.getElem?_set_ne (fun e => hb (by rw [← e]; exact hb3)), List.getElem?_set_ne (fun e => hb (by rw [← e]; exact hb1))]
    · refine ⟨ps.length + 1, G, ?_, ?_, rfl, fun _ _ => rfl⟩
      · unfold rrow at hrow1 hrow2 hc
        rw [L]
        simp [-getElem?_pos, fn77B0, e0, hidx1, hidx2, hB1, hB2, hf1, hf2, hrow1, hrow2, w1, w2, hc, hlt, hx.cell, hp.cell]
      · rw [insR, if_neg hlt, List.reverse_cons, List.append_assoc]; exact h
end Go.Proofs.Ytgpooiahnpemjaa
