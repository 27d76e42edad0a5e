import Derived.Test.YtdaajnaphkepmaaTring9
import Derived.Test.YtdaajnaphkepmaaTring4
import Derived.Test.YtdaajnaphkepmaaTring6
namespace Go.Proofs.Ytdaajnaphkepmaa
open Go Go.Vs
variable {ro : Nat} {H : Hp}

def negN (x : Num) : Num := if ovN x.1 x.2 then (true, 0) else (false, IntKind.i64.wrap (-x.2))
theorem negN_ok {x : Num} : NumOk (negN x).2 := by
  unfold negN NumOk; split
  · decide
  · rw [IntKind.wrap_i64]; dsimp only; omega
theorem neg_2 {x : Num} : doCall (callW pg) ro 2 (.fn 37 []) [.agg [.bool x.1, .int .i64 x.2]] H = some (.agg [.bool (negN x).1, .int .i64 (negN x).2], H) := by
  obtain ⟨o, n⟩ := x
  have h : ∃ H2, callW pg H.length 37 [.agg [.bool o, .int .i64 n]] H = some (.agg [.bool (negN (o, n)).1, .int .i64 (negN (o, n)).2], H2) := by
    rw [callW_eqO (fn := fn37) rfl rfl]
    unfold negN
    cases h : ovN o n
    · simp [fn37, over_2, h]
    · simp [fn37, over_2, h, ovf_2]
  obtain ⟨H2, h⟩ := h
  exact call2p h rfl rfl

def subN (a b : Num) : Num := sumL [a, negN b]
theorem sub_2 {a b : Num} (ha : NumOk a.2) : doCall (callW pg) ro 2 (.fn 20 []) [.agg [.bool a.1, .int .i64 a.2], .agg [.bool b.1, .int .i64 b.2]] H = some (nval (subN a b), H) := by
  have h : ∃ H2, callW pg H.length 20 [.agg [.bool a.1, .int .i64 a.2], .agg [.bool b.1, .int .i64 b.2]] H = some (nval (subN a b), H2) := by
    rw [callW_eqO (fn := fn20) rfl rfl]
    obtain ⟨so, sn, hs⟩ : ∃ so sn, subN a b = (so, sn) := ⟨_, _, rfl⟩
    have hneg := fun ro H => neg_2 (ro := ro) (H := H) (x := b)
    have hnk := negN_ok (x := b)
    obtain ⟨no, nn, hn⟩ : ∃ no nn, negN b = (no, nn) := ⟨_, _, rfl⟩
    rw [hn] at hneg hnk
    unfold subN at hs
    rw [hn] at hs
    have hsl : Sl (H ++ [{ rows := [[.bool a.1, .int .i64 a.2]] }, { rows := [[.bool b.1, .int .i64 b.2]] }, { rows := [[.bool false, .int .i64 0]] }, { rows := [[.bool a.1, .int .i64 a.2], [.bool no, .int .i64 nn]] }]) (.arr (H.length + 3) 0 0 2 2 false) 2 ([a, (no, nn)].map nrow) :=
      .inr ⟨H.length + 3, 0, [], [], by simp, by simp [nrow], by simp, by simp [nrow]⟩
    have hsum := fun ro => sum_g (ro := ro) (H := H ++ [{ rows := [[.bool a.1, .int .i64 a.2]] }, { rows := [[.bool b.1, .int .i64 b.2]] }, { rows := [[.bool false, .int .i64 0]] }, { rows := [[.bool a.1, .int .i64 a.2], [.bool no, .int .i64 nn]] }]) (A := .arr (H.length + 3) 0 0 2 2 true) (l := [a, (no, nn)]) (by
      have hA := hsl.frzA (by intro r hr x hx; simp [nrow] at hr; rcases hr with rfl | rfl <;> simp at hx <;> rcases hx with rfl | rfl <;> rfl)
      have e : frzArg (H ++ [{ rows := [[.bool a.1, .int .i64 a.2]] }, { rows := [[.bool b.1, .int .i64 b.2]] }, { rows := [[.bool false, .int .i64 0]] }, { rows := [[.bool a.1, .int .i64 a.2], [.bool no, .int .i64 nn]] }]) (.arr (H.length + 3) 0 0 2 2 true) = .imm [[.bool a.1, .int .i64 a.2], [.bool no, .int .i64 nn]] true := by
        unfold frzArg
        rw [show frzD = 12 from rfl, frz0_arr]
        simp [blkAt_eq]
        rfl
      rw [e]
      exact slA_imm (by simp [nrow])) (by simp) (by
      intro x hx; simp at hx
      rcases hx with rfl | rfl
      · exact ha
      · exact hnk)
    have hs' : subN a b = (so, sn) := by unfold subN; rw [hn]; exact hs
    rw [hs] at hsum
    rw [hs']
    simp only [nval] at hsum ⊢
    simp [-getElem?_pos, fn20, hneg, hsum]
  obtain ⟨H2, h⟩ := h
  exact call2p h rfl rfl

/-! a ring's slice -/
theorem RingAt.sl' {R : Nat} {v : IV} {r : Ring} (h : RingAt H R v r) : Sl H v 3 (r.l.map srow) := by
  rcases h.sl with ⟨rfl, hl⟩ | ⟨b, g, pre, rfl, hB, hp, hw⟩
  · rw [hl]; exact Sl.nil
  · exact .inr ⟨b, g, pre, [], by simp, by rw [hB]; simp, by simpa using hp, fun x hx => by
      rw [List.append_nil] at hx; exact all3 hw x hx⟩

def sumNN (S over : Int) : Num := if 0 < over ∨ S ≤ -9223372036854775808 ∨ 9223372036854775808 ≤ S then (true, 0) else (false, S)
theorem sumNN_eq {S over : Int} : sumNum S over = nval (sumNN S over) := by unfold sumNum sumNN nval; split <;> rfl
theorem sumNN_ok {S over : Int} : NumOk (sumNN S over).2 := by unfold sumNN NumOk; split <;> (dsimp only; omega)

theorem num_2 {R : Nat} {v : IV} {r : Ring} (h : RingAt H R v r) (ho : RingOk r) : doCall (callW pg) ro 2 (.fn 33 []) [.ptr R 0 0 3] H = some (nval (sumNN (sumS r.l) (cntO r.l)), H) := by
  obtain ⟨H2, hc⟩ := num_c (ro := H.length) (H := H) (R := R) (x := .int .i64 r.w) (y := .int .i64 r.now) (z := .int .i64 r.last) (S := sumS r.l) (over := cntO r.l) (rest := [v]) h.at_ (Nat.le_refl _) ho.sum.1 ho.sum.2
  rw [sumNN_eq] at hc
  exact call2 (args' := [.ptr R 0 0 3]) (by simp) hc (by rfl) (.inl (by rfl))

/-! the mean -/
def avgR (l : List (Int × Bool × Int)) : Num × Bool := if l.length = 0 then ((false, 0), false) else (divN (sumNN (sumS l) (cntO l)) (false, l.length * 1000000), true)

theorem avg_2 {R : Nat} {v : IV} {r : Ring} (h : RingAt H R v r) (ho : RingOk r) : doCall (callW pg) ro 2 (.fn 16 []) [.ptr R 0 0 0] H = some (.tup [nval (avgR r.l).1, .bool (avgR r.l).2], H) := by
  have hc : ∃ H2, callW pg H.length 16 [.ptr R 0 0 0] H = some (.tup [nval (avgR r.l).1, .bool (avgR r.l).2], H2) := by
    have hR := h.at_
    have hlt : R < H.length := (List.getElem?_eq_some_iff.1 hR).1
    have hlen := h.sl'.len
    rw [List.length_map] at hlen
    rw [callW_eqO (fn := fn16) rfl rfl]
    by_cases h0 : r.l.length = 0
    · simp [-getElem?_pos, fn16, hR, hlt, hlen, h0, avgR, nval, Ring.row, List.getElem?_append_left]
    · have h0' : ¬ (r.l.length : Int) = 0 := by omega
      have h0'' : ¬ r.l = [] := fun e => h0 (by rw [e]; rfl)
      have hl := ho.len
      have hnum := fun ro Y => num_2 (ro := ro) (h.app Y) ho
      have hof := fun ro H => of_2 (ro := ro) (H := H) (n := (r.l.length : Int)) (by omega) (by omega)
      have hdiv := fun ro H => div_2 (ro := ro) (H := H) (a := sumNN (sumS r.l) (cntO r.l)) (b := (false, (r.l.length : Int) * 1000000)) sumNN_ok (by unfold NumOk; dsimp only; omega)
      have e : avgR r.l = (divN (sumNN (sumS r.l) (cntO r.l)) (false, r.l.length * 1000000), true) := by unfold avgR; rw [if_neg h0]
      rw [e]
      obtain ⟨so, sn, hs⟩ : ∃ so sn, sumNN (sumS r.l) (cntO r.l) = (so, sn) := ⟨_, _, rfl⟩
      rw [hs] at hnum hdiv ⊢
      obtain ⟨d1, d2, hd⟩ : ∃ d1 d2, divN (so, sn) (false, (r.l.length : Int) * 1000000) = (d1, d2) := ⟨_, _, rfl⟩
      rw [hd] at hdiv ⊢
      simp only [nval] at hnum hdiv ⊢
      simp [-getElem?_pos, fn16, hR, hlt, hlen, h0', h0'', hnum, hof, hdiv, Ring.row, List.getElem?_append_left]
  obtain ⟨H2, hc⟩ := hc
  exact call2 (args' := [.ptr R 0 0 0]) (by simp) hc (by rfl) (.inl (by rfl))

/-! all of them -/
theorem blks_arr {k b g off len cap : Nat} {ex : Bool} : blks (k + 1) H (.arr b g off len cap ex) = b :: (match blkAt H b g with
      | some B => ((B.rows.drop off).take len).flatMap fun r => r.flatMap (blks k H)
      | none => []) := rfl

theorem all_2 {R : Nat} {v : IV} {r : Ring} (h : RingAt H R v r) (ho : RingOk r) : ∃ A, (∀ ro, doCall (callW pg) ro 2 (.fn 18 []) [.ptr R 0 0 0] H = some (A, H)) ∧ SlA A 3 (r.l.map srow) := by
  have hR := h.at_
  have hlt : R < H.length := (List.getElem?_eq_some_iff.1 hR).1
  have hpl : ∀ r' ∈ r.l.map srow, ∀ x ∈ r', plainD 10 x = true := by
    intro r' hr x hx
    obtain ⟨s, _, rfl⟩ := List.mem_map.1 hr
    simp [srow] at hx
    rcases hx with rfl | rfl | rfl <;> rfl
  have hw : ∀ r' ∈ r.l.map srow, r'.length = 3 := by
    intro r' hr
    obtain ⟨s, _, rfl⟩ := List.mem_map.1 hr
    rfl
  rcases h.sl with ⟨rfl, hl⟩ | ⟨b, g, pre, rfl, hB, hp, hpre⟩
  · refine ⟨.nsl, fun ro => ?_, by rw [hl]; exact slA_nil⟩
    have hcl : callW pg H.length 35 [.nsl] H = some (.nsl, H) := by
      rw [callW_eqO (fn := fn35) rfl rfl]
      simp [-getElem?_pos, fn35]
    have hc : callW pg H.length 18 [.ptr R 0 0 0] H = some (.nsl, H) := by
      rw [callW_eqO (fn := fn18) rfl rfl]
      simp [-getElem?_pos, fn18, hR, hlt, Ring.row, hcl]
    exact call2 (args' := [.ptr R 0 0 0]) (by simp) hc rfl (.inl rfl)
  · have hblt : b < H.length := (List.getElem?_eq_some_iff.1 hB).1
    have hsz : szOk 3 (pre ++ r.l.map srow) = true := szOk_all (all3 hpre)
    have hsz2 : szOk 3 (r.l.map srow) = true := szOk_all hw
    have hroom : r.l.length * 24 ≤ room := by have := ho.len; unfold room; omega
    have hdrop : List.drop pre.length (pre ++ r.l.map srow) = r.l.map srow := List.drop_left
    have htake : List.take r.l.length (r.l.map srow) = r.l.map srow := List.take_of_length_le (by simp)
    by_cases h0 : r.l.length = 0
    · have hl0 : r.l = [] := List.length_eq_zero_iff.1 h0
      refine ⟨.imm [] true, fun ro => ?_, by rw [hl0]; exact slA_imm (by simp)⟩
      have hcl : callW pg H.length 35 [.arr b g pre.length r.l.length r.l.length false] H = some (.arr H.length 0 0 0 0 true, H ++ [{ rows := [] }]) := by
        rw [callW_eqO (fn := fn35) rfl rfl]
        simp [-getElem?_pos, fn35, appV, hB, blkAt_eq, hblt, hsz, hsz2, h0, htake, List.getElem?_append_left]
      have hc : callW pg H.length 18 [.ptr R 0 0 0] H = some (.arr H.length 0 0 0 0 true, H ++ [{ rows := [] }]) := by
        rw [callW_eqO (fn := fn18) rfl rfl]
        simp [-getElem?_pos, fn18, hR, hlt, Ring.row, hcl]
      simp only [doCall, callP, List.append_nil, List.map_cons, List.map_nil, frzArg_ptr, hc, Option.bind_some]
      have hf : frz frzD (H ++ [{ rows := [] }]) H.length (.arr H.length 0 0 0 0 true) = some (.imm [] true) := by
        rw [show frzD = 12 from rfl]
        simp only [frz]
        rw [if_neg (by omega), if_pos (by simp [blks, blkAt_eq])]
        rw [frz0_arr]; simp [blkAt_eq]
      rw [hf]
      rfl
    · refine ⟨.imm (r.l.map srow) false, fun ro => ?_, slA_imm hw⟩
      have hcl : callW pg H.length 35 [.arr b g pre.length r.l.length r.l.length false] H = some (.arr (H.length + 1) 0 0 r.l.length r.l.length false, H ++ [{ rows := [] }, { rows := r.l.map srow }]) := by
        rw [callW_eqO (fn := fn35) rfl rfl]
        have h1 : ¬ r.l = [] := fun e => h0 (by rw [e]; rfl)
        simp [-getElem?_pos, fn35, appV, hB, blkAt_eq, hblt, hsz, hsz2, h0, h1, htake, hroom, newArr, List.getElem?_append_left]
      have hc : callW pg H.length 18 [.ptr R 0 0 0] H = some (.arr (H.length + 1) 0 0 r.l.length r.l.length false, H ++ [{ rows := [] }, { rows := r.l.map srow }]) := by
        rw [callW_eqO (fn := fn18) rfl rfl]
        simp [-getElem?_pos, fn18, hR, hlt, Ring.row, hcl]
      simp only [doCall, callP, List.append_nil, List.map_cons, List.map_nil, frzArg_ptr, hc, Option.bind_some]
      have hm : mapO (mapO (frz0 11 (H ++ [{ rows := [] }, { rows := r.l.map srow }]))) (r.l.map srow) = some (r.l.map srow) := mapO_id fun x hx => mapO_id fun y hy => frz0_plain 11 _ y (Sl.frz.plain_up (hpl x hx y hy))
      have hbl : ∀ x ∈ r.l.map srow, ∀ y ∈ x, blks 11 (H ++ [{ rows := [] }, { rows := r.l.map srow }]) y = [] := fun x hx y hy => blks_plain _ 10 _ y (hpl x hx y hy)
      have hf : frz frzD (H ++ [{ rows := [] }, { rows := r.l.map srow }]) H.length (.arr (H.length + 1) 0 0 r.l.length r.l.length false) = some (.imm (r.l.map srow) false) := by
        rw [show frzD = 12 from rfl]
        simp only [frz]
        have hb : (blks 12 (H ++ [{ rows := [] }, { rows := r.l.map srow }]) (.arr (H.length + 1) 0 0 r.l.length r.l.length false)).all (fun b => decide (H.length ≤ b)) = true := by
          rw [blks_arr, blkAt_eq]
          simp only [appn_at rfl, List.getElem?_cons_succ, List.getElem?_cons_zero, Option.bind_some, if_true, List.drop_zero]
          rw [htake, flatMap_nil (fun x hx => flatMap_nil fun y hy => hbl x hx y hy)]
          simp
        rw [if_neg (by omega), if_pos hb, frz0_arr]
        simp [blkAt_eq, htake, hm]
      rw [hf]
      rfl

end Go.Proofs.Ytdaajnaphkepmaa
