import Derived.Test.YtfgmncabjljhmaaTcnt9
namespace Go.Proofs.Ytfgmncabjljhmaa
open Go Go.Vs
variable {ro : Nat} {H : Hp}

def negN (x : Num) : Num := if ovN x.1 x.2 then (true, 0) else (false, IntKind.i64.wrap (-x.2))
theorem negN_ok {x : Num} : NumOk (negN x).2 := by
  unfold negN NumOk; split
  · decide
  · rw [IntKind.wrap_i64]; dsimp only; omega
theorem neg_2 {x : Num} : doCall (callW pg) ro 2 (.fn 51 []) [.agg [.bool x.1, .int .i64 x.2]] H = some (.agg [.bool (negN x).1, .int .i64 (negN x).2], H) := by
  obtain ⟨o, n⟩ := x
  have h : ∃ H2, callW pg H.length 51 [.agg [.bool o, .int .i64 n]] H = some (.agg [.bool (negN (o, n)).1, .int .i64 (negN (o, n)).2], H2) := by
    rw [callW_eqO (fn := fn51) rfl rfl]
    unfold negN
    cases h : ovN o n
    · simp [fn51, over_2, h]
    · simp [fn51, over_2, h, ovf_2]
  obtain ⟨H2, h⟩ := h
  exact call2p h rfl rfl

def subN (a b : Num) : Num := sumL [a, negN b]
theorem sub_2 {a b : Num} (ha : NumOk a.2) : doCall (callW pg) ro 2 (.fn 40 []) [.agg [.bool a.1, .int .i64 a.2], .agg [.bool b.1, .int .i64 b.2]] H = some (nval (subN a b), H) := by
  have h : ∃ H2, callW pg H.length 40 [.agg [.bool a.1, .int .i64 a.2], .agg [.bool b.1, .int .i64 b.2]] H = some (nval (subN a b), H2) := by
    rw [callW_eqO (fn := fn40) rfl rfl]
    obtain ⟨so, sn, hs⟩ : ∃ so sn, subN a b = (so, sn) := ⟨_, _, rfl⟩
    have hneg := fun ro H => neg_2 (ro := ro) (H := H) (x := b)
    have hnk := negN_ok (x := b)
    obtain ⟨no, nn, hn⟩ : ∃ no nn, negN b = (no, nn) := ⟨_, _, rfl⟩
    rw [hn] at hneg hnk
    unfold subN at hs
    rw [hn] at hs
    have hsl : Sl (H ++ [{ rows := [[.bool a.1, .int .i64 a.2]] }, { rows := [[.bool b.1, .int .i64 b.2]] }, { rows := [[.bool false, .int .i64 0]] }, { rows := [[.bool a.1, .int .i64 a.2], [.bool no, .int .i64 nn]] }]) (.arr (H.length + 3) 0 0 2 2 false) 2 ([a, (no, nn)].map nrow) :=
      .inr ⟨H.length + 3, 0, [], [], by simp, by simp [nrow], by simp, by simp [nrow]⟩
    have hsum := fun ro => sum_g (ro := ro) (H := H ++ [{ rows := [[.bool a.1, .int .i64 a.2]] }, { rows := [[.bool b.1, .int .i64 b.2]] }, { rows := [[.bool false, .int .i64 0]] }, { rows := [[.bool a.1, .int .i64 a.2], [.bool no, .int .i64 nn]] }]) (A := .arr (H.length + 3) 0 0 2 2 true) (l := [a, (no, nn)]) (by
      have hA := hsl.frzA (by intro r hr x hx; simp [nrow] at hr; rcases hr with rfl | rfl <;> simp at hx <;> rcases hx with rfl | rfl <;> rfl)
      have e : frzArg (H ++ [{ rows := [[.bool a.1, .int .i64 a.2]] }, { rows := [[.bool b.1, .int .i64 b.2]] }, { rows := [[.bool false, .int .i64 0]] }, { rows := [[.bool a.1, .int .i64 a.2], [.bool no, .int .i64 nn]] }]) (.arr (H.length + 3) 0 0 2 2 true) = .imm [[.bool a.1, .int .i64 a.2], [.bool no, .int .i64 nn]] true := by
        unfold frzArg
        rw [show frzD = 12 from rfl, frz0_arr]
        simp [blkAt_eq]
        rfl
      rw [e]
      exact slA_imm (by simp [nrow])) (by simp) (by
      intro x hx; simp at hx
      rcases hx with rfl | rfl
      · exact ha
      · exact hnk)
    have hs' : subN a b = (so, sn) := by unfold subN; rw [hn]; exact hs
    rw [hs] at hsum
    rw [hs']
    simp only [nval] at hsum ⊢
    simp [-getElem?_pos, fn40, hneg, hsum]
  obtain ⟨H2, h⟩ := h
  exact call2p h rfl rfl


end Go.Proofs.Ytfgmncabjljhmaa
