import Derived.Test.YtnfddeiegbifhaaDoorTie
import Derived.Test.YtnfddeiegbifhaaDoorCards
import Derived.Test.YtnfddeiegbifhaaDoorVsArg
import Derived.Test.YtnfddeiegbifhaaDoorTu9
import Derived.WalkKit
import Derived.ProofKit
import Derived.OpenShut
import Derived.ShutString
import Derived.ChangeOld
import Derived.Below
import Derived.SizedLaws
import Derived.Carry
import Derived.LaidMore
import Derived.Lay
import Derived.SevenTiedAt
import Derived.Stop.Joined
/- The law HistoryRefuses, whatever its arguments: it returns true and leaves all memory that was there as it was. -/
namespace Go.Proofs.YtnfddeiegbifhaaDoor.historyRefuses
open Go.ChangeShapes Go.WideShapes Go.ChangeAt Go.RowKit
open Go.ChangeMaps (open_string shut_string)
set_option linter.unusedVariables false
theorem own : ownKnob Tryd.prog.godebug = none := by kernel_rfl
theorem laidOut : laidOutB Tryd.prog = true := by kernel_rfl
def T0 : Vs.Ty := .int .u16
theorem ty0 : Vs.tyOf Tryd.prog 8 22 = some T0 := by kernel_rfl
def T1 : Vs.Ty := .int .i64
theorem ty1 : Vs.tyOf Tryd.prog 8 3 = some T1 := by kernel_rfl
def T2 : Vs.Ty := .sl (.pair .str .str)
theorem ty2 : Vs.tyOf Tryd.prog 8 23 = some T2 := by kernel_rfl
def laidL : List (String × DataW Unit) := [("unicode/utf8.acceptRanges", Rows.laid_unicode_utf8_acceptRanges), ("unicode/utf8.first", Rows.laid_unicode_utf8_first)]
set_option maxRecDepth 100000 in
theorem lifted (os : Os) (started : os.Started) (H : Type) (enc : TypeId × Value → H) :
    ReturnsInHanded {} Tryd.checked os 3 .any (fun w args => (Rows.historyRefusesSpec.pre enc Tryd.prog Tryd.f3 Rows.historyRefusesRow.domain false w args ∧ laidMetH Tryd.prog laidL w) ∧ sizedMet enc Tryd.prog Tryd.f3 (OpenSpec.ofChange Rows.historyRefusesSpec) false w args) (Rows.historyRefusesSpec.post enc Tryd.prog Tryd.f3 false true false false) := by
  refine returnsInHanded_of_change_and (C := Tryd.checked) (X := fun w _ => laidMetH Tryd.prog laidL w) (fun _ _ _ hh h => h.of_heap hh) own started (by kernel_rfl) Tryd.func3
    (ChangeSpec.witness_shaped (enc := enc) (C := Tryd.checked) (os := os) (X := fun w _ => laidMetH Tryd.prog laidL w) false (World.laidAll Tryd.prog os laidL) #[.int .u16 0, .int .i64 0, .slice none 0 0] 8 (World.laidAll_os _ _ _)
      (World.shaped_of_ZipB (by kernel_rfl) (by kernel_rfl)) (by kernel_rfl) (by kernel_rfl) (by kernel_rfl)
      (by rw [MakeChecks.laidMetH_plain _ _ _ (by kernel_rfl)]; exact laidMet_laidAll _ (by kernel_rfl) (by kernel_rfl))) ?_
  intro W base args ds gs before hval0 hW hc hZ hL _
  have hval : ∀ (j : Nat) t v, Tryd.f3.params[j]? = some t → args[j]? = some v → Value.okWide Tryd.prog W .any base t v := hval0
  have hW' := hW
  obtain ⟨p, q, hA0, hV, rfl, hfz, hnd⟩ := hW
  have hA : DataW.TrodAll enc Tryd.prog W 0 (fun _ => true) true Tryd.f3.params.toList args.toList ds p := hA0
  rw [Tryd.params3] at hA hval
  obtain ⟨v0, vs0, d0, ds0, p0, q0, hargs, rfl, rfl, h0, r0⟩ := trodAll_cons hA
  obtain ⟨v1, vs1, d1, ds1, p1, q1, rfl, rfl, rfl, h1, r1⟩ := trodAll_cons r0
  obtain ⟨v2, vs2, d2, ds2, p2, q2, rfl, rfl, rfl, h2, r2⟩ := trodAll_cons r1
  obtain ⟨rfl, rfl, rfl⟩ := trodAll_nil r2
  obtain rfl : args = #[v0, v1, v2] := by cases args; simp_all
  obtain ⟨rfl, rfl⟩ := trodVars_none hV
  obtain ⟨x0, ok0, okw0, vr0⟩ := Vs.arg_okw ty0 (hval 0 22 v0 rfl rfl) h0
  have okw0 := okw0 fun n hn => of_decide_eq_true (List.all_eq_true.1 hZ n (DataW.weights_mem_each (j := 0) (t := 22) (d := d0) (by rw [Tryd.params3]; rfl) rfl n hn))
  have lt0 : ∀ x ∈ p0, x.block < W.heap.size := by obtain ⟨m, hm⟩ := h0; exact DataW.trod_lt m _ _ _ hm
  obtain ⟨x1, ok1, okw1, vr1⟩ := Vs.arg_okw ty1 (hval 1 3 v1 rfl rfl) h1
  have okw1 := okw1 fun n hn => of_decide_eq_true (List.all_eq_true.1 hZ n (DataW.weights_mem_each (j := 1) (t := 3) (d := d1) (by rw [Tryd.params3]; rfl) rfl n hn))
  have lt1 : ∀ x ∈ p1, x.block < W.heap.size := by obtain ⟨m, hm⟩ := h1; exact DataW.trod_lt m _ _ _ hm
  obtain ⟨x2, ok2, okw2, vr2⟩ := Vs.arg_okw ty2 (hval 2 23 v2 rfl rfl) h2
  have okw2 := okw2 fun n hn => of_decide_eq_true (List.all_eq_true.1 hZ n (DataW.weights_mem_each (j := 2) (t := 23) (d := d2) (by rw [Tryd.params3]; rfl) rfl n hn))
  have lt2 : ∀ x ∈ p2, x.block < W.heap.size := by obtain ⟨m, hm⟩ := h2; exact DataW.trod_lt m _ _ _ hm
  clear hA0 hval0
  obtain ⟨H', hrun⟩ : ∃ H', Vs.callW pg 0 3 [T0.arg x0, T1.arg x1, T2.arg x2] [] = some (Vs.IV.bool true, H') := Ref.wf x0 x1 x2 ok0 ok1 ok2 okw0 okw1 okw2
  have hargs : Vs.ArgsOk (Vs.K0 W) [T0.arg x0, T1.arg x1, T2.arg x2] #[v0, v1, v2] := by
    refine ⟨rfl, fun i x y hx hy => ?_⟩
    match i, hx, hy with
    | 0, hx, hy => cases hx; cases hy; exact vr0
    | 1, hx, hy => cases hx; cases hy; exact vr1
    | 2, hx, hy => cases hx; cases hy; exact vr2
    | i + 3, hx, _ => simp at hx
  refine (Vs.law_calls (P := Tryd.prog) (by kernel_rfl) pgOk hrun hargs).mono fun e W' ⟨he, bel⟩ => ?_
  subst he
  exact ⟨_, rfl, _, _, _, [], _, [], hW', trodAll_mk1 (shut_bool Tryd.underlying4 _), (trodAll_cons_mk (Below.trod laidOut (by kernel_rfl) (of_decide_eq_true (by kernel_rfl)) h0 bel lt0) (trodAll_cons_mk (Below.trod laidOut (by kernel_rfl) (of_decide_eq_true (by kernel_rfl)) h1 bel lt1) (trodAll_cons_mk (Below.trod laidOut (by kernel_rfl) (of_decide_eq_true (by kernel_rfl)) h2 bel lt2) trodAll_mk0))), rfl, bel.frame _, fun h => by cases h⟩
theorem over : Rows.historyRefusesRow.holds Tryd.pinned (OpenSpec.ofChange Rows.historyRefusesSpec) :=
  OpenClaim.holds_of_wide 3 Tryd.f3 rfl rfl rfl rfl rfl rfl rfl ⟨rfl, rfl, rfl, rfl, rfl⟩ rfl rfl rfl rfl rfl (by kernel_rfl) Tryd.func3 (by kernel_rfl)
    (of_decide_eq_true (by kernel_rfl)) (by unfold Func.isWrapper; first | (rw [if_pos (by decide +kernel)]; kernel_rfl) | (rw [if_neg (by decide +kernel)]; exact ⟨rfl, rfl⟩))
    (fun os started H enc _ => lifted os started H enc)
theorem proved : Rows.HistoryRefusesSaid := over
theorem card : Rows.HistoryRefusesCardSaid :=
  Claim7.holds_tied_plain_at .later [] [.data, .pinned] true (true, "e8aff0da0b8246c2b77b3deca34439ddff06adf763d5c94f63922a30afa891ba") false proved (fun _ h => by cases h) (by kernel_rfl) (fun _ h => by cases h) historyRefuses_row_tie rfl ⟨rfl, rfl⟩ (by kernel_rfl) rfl
    (fun f fn hf hfn => by
      obtain rfl : f = 3 := Option.some.inj ((show Tryd.prog.funcNamed "spillway/spillwaylaw16.HistoryRefuses" = some 3 by kernel_rfl).symm.trans hf) |>.symm
      obtain rfl : fn = Tryd.f3 := (Option.some.inj (Tryd.func3.symm.trans hfn)).symm
      exact ⟨by kernel_rfl, fun j t ht => by
        rw [Tryd.params3] at ht
        have hm : t ∈ [22, 3, 23] := by simpa using Array.mem_of_getElem? ht
        have hall : ([22, 3, 23].all fun u => !Tryd.prog.wantsStandIn u) = true := by kernel_rfl
        exact (show Tryd.prog.wantsStandIn t = false by simpa using List.all_eq_true.1 hall t hm)⟩)
    (by kernel_rfl)
end Go.Proofs.YtnfddeiegbifhaaDoor.historyRefuses
namespace Go.Proofs.YtnfddeiegbifhaaDoor
/-- The card, under a short name, for the claim. -/
theorem historyRefuses_holds : Rows.HistoryRefusesCardSaid := historyRefuses.card
end Go.Proofs.YtnfddeiegbifhaaDoor
