import Derived.Test.YtdeennacdlpheaaRows
import Derived.Test.YtdeennacdlpheaaVsArg
import Derived.Test.YtdeennacdlpheaaTv2
import Derived.WalkKit
import Derived.ProofKit
import Derived.OpenShut
import Derived.ShutString
import Derived.ChangeOld
import Derived.Below
import Derived.SizedLaws
import Derived.Carry
/- The law VectorMatch, whatever its arguments: it returns true and leaves all memory that was there as it was. -/
namespace Go.Proofs.Ytdeennacdlpheaa.vectorMatch
open Go.ChangeShapes Go.WideShapes Go.ChangeAt Go.RowKit
open Go.ChangeMaps (open_string shut_string)
set_option linter.unusedVariables false
theorem own : ownKnob Try.prog.godebug = none := by kernel_rfl
theorem laidOut : laidOutB Try.prog = true := by kernel_rfl
def T0 : Vs.Ty := .int .u8
theorem ty0 : Vs.tyOf Try.prog 8 5 = some T0 := by kernel_rfl
def T1 : Vs.Ty := .int .u8
theorem ty1 : Vs.tyOf Try.prog 8 5 = some T1 := by kernel_rfl
def T2 : Vs.Ty := .bool
theorem ty2 : Vs.tyOf Try.prog 8 4 = some T2 := by kernel_rfl
set_option maxRecDepth 100000 in
theorem lifted (os : Os) (started : os.Started) (H : Type) (enc : TypeId × Value → H) :
    ReturnsInHanded {} Try.checked os 3 .any (Rows.vectorMatchSpec.pre6 enc Try.prog Try.f3 Rows.vectorMatchRow.domain false) (Rows.vectorMatchSpec.post enc Try.prog Try.f3 false true false false) := by
  refine returnsInHanded_of_change_sized (C := Try.checked) own started (by kernel_rfl) Try.func3
    (ChangeSpec.witness6 (enc := enc) (C := Try.checked) false ⟨#[], #[.int .u8 0, .int .u8 0, .bool false], []⟩ 8 (by kernel_rfl) (by kernel_rfl) (by kernel_rfl) (by kernel_rfl)) ?_
  intro W base args ds gs before hval0 hW hcnd hsz0 _
  have hsz : (DataW.weightsEach Try.prog (Try.f3.params.toList ++ Rows.vectorMatchSpec.plain.varTypes Try.prog) (ds ++ gs)).all (· ≤ reachBytes) = true := hsz0
  have hval : ∀ (j : Nat) t v, Try.f3.params[j]? = some t → args[j]? = some v → Value.okWide Try.prog W .any base t v := hval0
  have hW' := hW
  obtain ⟨p, q, hA0, hV, rfl, hfz, hnd⟩ := hW
  have hA : DataW.TrodAll enc Try.prog W 0 (fun _ => true) true Try.f3.params.toList args.toList ds p := hA0
  rw [Try.params3] at hA hval hsz
  obtain ⟨v0, vs0, d0, ds0, p0, q0, hargs, rfl, rfl, h0, r0⟩ := trodAll_cons hA
  obtain ⟨v1, vs1, d1, ds1, p1, q1, rfl, rfl, rfl, h1, r1⟩ := trodAll_cons r0
  obtain ⟨v2, vs2, d2, ds2, p2, q2, rfl, rfl, rfl, h2, r2⟩ := trodAll_cons r1
  obtain ⟨rfl, rfl, rfl⟩ := trodAll_nil r2
  obtain rfl : args = #[v0, v1, v2] := by cases args; simp_all
  obtain ⟨rfl, rfl⟩ := trodVars_none hV
  obtain ⟨x0, ok0, vr0⟩ := Vs.arg_ok ty0 (hval 0 5 v0 rfl rfl) h0
  have lt0 : ∀ x ∈ p0, x.block < W.heap.size := by obtain ⟨m, hm⟩ := h0; exact DataW.trod_lt m _ _ _ hm
  obtain ⟨x1, ok1, vr1⟩ := Vs.arg_ok ty1 (hval 1 5 v1 rfl rfl) h1
  have lt1 : ∀ x ∈ p1, x.block < W.heap.size := by obtain ⟨m, hm⟩ := h1; exact DataW.trod_lt m _ _ _ hm
  obtain ⟨x2, ok2, vr2⟩ := Vs.arg_ok ty2 (hval 2 4 v2 rfl rfl) h2
  have lt2 : ∀ x ∈ p2, x.block < W.heap.size := by obtain ⟨m, hm⟩ := h2; exact DataW.trod_lt m _ _ _ hm
  clear hA0 hval0 hsz0 hsz
  obtain ⟨H', hrun⟩ : ∃ H', Vs.callW pg 0 3 [T0.arg x0, T1.arg x1, T2.arg x2] [] = some (Vs.IV.bool true, H') := Match.wf x0 x1 x2 ok0 ok1 ok2
  have hargs : Vs.ArgsOk (Vs.K0 W) [T0.arg x0, T1.arg x1, T2.arg x2] #[v0, v1, v2] := by
    refine ⟨rfl, fun i x y hx hy => ?_⟩
    match i, hx, hy with
    | 0, hx, hy => cases hx; cases hy; exact vr0
    | 1, hx, hy => cases hx; cases hy; exact vr1
    | 2, hx, hy => cases hx; cases hy; exact vr2
    | i + 3, hx, _ => simp at hx
  refine (Vs.law_calls (P := Try.prog) (by kernel_rfl) pgOk hrun hargs).mono fun e W' ⟨he, bel⟩ => ?_
  subst he
  exact ⟨_, rfl, _, _, _, [], _, [], hW', trodAll_mk1 (shut_bool Try.underlying4 _), (trodAll_cons_mk (Below.trod laidOut (by kernel_rfl) (of_decide_eq_true (by kernel_rfl)) h0 bel lt0) (trodAll_cons_mk (Below.trod laidOut (by kernel_rfl) (of_decide_eq_true (by kernel_rfl)) h1 bel lt1) (trodAll_cons_mk (Below.trod laidOut (by kernel_rfl) (of_decide_eq_true (by kernel_rfl)) h2 bel lt2) trodAll_mk0))), rfl, bel.frame _, fun h => by cases h⟩
theorem over : Rows.vectorMatchRow.holds Try.pinned (OpenSpec.ofChange Rows.vectorMatchSpec) :=
  OpenClaim.holds_of_wide 3 Try.f3 rfl rfl rfl rfl rfl rfl rfl ⟨rfl, rfl, rfl, rfl, rfl⟩ rfl rfl rfl rfl rfl (by kernel_rfl) Try.func3 (by kernel_rfl)
    (of_decide_eq_true (by kernel_rfl)) (by unfold Func.isWrapper; first | (rw [if_pos (by decide +kernel)]; kernel_rfl) | (rw [if_neg (by decide +kernel)]; exact ⟨rfl, rfl⟩))
    (fun os started H enc _ => lifted os started H enc)
theorem proved : Rows.VectorMatchSaid := over
end Go.Proofs.Ytdeennacdlpheaa.vectorMatch
namespace Go.Proofs.Ytdeennacdlpheaa
/-- The row, under a short name, for the claim. -/
theorem vectorMatch_holds : Rows.VectorMatchSaid := vectorMatch.proved
end Go.Proofs.Ytdeennacdlpheaa
