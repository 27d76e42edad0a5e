/- Each operation as a step of the walk; regions in the text's order. -/
import Derived.Test.YtinmpfflkcnkfaaVsPure
namespace Go.Vs
open Go Go.RowKit

variable {P : Program}

/-- An operation is walked. -/
def Runs (P : Program) (o : Oper) (a : Act) (w : World) (R : Value → World → Prop) : Prop :=
  ∀ (next : Act → World → Prop) (Q : Exit → Act → World → Prop), (∀ v w', R v w' → next (a.put o.dst v) w') → o.wp P a w next Q

theorem Runs.mono {o : Oper} {a : Act} {w : World} {R R' : Value → World → Prop} (h : Runs P o a w R) (hr : ∀ v w', R v w' → R' v w') : Runs P o a w R' :=
  fun next Q hn => h next Q fun v w' hv => hn v w' (hr v w' hv)

theorem Runs.value {o : Oper} {a : Act} {w w' : World} {v : Value} {R : Value → World → Prop} (h : (execOp a.eval o).run P w = .ok (.value v) w') (hr : R v w') : Runs P o a w R :=
  fun next Q hn => by simp only [Oper.wp, h, Oper.upon]; exact hn _ _ hr

theorem Runs.skip {o : Oper} {a : Act} {w w' : World} {R : Value → World → Prop} (h : (execOp a.eval o).run P w = .ok .skip w') (hr : R undef w') : Runs P o a w R :=
  fun next Q hn => by simp only [Oper.wp, h, Oper.upon]; exact hn _ _ hr

theorem Runs.enter {o : Oper} {a : Act} {w w' : World} {f : Nat} {vs : Array Value} {R : Value → World → Prop} (h : (execOp a.eval o).run P w = .ok (.enter f vs) w') (hr : Calls P f vs w' fun e w'' => ∃ v, e = .returned v ∧ R v w'') : Runs P o a w R :=
  fun next Q hn => by
    simp only [Oper.wp, h, Oper.upon]
    refine Calls.mono hr fun e w'' he => ?_
    obtain ⟨v, rfl, hv⟩ := he
    exact hn _ _ hv

/-- What an operation does, told of the walk. -/
def DidR (P : Program) (a : Act) (o : Oper) (w : World) (K : Kp) (ro : Nat) (H H' : Hp) (x : IV) : Cls → Prop
  | .p | .l | .q => H' = H ∧ Runs P o a w fun v w' => ∃ K', Quiet K K' w w' ∧ VR K' x v
  | .a => ∃ rows, H' = H ++ [({ rows := rows } : Bk)] ∧ Makes P a o w K H.length x rows
  | .n => (H' = H ∧ Runs P o a w fun v w' => ∃ K', Quiet K K' w w' ∧ VR K' x v) ∨ ∃ rows, H' = H ++ [({ rows := rows } : Bk)] ∧ Draws P a o w K H.length x rows
  | .w => H.length ≤ H'.length ∧ Runs P o a w fun v w' => Step K ro H w H' w' x v

theorem step_len {K : Kp} {ro : Nat} {H H' : Hp} {w w' : World} {x : IV} {v : Value} (h : Step K ro H w H' w' x v) : H.length ≤ H'.length := by
  obtain ⟨_, _, _, _, hF⟩ := h; exact hF.len

theorem op_runs (hpr : PrOk P) {cf : CallF} (hcf : CallOk P cf) {ro : Nat} {H H' : Hp} {im : Bool} {m : Nat} {ins : Ins} {x : IV} {K : Kp} {e : Env} {a : Act} {o : Oper} {w : World} (hi : (isCallI ins && !isCall o.op) = false)
    (hc : cOp P im m o.op = some ins) (he : EnvOk K e a) (hR : Rel K ro H w) (hd : doIns cf ro e H ins = some (x, H')) : DidR P a o w K ro H H' x (cls ins) := by
  cases hn : isCallI ins with
  | false =>
    have hdid := op_sim hpr (a := a) (w := w) hc hn he hR hd
    cases hcl : cls ins with
    | p =>
      rw [hcl] at hdid
      cases hdid with
      | val _ _ h g => subst h; obtain ⟨v, hr, hv⟩ := g; exact ⟨rfl, Runs.value hr ⟨K, Quiet.refl hR, hv⟩⟩
      | qt v w' K' h hr q hv => subst h; exact ⟨rfl, Runs.value hr ⟨K', q, hv⟩⟩
    | l =>
      rw [hcl] at hdid
      cases hdid with
      | val _ _ h g => subst h; obtain ⟨v, hr, hv⟩ := g; exact ⟨rfl, Runs.value hr ⟨K, Quiet.refl hR, hv⟩⟩
    | q =>
      rw [hcl] at hdid
      cases hdid with
      | val _ _ h g => subst h; obtain ⟨v, hr, hv⟩ := g; exact ⟨rfl, Runs.value hr ⟨K, Quiet.refl hR, hv⟩⟩
    | a =>
      rw [hcl] at hdid
      cases hdid with
      | val _ hc => rcases hc with hc | hc | hc <;> cases hc
      | mk rows h g => exact ⟨rows, h, g⟩
    | n =>
      rw [hcl] at hdid
      cases hdid with
      | val _ hc => rcases hc with hc | hc | hc <;> cases hc
      | none h g => subst h; obtain ⟨v, hr, hv⟩ := g; exact .inl ⟨rfl, Runs.value hr ⟨K, Quiet.refl hR, hv⟩⟩
      | app rows h g => exact .inr ⟨rows, h, g⟩
    | w =>
      rw [hcl] at hdid
      cases hdid with
      | val _ hc => rcases hc with hc | hc | hc <;> cases hc
      | wr v w' h s =>
        refine ⟨step_len s, ?_⟩
        rcases h with h | ⟨h, rfl⟩
        · exact Runs.value h s
        · exact Runs.skip h s
  | true =>
    cases ins <;> simp only [isCallI, reduceCtorEq] at hn
    rename_i m' fo as
    have hic : isCall o.op = true := by simpa [isCallI] using hi
    simp only [doIns, doCall] at hd
    split at hd
    · rename_i f caps hf
      have enter : ∀ {R : Value → World → Prop}, hasBody P f = true → (∀ vs, ArgsOk K (as.map (ev e) ++ caps) vs → Calls P f vs w fun e w'' => ∃ v, e = .returned v ∧ R v w'') → Runs P o a w R := by
        intro R hb h
        obtain ⟨vs, hrun, hargs⟩ := call_enter hic hc he hf hb
        exact Runs.enter (hrun w) (h vs hargs)
      split at hd
      · obtain ⟨h1, h2, h3⟩ := hcf _ _ _ _ _ _ hd
        exact ⟨h1, enter h2 fun vs hvs => h3 K w vs hR hvs⟩
      · obtain ⟨h1, h2, _, h3⟩ := callP_sim hcf hd
        exact ⟨h1, enter h2 fun vs hvs => Calls.mono (h3 K w vs hR hvs) fun e w' he => by obtain ⟨v, rfl, h, _⟩ := he; exact ⟨v, rfl, h⟩⟩
      · obtain ⟨h1, h2, h4, h3⟩ := callP_sim hcf hd
        by_cases hm : m' = 2
        · simp only [cls, hm, if_true]
          exact ⟨h4 rfl, enter h2 fun vs hvs => Calls.mono (h3 K w vs hR hvs) fun e w' he => by obtain ⟨v, rfl, _, h⟩ := he; exact ⟨v, rfl, h rfl⟩⟩
        · simp only [cls, hm, if_false]
          exact ⟨h1, enter h2 fun vs hvs => Calls.mono (h3 K w vs hR hvs) fun e w' he => by obtain ⟨v, rfl, h, _⟩ := he; exact ⟨v, rfl, h⟩⟩
    · cases hd

theorem DidR.step {a : Act} {o : Oper} {w : World} {K : Kp} {ro : Nat} {H H' : Hp} {x : IV} {c : Cls} (hR : Rel K ro H w) (h : DidR P a o w K ro H H' x c) : Runs P o a w fun v w' => Step K ro H w H' w' x v := by
  cases c with
  | p => obtain ⟨rfl, h⟩ := h; exact h.mono fun v w' ⟨K', hq, hv⟩ => ⟨K', hq.le, hq.rel hR, hv, hq.fr _ _⟩
  | l => obtain ⟨rfl, h⟩ := h; exact h.mono fun v w' ⟨K', hq, hv⟩ => ⟨K', hq.le, hq.rel hR, hv, hq.fr _ _⟩
  | q => obtain ⟨rfl, h⟩ := h; exact h.mono fun v w' ⟨K', hq, hv⟩ => ⟨K', hq.le, hq.rel hR, hv, hq.fr _ _⟩
  | a =>
    obtain ⟨rows, rfl, v, arr, elem, sz, hrun, h1, h2, h3, h4, h5⟩ := h
    obtain ⟨q1, q2, q3⟩ := hR.new (elem := elem) h1 h2 h3 h4
    exact Runs.value hrun ⟨_, q1, q2, h5 _ (by simp [Kp.set]), q3⟩
  | n =>
    rcases h with ⟨rfl, h⟩ | ⟨rows, rfl, v, arr, elem, sz, hrun, h1, h2, h3, h4, h5⟩
    · exact h.mono fun v w' ⟨K', hq, hv⟩ => ⟨K', hq.le, hq.rel hR, hv, hq.fr _ _⟩
    · obtain ⟨q1, q2, q3⟩ := hR.drew.new (elem := elem) h1 h2 h3 h4
      exact Runs.value hrun ⟨_, q1, q2, h5 _ (by simp [Kp.set]), (Fr.drew K ro H.length w).trans q3⟩
  | w => exact h.2

/-! ### The compiled operations -/

theorem cOps_cons {nt : Nat} {all : Array Oper} {imf : Nat → Bool} {i : Nat} {o : Oper} {r : List Oper} {an an' : Ann} {rs : List Rop} (h : cOps P nt all imf i (o :: r) an = some (rs, an')) :
    ∃ g ins m rs' an2, rs = ⟨o.dst, g, ins⟩ :: rs' ∧ (∀ d, o.dst = some d → d < nt) ∧ cOp P (imf i) m o.op = some ins ∧ (isCallI ins && !isCall o.op) = false ∧ cGrd all o.guard = some g ∧ cOps P nt all imf (i + 1) r an2 = some (rs', an') := by
  simp only [cOps] at h
  split at h
  · cases h
  · rename_i hd
    simp only [Option.bind_eq_some_iff] at h
    obtain ⟨⟨m, an2⟩, _, ins, hins, h⟩ := h
    split at h
    · cases h
    · rename_i hcall
      simp only [Option.bind_eq_some_iff, Option.some.injEq, Prod.mk.injEq] at h
      obtain ⟨g, hg, ⟨rs', an3⟩, hrest, rfl, rfl⟩ := h
      refine ⟨g, ins, m, rs', an2, rfl, fun d hd' => ?_, hins, by simpa using hcall, hg, hrest⟩
      rw [hd'] at hd
      simpa [dstOk] using hd

theorem want_sim {all : Array Oper} {K : Kp} {e : Env} {a : Act} {o : Oper} {g : Option (Nat × Bool)} {b : Bool} (hg : cGrd all o.guard = some g) (he : ∀ t c, g = some (t, c) → VR K (get e t) (a.tmps.getD t undef)) (hw : wantE e g = some b) : Region.wanted o (yielded all a.tmps) = b := by
  unfold Region.wanted
  cases ho : o.guard with
  | none =>
    simp [ho, cGrd] at hg; subst hg
    simp [wantE] at hw; simpa using hw
  | some jb =>
    obtain ⟨j, c⟩ := jb
    simp only [ho, cGrd, Option.map_eq_some_iff] at hg
    obtain ⟨d, hd, rfl⟩ := hg
    simp only [wantE] at hw
    split at hw
    · rename_i c' hc'
      cases hw
      have hv := he d c rfl
      rw [hc'] at hv
      have hv := hv.bool_inv
      have : a.tmps[d]? = some (.bool c') := by
        rw [Array.getD_eq_getD_getElem?] at hv
        cases ht : a.tmps[d]? with
        | none => rw [ht] at hv; simp [undef] at hv
        | some u => rw [ht] at hv; simp at hv; rw [hv]
      simp [yielded, hd, this]
    · rename_i vs hc'
      cases hw
      have hv := he d c rfl
      rw [hc'] at hv
      obtain ⟨us, hv, _⟩ := hv.tup_inv
      have : ∀ b, a.tmps[d]? ≠ some (.bool b) := by
        intro b hb
        rw [Array.getD_eq_getD_getElem?, hb] at hv
        cases hv
      cases ht : a.tmps[d]? with
      | none => simp [yielded, hd, ht]
      | some u =>
        cases u <;> first
          | (simp [yielded, hd, ht]; done)
          | exact absurd ht (this _)
    · cases hw

/-- What stands in a slot of an operation that was not asked for. -/
theorem VR.nov (K : Kp) : VR K (.tup []) undef := .tup _ _ _ rfl fun i x y h => by simp at h

/-- The end of a run over operations. -/
def Goes (Q : Exit → Act → World → Prop) (ex : Exit) (K : Kp) (ro : Nat) (H H' : Hp) (e' : Env) (a : Act) (w : World) : Prop :=
  ∀ a' w' K', K.le K' → EnvOk K' e' a' → Rel K' ro H' w' → Fr K K' ro H.length H'.length w w' → a'.tmps.size = a.tmps.size → a'.defers = a.defers → Q ex a' w'

theorem put_size (a : Act) (d : Option Tmp) (v : Value) : (a.put d v).tmps.size = a.tmps.size := by
  cases d <;> simp [Act.put]
theorem put_defers' (a : Act) (d : Option Tmp) (v : Value) : (a.put d v).defers = a.defers := by
  cases d <;> simp [Act.put]

theorem list_sim (hpr : PrOk P) {cf : CallF} (hcf : CallOk P cf) {ro nt : Nat} {ops : Array Oper} {imf : Nat → Bool} {Q : Exit → Act → World → Prop} : ∀ (l : List Oper) (i : Nat) (an an' : Ann) (rs : List Rop), cOps P nt ops imf i l an = some (rs, an') →
    ∀ (e : Env) (H : Hp) (e' : Env) (H' : Hp), doOps cf ro rs e H = some (e', H') → ∀ K a w, EnvOk K e a → Rel K ro H w → nt ≤ a.tmps.size → Goes Q .normal K ro H H' e' a w → wpList P ops Q l a w := by
  intro l
  induction l with
  | nil =>
    intro i an an' rs hc e H e' H' hd K a w he hR _ hg
    simp only [cOps, Option.some.injEq, Prod.mk.injEq] at hc
    obtain ⟨rfl, rfl⟩ := hc
    simp only [doOps, Option.some.injEq, Prod.mk.injEq] at hd
    obtain ⟨rfl, rfl⟩ := hd
    exact hg a w K K.le_refl he hR (Fr.refl _ _ _ _) rfl rfl
  | cons o l ih =>
    intro i an an' rs hc e H e' H' hd K a w he hR hnt hg
    obtain ⟨g, ins, m, rs', an2, rfl, hdst, hins, hcall, hgrd, hrest⟩ := cOps_cons hc
    simp only [doOps, Option.bind_eq_some_iff] at hd
    obtain ⟨b, hwant, hd⟩ := hd
    have hw := want_sim (o := o) hgrd (fun t c _ => he t) hwant
    unfold wpList
    rw [hw]
    cases b with
    | true =>
      simp only [if_true] at hd ⊢
      simp only [Option.bind_eq_some_iff] at hd
      obtain ⟨⟨x, H1⟩, hdo, hd⟩ := hd
      refine .inl ((op_runs hpr hcf hcall hins he hR hdo).step hR _ _ fun v w' hst => ?_)
      obtain ⟨K1, hle, hR1, hv, hF⟩ := hst
      refine ih _ _ _ _ hrest _ _ _ _ hd K1 _ w' ((he.mono hle).put _ hv fun t ht => Nat.lt_of_lt_of_le (hdst t ht) hnt) hR1 (by rw [put_size]; exact hnt) ?_
      intro a' w'' K' hle' he' hR' hF' hs hdf
      exact hg a' w'' K' (Kp.le_trans hle hle') he' hR' (hF.trans hF') (by rw [hs, put_size]) (by rw [hdf, put_defers'])
    | false =>
      simp only [Bool.false_eq_true, if_false] at hd ⊢
      refine ih _ _ _ _ hrest _ _ _ _ hd K _ w (he.put _ (VR.nov K) fun t ht => Nat.lt_of_lt_of_le (hdst t ht) hnt) hR (by rw [put_size]; exact hnt) ?_
      intro a' w'' K' hle' he' hR' hF' hs hdf
      exact hg a' w'' K' hle' he' hR' hF' (by rw [hs, put_size]) (by rw [hdf, put_defers'])

end Go.Vs
