import Derived.Test.YtnfddeiegbifhaaDoorVsPure
/- Each operation as a step of the walk; regions in the text's order. -/
namespace Go.Vs
open Go Go.RowKit

variable {P : Program}

/-- An operation is walked. -/
def Runs (P : Program) (o : Oper) (a : Act) (w : World) (R : Value → World → Prop) : Prop :=
  ∀ (next : Act → World → Prop) (Q : Exit → Act → World → Prop), (∀ v w', R v w' → next (a.put o.dst v) w') → o.wp P a w next Q

theorem Runs.mono {o : Oper} {a : Act} {w : World} {R R' : Value → World → Prop} (h : Runs P o a w R) (hr : ∀ v w', R v w' → R' v w') : Runs P o a w R' :=
  fun next Q hn => h next Q fun v w' hv => hn v w' (hr v w' hv)

theorem Runs.value {o : Oper} {a : Act} {w w' : World} {v : Value} {R : Value → World → Prop} (h : (execOp a.eval o).run P w = .ok (.value v) w') (hr : R v w') : Runs P o a w R :=
  fun next Q hn => by simp only [Oper.wp, h, Oper.upon]; exact hn _ _ hr

theorem Runs.skip {o : Oper} {a : Act} {w w' : World} {R : Value → World → Prop} (h : (execOp a.eval o).run P w = .ok .skip w') (hr : R undef w') : Runs P o a w R :=
  fun next Q hn => by simp only [Oper.wp, h, Oper.upon]; exact hn _ _ hr

theorem Runs.enter {o : Oper} {a : Act} {w w' : World} {f : Nat} {vs : Array Value} {R : Value → World → Prop} (h : (execOp a.eval o).run P w = .ok (.enter f vs) w') (hr : Calls P f vs w' fun e w'' => ∃ v, e = .returned v ∧ R v w'') : Runs P o a w R :=
  fun next Q hn => by
    simp only [Oper.wp, h, Oper.upon]
    refine Calls.mono hr fun e w'' he => ?_
    obtain ⟨v, rfl, hv⟩ := he
    exact hn _ _ hv

/-- What an operation does, told of the walk. -/
def DidR (P : Program) (a : Act) (o : Oper) (w : World) (K : Kp) (ro : Nat) (H H' : Hp) (x : IV) : Cls → Prop
  | .p | .l | .q => H' = H ∧ Runs P o a w fun v w' => ∃ K', Quiet K K' w w' ∧ VR K' x v
  | .a => ∃ rows, H' = H ++ [({ rows := rows } : Bk)] ∧ Makes P a o w K H.length x rows
  | .n => (H' = H ∧ Runs P o a w fun v w' => ∃ K', Quiet K K' w w' ∧ VR K' x v) ∨ ∃ rows, H' = H ++ [({ rows := rows } : Bk)] ∧ Draws P a o w K H.length x rows
  | .w => H.length ≤ H'.length ∧ Runs P o a w fun v w' => Step K ro H w H' w' x v

theorem step_len {K : Kp} {ro : Nat} {H H' : Hp} {w w' : World} {x : IV} {v : Value} (h : Step K ro H w H' w' x v) : H.length ≤ H'.length := by
  obtain ⟨_, _, _, _, hF⟩ := h; exact hF.len

theorem op_runs (hpr : PrOk P) {cf : CallF} (hcf : CallOk P cf) {ro : Nat} {H H' : Hp} {im : Bool} {m : Nat} {ins : Ins} {x : IV} {K : Kp} {e : Env} {a : Act} {o : Oper} {w : World} (hi : (isCallI ins && !isCall o.op) = false)
    (hc : cOp P im m o.op = some ins) (he : EnvOk K e a) (hR : Rel K ro H w) (hd : doIns cf ro e H ins = some (x, H')) : DidR P a o w K ro H H' x (cls ins) := by
  cases hn : isCallI ins with
  | false =>
    have hdid := op_sim hpr (a := a) (w := w) hc hn he hR hd
    cases hcl : cls ins with
    | p =>
      rw [hcl] at hdid
      cases hdid with
      | val _ _ h g => subst h; obtain ⟨v, hr, hv⟩ := g; exact ⟨rfl, Runs.value hr ⟨K, Quiet.refl hR, hv⟩⟩
      | qt v w' K' h hr q hv => subst h; exact ⟨rfl, Runs.value hr ⟨K', q, hv⟩⟩
    | l =>
      rw [hcl] at hdid
      cases hdid with
      | val _ _ h g => subst h; obtain ⟨v, hr, hv⟩ := g; exact ⟨rfl, Runs.value hr ⟨K, Quiet.refl hR, hv⟩⟩
    | q =>
      rw [hcl] at hdid
      cases hdid with
      | val _ _ h g => subst h; obtain ⟨v, hr, hv⟩ := g; exact ⟨rfl, Runs.value hr ⟨K, Quiet.refl hR, hv⟩⟩
    | a =>
      rw [hcl] at hdid
      cases hdid with
      | val _ hc => rcases hc with hc | hc | hc <;> cases hc
      | mk rows h g => exact ⟨rows, h, g⟩
    | n =>
      rw [hcl] at hdid
      cases hdid with
      | val _ hc => rcases hc with hc | hc | hc <;> cases hc
      | none h g => subst h; obtain ⟨v, hr, hv⟩ := g; exact .inl ⟨rfl, Runs.value hr ⟨K, Quiet.refl hR, hv⟩⟩
      | app rows h g => exact .inr ⟨rows, h, g⟩
    | w =>
      rw [hcl] at hdid
      cases hdid with
      | val _ hc => rcases hc with hc | hc | hc <;> cases hc
      | wr v w' h s =>
        refine ⟨step_len s, ?_⟩
        rcases h with h | ⟨h, rfl⟩
        · exact Runs.value h s
        · exact Runs.skip h s
  | true =>
    cases ins <;> simp only [isCallI, reduceCtorEq] at hn
    rename_i m' fo as
    have hic : isCall o.op = true := by simpa [isCallI] using hi
    simp only [doIns, doCall] at hd
    split at hd
    · rename_i f caps hf
      have enter : ∀ {R : Value → World → Prop}, hasBody P f = true → (∀ vs, ArgsOk K (as.map (ev e) ++ caps) vs → Calls P f vs w fun e w'' => ∃ v, e = .returned v ∧ R v w'') → Runs P o a w R := by
        intro R hb h
        obtain ⟨vs, hrun, hargs⟩ := call_enter hic hc he hf hb
        exact Runs.enter (hrun w) (h vs hargs)
      split at hd
      · obtain ⟨h1, h2, h3⟩ := hcf _ _ _ _ _ _ hd
        exact ⟨h1, enter h2 fun vs hvs => h3 K w vs hR hvs⟩
      · obtain ⟨h1, h2, _, h3⟩ := callP_sim hcf hd
        exact ⟨h1, enter h2 fun vs hvs => Calls.mono (h3 K w vs hR hvs) fun e w' he => by obtain ⟨v, rfl, h, _⟩ := he; exact ⟨v, rfl, h⟩⟩
      · obtain ⟨h1, h2, h4, h3⟩ := callP_sim hcf hd
        by_cases hm : m' = 2
        · simp only [cls, hm, if_true]
          exact ⟨h4 rfl, enter h2 fun vs hvs => Calls.mono (h3 K w vs hR hvs) fun e w' he => by obtain ⟨v, rfl, _, h⟩ := he; exact ⟨v, rfl, h rfl⟩⟩
        · simp only [cls, hm, if_false]
          exact ⟨h1, enter h2 fun vs hvs => Calls.mono (h3 K w vs hR hvs) fun e w' he => by obtain ⟨v, rfl, h, _⟩ := he; exact ⟨v, rfl, h⟩⟩
    · cases hd

theorem DidR.step {a : Act} {o : Oper} {w : World} {K : Kp} {ro : Nat} {H H' : Hp} {x : IV} {c : Cls} (hR : Rel K ro H w) (h : DidR P a o w K ro H H' x c) : Runs P o a w fun v w' => Step K ro H w H' w' x v := by
  cases c with
  | p => obtain ⟨rfl, h⟩ := h; exact h.mono fun v w' ⟨K', hq, hv⟩ => ⟨K', hq.le, hq.rel hR, hv, hq.fr _ _⟩
  | l => obtain ⟨rfl, h⟩ := h; exact h.mono fun v w' ⟨K', hq, hv⟩ => ⟨K', hq.le, hq.rel hR, hv, hq.fr _ _⟩
  | q => obtain ⟨rfl, h⟩ := h; exact h.mono fun v w' ⟨K', hq, hv⟩ => ⟨K', hq.le, hq.rel hR, hv, hq.fr _ _⟩
  | a =>
    obtain ⟨rows, rfl, v, arr, elem, sz, hrun, h1, h2, h3, h4, h5⟩ := h
    obtain ⟨q1, q2, q3⟩ := hR.new (elem := elem) h1 h2 h3 h4
    exact Runs.value hrun ⟨_, q1, q2, h5 _ (by simp [Kp.set]), q3⟩
  | n =>
    rcases h with ⟨rfl, h⟩ | ⟨rows, rfl, v, arr, elem, sz, hrun, h1, h2, h3, h4, h5⟩
    · exact h.mono fun v w' ⟨K', hq, hv⟩ => ⟨K', hq.le, hq.rel hR, hv, hq.fr _ _⟩
    · obtain ⟨q1, q2, q3⟩ := hR.drew.new (elem := elem) h1 h2 h3 h4
      exact Runs.value hrun ⟨_, q1, q2, h5 _ (by simp [Kp.set]), (Fr.drew K ro H.length w).trans q3⟩
  | w => exact h.2

/-! ### The compiled operations -/

theorem cOps_cons {nt : Nat} {all : Array Oper} {imf : Nat → Bool} {i : Nat} {o : Oper} {r : List Oper} {an an' : Ann} {rs : List Rop} (h : cOps P nt all imf i (o :: r) an = some (rs, an')) :
    ∃ g ins m rs' an2, rs = ⟨o.dst, g, ins⟩ :: rs' ∧ (∀ d, o.dst = some d → d < nt) ∧ cOp P (imf i) m o.op = some ins ∧ (isCallI ins && !isCall o.op) = false ∧ cGrd all o.guard = some g ∧ cOps P nt all imf (i + 1) r an2 = some (rs', an') := by
  simp only [cOps] at h
  split at h
  · cases h
  · rename_i hd
    simp only [Option.bind_eq_some_iff] at h
    obtain ⟨⟨m, an2⟩, _, ins, hins, h⟩ := h
    split at h
    · cases h
    · rename_i hcall
      simp only [Option.bind_eq_some_iff, Option.some.injEq, Prod.mk.injEq] at h
      obtain ⟨g, hg, ⟨rs', an3⟩, hrest, rfl, rfl⟩ := h
      refine ⟨g, ins, m, rs', an2, rfl, fun d hd' => ?_, hins, by simpa using hcall, hg, hrest⟩
      rw [hd'] at hd
      simpa [dstOk] using hd

theorem want_sim {all : Array Oper} {K : Kp} {e : Env} {a : Act} {o : Oper} {g : Option (Nat × Bool)} {b : Bool} (hg : cGrd all o.guard = some g) (he : ∀ t c, g = some (t, c) → VR K (get e t) (a.tmps.getD t undef)) (hw : wantE e g = some b) : Region.wanted o (yielded all a.tmps) = b := by
  unfold Region.wanted
  cases ho : o.guard with
  | none =>
    simp [ho, cGrd] at hg; subst hg
    simp [wantE] at hw; simpa using hw
  | some jb =>
    obtain ⟨j, c⟩ := jb
    simp only [ho, cGrd, Option.map_eq_some_iff] at hg
    obtain ⟨d, hd, rfl⟩ := hg
    simp only [wantE] at hw
    split at hw
    · rename_i c' hc'
      cases hw
      have hv := he d c rfl
      rw [hc'] at hv
      have hv := hv.bool_inv
      have : a.tmps[d]? = some (.bool c') := by
        rw [Array.getD_eq_getD_getElem?] at hv
        cases ht : a.tmps[d]? with
        | none => rw [ht] at hv; simp [undef] at hv
        | some u => rw [ht] at hv; simp at hv; rw [hv]
      simp [yielded, hd, this]
    · rename_i vs hc'
      cases hw
      have hv := he d c rfl
      rw [hc'] at hv
      obtain ⟨us, hv, _⟩ := hv.tup_inv
      have : ∀ b, a.tmps[d]? ≠ some (.bool b) := by
        intro b hb
        rw [Array.getD_eq_getD_getElem?, hb] at hv
        cases hv
      cases ht : a.tmps[d]? with
      | none => simp [yielded, hd, ht]
      | some u =>
        cases u <;> first
          | (simp [yielded, hd, ht]; done)
          | exact absurd ht (this _)
    · cases hw

/-- What stands in a slot of an operation that was not asked for. -/
theorem VR.nov (K : Kp) : VR K (.tup []) undef := .tup _ _ _ rfl fun i x y h => by simp at h

/-- The end of a run over operations. -/
def Goes (Q : Exit → Act → World → Prop) (ex : Exit) (K : Kp) (ro : Nat) (H H' : Hp) (e' : Env) (a : Act) (w : World) : Prop :=
  ∀ a' w' K', K.le K' → EnvOk K' e' a' → Rel K' ro H' w' → Fr K K' ro H.length H'.length w w' → a'.tmps.size = a.tmps.size → a'.defers = a.defers → Q ex a' w'

theorem put_size (a : Act) (d : Option Tmp) (v : Value) : (a.put d v).tmps.size = a.tmps.size := by
  cases d <;> simp [Act.put]
theorem put_defers' (a : Act) (d : Option Tmp) (v : Value) : (a.put d v).defers = a.defers := by
  cases d <;> simp [Act.put]

theorem list_sim (hpr : PrOk P) {cf : CallF} (hcf : CallOk P cf) {ro nt : Nat} {ops : Array Oper} {imf : Nat → Bool} {Q : Exit → Act → World → Prop} : ∀ (l : List Oper) (i : Nat) (an an' : Ann) (rs : List Rop), cOps P nt ops imf i l an = some (rs, an') →
    ∀ (e : Env) (H : Hp) (e' : Env) (H' : Hp), doOps cf ro rs e H = some (e', H') → ∀ K a w, EnvOk K e a → Rel K ro H w → nt ≤ a.tmps.size → Goes Q .normal K ro H H' e' a w → wpList P ops Q l a w := by
  intro l
  induction l with
  | nil =>
    intro i an an' rs hc e H e' H' hd K a w he hR _ hg
    simp only [cOps, Option.some.injEq, Prod.mk.injEq] at hc
    obtain ⟨rfl, rfl⟩ := hc
    simp only [doOps, Option.some.injEq, Prod.mk.injEq] at hd
    obtain ⟨rfl, rfl⟩ := hd
    exact hg a w K K.le_refl he hR (Fr.refl _ _ _ _) rfl rfl
  | cons o l ih =>
    intro i an an' rs hc e H e' H' hd K a w he hR hnt hg
    obtain ⟨g, ins, m, rs', an2, rfl, hdst, hins, hcall, hgrd, hrest⟩ := cOps_cons hc
    simp only [doOps, Option.bind_eq_some_iff] at hd
    obtain ⟨b, hwant, hd⟩ := hd
    have hw := want_sim (o := o) hgrd (fun t c _ => he t) hwant
    unfold wpList
    rw [hw]
    cases b with
    | true =>
      simp only [if_true] at hd ⊢
      simp only [Option.bind_eq_some_iff] at hd
      obtain ⟨⟨x, H1⟩, hdo, hd⟩ := hd
      refine .inl ((op_runs hpr hcf hcall hins he hR hdo).step hR _ _ fun v w' hst => ?_)
      obtain ⟨K1, hle, hR1, hv, hF⟩ := hst
      refine ih _ _ _ _ hrest _ _ _ _ hd K1 _ w' ((he.mono hle).put _ hv fun t ht => Nat.lt_of_lt_of_le (hdst t ht) hnt) hR1 (by rw [put_size]; exact hnt) ?_
      intro a' w'' K' hle' he' hR' hF' hs hdf
      exact hg a' w'' K' (Kp.le_trans hle hle') he' hR' (hF.trans hF') (by rw [hs, put_size]) (by rw [hdf, put_defers'])
    | false =>
      simp only [Bool.false_eq_true, if_false] at hd ⊢
      refine ih _ _ _ _ hrest _ _ _ _ hd K _ w (he.put _ (VR.nov K) fun t ht => Nat.lt_of_lt_of_le (hdst t ht) hnt) hR (by rw [put_size]; exact hnt) ?_
      intro a' w'' K' hle' he' hR' hF' hs hdf
      exact hg a' w'' K' hle' he' hR' hF' (by rw [hs, put_size]) (by rw [hdf, put_defers'])

end Go.Vs
/- What an operation computes: of which slots, of which heap. -/
namespace Go.Vs
open Go Go.RowKit

theorem map_ev {e e' : Env} {cs : List Opd} (h : ∀ x ∈ cs, ev e x = ev e' x) : cs.map (ev e) = cs.map (ev e') := List.map_congr_left h

theorem optB_congr {e e' : Env} {d : Nat} {x : Option Opd} (h : ∀ y ∈ x.toList, ev e y = ev e' y) : optB e d x = optB e' d x := by
  cases x with
  | none => rfl
  | some y => simp only [optB, h y (by simp)]

theorem fillB_congr {e e' : Env} : ∀ (ps : List (Nat × Nat × Opd)) (z : List IV), (∀ p ∈ ps, ev e p.2.2 = ev e' p.2.2) → doIns.fillB e z ps = doIns.fillB e' z ps
  | [], z, _ => rfl
  | (off, n, x) :: r, z, h => by
    simp only [doIns.fillB]
    rw [h _ (List.mem_cons_self ..)]
    congr 1
    funext cs
    rw [fillB_congr r _ fun p hp => h p (List.mem_cons_of_mem _ hp)]

theorem fillP_congr {e e' : Env} {sz : Nat} : ∀ (ps : List (Nat × Opd)) (z : List (List IV)), (∀ p ∈ ps, ev e p.2 = ev e' p.2) → doIns.fillP e sz z ps = doIns.fillP e' sz z ps
  | [], z, _ => rfl
  | (i, x) :: r, z, h => by
    simp only [doIns.fillP]
    rw [h _ (List.mem_cons_self ..)]
    congr 1
    funext cs
    rw [fillP_congr r _ fun p hp => h p (List.mem_cons_of_mem _ hp)]

theorem doIns_congr {cf : CallF} {ro : Nat} {e e' : Env} {H : Hp} {ins : Ins} (h : ∀ x ∈ ins.opds, ev e x = ev e' x) : doIns cf ro e H ins = doIns cf ro e' H ins := by
  cases ins
  case alloc => rfl
  case alt => rfl
  case tou x => simp only [doIns, h x (by simp [Ins.opds])]
  case fru t n x => simp only [doIns, h x (by simp [Ins.opds])]
  case usd x => simp only [doIns, h x (by simp [Ins.opds])]
  case nep x y => simp only [doIns, h x (by simp [Ins.opds]), h y (by simp [Ins.opds])]
  case apb t x y => simp only [doIns, h x (by simp [Ins.opds]), h y (by simp [Ins.opds])]
  case ust t x y => simp only [doIns, h x (by simp [Ins.opds]), h y (by simp [Ins.opds])]
  case build z ps =>
    have : ∀ p ∈ ps, ev e p.2.2 = ev e' p.2.2 := fun p hp => h _ (by simp only [Ins.opds, List.mem_map]; exact ⟨p, hp, rfl⟩)
    simp only [doIns, fillB_congr ps z this]
  case bslice n sz z ps =>
    have : ∀ p ∈ ps, ev e p.2 = ev e' p.2 := fun p hp => h _ (by simp only [Ins.opds, List.mem_map]; exact ⟨p, hp, rfl⟩)
    simp only [doIns, fillP_congr ps _ this]
  case mkf f cs => simp only [doIns, map_ev (cs := cs) h]
  case pr p cs => simp only [doIns, map_ev (cs := cs) h]
  case mx cs =>
    cases cs with
    | nil => rfl
    | cons x r => simp only [doIns, h x (by simp [Ins.opds]), map_ev (cs := r) fun y hy => h y (by simp [Ins.opds, hy])]
  case mn cs =>
    cases cs with
    | nil => rfl
    | cons x r => simp only [doIns, h x (by simp [Ins.opds]), map_ev (cs := r) fun y hy => h y (by simp [Ins.opds, hy])]
  case slst x lo hi =>
    have h1 : ∀ y ∈ lo.toList, ev e y = ev e' y := fun y hy => h y (List.mem_cons_of_mem _ (List.mem_append.2 (.inl hy)))
    have h2 : ∀ y ∈ hi.toList, ev e y = ev e' y := fun y hy => h y (List.mem_cons_of_mem _ (List.mem_append.2 (.inr hy)))
    simp only [doIns, h x (by simp [Ins.opds]), optB_congr h1, fun d => optB_congr (d := d) h2]
  case slsl sz x lo hi mx =>
    have h1 : ∀ y ∈ lo.toList, ev e y = ev e' y := fun y hy => h y (List.mem_cons_of_mem _ (List.mem_append.2 (.inl hy)))
    have h2 : ∀ y ∈ hi.toList, ev e y = ev e' y := fun y hy => h y (List.mem_cons_of_mem _ (List.mem_append.2 (.inr (List.mem_append.2 (.inl hy)))))
    have h3 : ∀ y ∈ mx.toList, ev e y = ev e' y := fun y hy => h y (List.mem_cons_of_mem _ (List.mem_append.2 (.inr (List.mem_append.2 (.inr hy)))))
    simp only [doIns, h x (by simp [Ins.opds]), optB_congr h1, optB_congr h2, optB_congr h3]
  case sli sz x lo hi mx =>
    have h1 : ∀ y ∈ lo.toList, ev e y = ev e' y := fun y hy => h y (List.mem_cons_of_mem _ (List.mem_append.2 (.inl hy)))
    have h2 : ∀ y ∈ hi.toList, ev e y = ev e' y := fun y hy => h y (List.mem_cons_of_mem _ (List.mem_append.2 (.inr (List.mem_append.2 (.inl hy)))))
    have h3 : ∀ y ∈ mx.toList, ev e y = ev e' y := fun y hy => h y (List.mem_cons_of_mem _ (List.mem_append.2 (.inr (List.mem_append.2 (.inr hy)))))
    simp only [doIns, h x (by simp [Ins.opds]), optB_congr h1, optB_congr h2, optB_congr h3]
  case call m f as =>
    simp only [doIns, h f (by simp [Ins.opds]), map_ev (cs := as) fun y hy => h y (by simp [Ins.opds, hy])]
  case pick c a b => simp only [doIns, h c (by simp [Ins.opds]), h a (by simp [Ins.opds]), h b (by simp [Ins.opds])]
  case store n a x => simp only [doIns, h a (by simp [Ins.opds]), h x (by simp [Ins.opds])]
  case bin op x y => simp only [doIns, h x (by simp [Ins.opds]), h y (by simp [Ins.opds])]
  case eqb n x y => simp only [doIns, h x (by simp [Ins.opds]), h y (by simp [Ins.opds])]
  case eqs n k x y => simp only [doIns, h x (by simp [Ins.opds]), h y (by simp [Ins.opds])]
  case iad sz x y => simp only [doIns, h x (by simp [Ins.opds]), h y (by simp [Ins.opds])]
  case iai sz x y => simp only [doIns, h x (by simp [Ins.opds]), h y (by simp [Ins.opds])]
  case iar n sz x y => simp only [doIns, h x (by simp [Ins.opds]), h y (by simp [Ins.opds])]
  case ist x y => simp only [doIns, h x (by simp [Ins.opds]), h y (by simp [Ins.opds])]
  case iag n ag sz x y => simp only [doIns, h x (by simp [Ins.opds]), h y (by simp [Ins.opds])]
  case apn sz b y => simp only [doIns, h y (by simp [Ins.opds])]
  case app sz b x y => simp only [doIns, h x (by simp [Ins.opds]), h y (by simp [Ins.opds])]
  case copy sz x y => simp only [doIns, h x (by simp [Ins.opds]), h y (by simp [Ins.opds])]
  case mksl sz b z x y => simp only [doIns, h x (by simp [Ins.opds]), h y (by simp [Ins.opds])]
  case mv x => simp only [doIns, h x (by simp [Ins.opds])]
  case box n x => simp only [doIns, h x (by simp [Ins.opds])]
  case boxf n x => simp only [doIns, h x (by simp [Ins.opds])]
  case load ag n x im => simp only [doIns, h x (by simp [Ins.opds])]
  case ldr ag n x y => simp only [doIns, h x (by simp [Ins.opds]), h y (by simp [Ins.opds])]
  case nilck x => simp only [doIns, h x (by simp [Ins.opds])]
  case eqn k n x => simp only [doIns, h x (by simp [Ins.opds])]
  case un op x => simp only [doIns, h x (by simp [Ins.opds])]
  case cvi k x => simp only [doIns, h x (by simp [Ins.opds])]
  case cvs x => simp only [doIns, h x (by simp [Ins.opds])]
  case cvbs x => simp only [doIns, h x (by simp [Ins.opds])]
  case cvsb x => simp only [doIns, h x (by simp [Ins.opds])]
  case mki t x => simp only [doIns, h x (by simp [Ins.opds])]
  case fad n x => simp only [doIns, h x (by simp [Ins.opds])]
  case fld ag o n x => simp only [doIns, h x (by simp [Ins.opds])]
  case ext x i => simp only [doIns, h x (by simp [Ins.opds])]
  case len st x => simp only [doIns, h x (by simp [Ins.opds])]
  case capo x => simp only [doIns, h x (by simp [Ins.opds])]
  case clear sz z x => simp only [doIns, h x (by simp [Ins.opds])]
  case apz sz b z x y => simp only [doIns, h x (by simp [Ins.opds]), h y (by simp [Ins.opds])]
  case ovl x y => simp only [doIns, h x (by simp [Ins.opds]), h y (by simp [Ins.opds])]
  case insv sz b s i v => simp only [doIns, h s (by simp [Ins.opds]), h i (by simp [Ins.opds]), h v (by simp [Ins.opds])]

theorem mem_slotsOf {n : Nat} : ∀ {l : List Opd}, Opd.t n ∈ l → n ∈ slotsOf l
  | .t m :: l, h => by
    simp only [slotsOf, List.mem_cons] at *
    rcases h with h | h
    · cases h; exact .inl rfl
    · exact .inr (mem_slotsOf h)
  | .c v :: l, h => by
    simp only [slotsOf, List.mem_cons, reduceCtorEq, false_or] at *
    exact mem_slotsOf h
  | .f v :: l, h => by
    simp only [slotsOf, List.mem_cons, reduceCtorEq, false_or] at *
    exact mem_slotsOf h

theorem looks_ins {r : Rop} {n : Nat} (h : n ∈ slotsOf r.ins.opds) : n ∈ r.looks := by
  unfold Rop.looks
  split
  · exact List.mem_cons_of_mem _ h
  · exact h

theorem doIns_keep {cf : CallF} {ro : Nat} {e : Env} {H : Hp} (r : Rop) : doIns cf ro (keepE r.looks e) H r.ins = doIns cf ro e H r.ins := by
  refine doIns_congr fun x hx => ?_
  cases x with
  | t n => simp only [ev, get_keep, looks_ins (mem_slotsOf hx), if_true]
  | c v => rfl
  | f n => rfl

theorem wantE_keep {e : Env} (r : Rop) : wantE (keepE r.looks e) r.grd = wantE e r.grd := by
  cases hg : r.grd with
  | none => rfl
  | some jb => 
    obtain ⟨j, b⟩ := jb
    simp only [wantE, get_keep, show j ∈ r.looks by simp [Rop.looks, hg], if_true]

/-! ### What needs no heap -/

theorem doIns_p {cf : CallF} {ro : Nat} {e : Env} {H H' : Hp} {ins : Ins} {x : IV} (hc : cls ins = .p) (h : doIns cf ro e H ins = some (x, H')) : H' = H ∧ ∀ H2, doIns cf ro e H2 ins = some (x, H2) := by
  cases ins <;> first | (simp only [cls, reduceCtorEq] at hc; done) | skip
  case call m f as => simp only [cls] at hc; split at hc <;> cases hc
  case load ag n a im =>
    cases im with
    | false => simp [cls] at hc
    | true =>
      simp only [doIns] at h ⊢
      split at h
      · cases h
      · rename_i hne
        simp only [true_and, Bool.not_eq_false] at hne
        simp only [Option.bind_eq_some_iff] at h
        obtain ⟨cs, hr, v, hv, h⟩ := h
        cases h
        refine ⟨rfl, fun H2 => ?_⟩
        have : rd H2 n (ev e a) = rd H n (ev e a) := by
          cases hx : ev e a <;> simp only [hx, doIns.isE, Bool.false_eq_true] at hne
          simp only [rd]
        simp only [hne, this, hr, Option.bind_some, hv]
        simp
  case sli sz y lo hi mx =>
    simp only [doIns, Option.bind_eq_some_iff] at h
    obtain ⟨l, hl, h1, hh, m, hm, h⟩ := h
    split at h
    · rename_i hI
      simp only [Option.bind_eq_some_iff] at h
      obtain ⟨v, hv, h⟩ := h
      cases h
      exact ⟨rfl, fun H2 => by simp only [doIns, hl, hh, hm, Option.bind_some, hI, if_true, hv]⟩
    · cases h
  case boxf n y =>
    simp only [doIns, Option.bind_eq_some_iff] at h
    obtain ⟨v, hv, h⟩ := h
    split at h
    · rename_i hI
      cases h
      exact ⟨rfl, fun H2 => by simp only [doIns, hv, Option.bind_some, hI, if_true, and_self]⟩
    · cases h
  case mv y => simp only [doIns] at h; cases h; exact ⟨rfl, fun _ => rfl⟩
  case mki t y => simp only [doIns] at h; cases h; exact ⟨rfl, fun _ => rfl⟩
  case mkf t y => simp only [doIns] at h; cases h; exact ⟨rfl, fun _ => rfl⟩
  case build z ps => obtain ⟨v, hv, rfl, rfl⟩ := bind_pair h; exact ⟨rfl, fun H2 => by simp only [doIns, hv, Option.bind_some]⟩
  case bin op y z => obtain ⟨v, hv, rfl, rfl⟩ := bind_pair (f := fun v => v) h; exact ⟨rfl, fun H2 => by simp only [doIns, hv, Option.bind_some]⟩
  case eqb op y z => obtain ⟨v, hv, rfl, rfl⟩ := bind_pair h; exact ⟨rfl, fun H2 => by simp only [doIns, hv, Option.bind_some]⟩
  case eqs op k y z => obtain ⟨v, hv, rfl, rfl⟩ := bind_pair h; exact ⟨rfl, fun H2 => by simp only [doIns, hv, Option.bind_some]⟩
  case eqn k op y => obtain ⟨v, hv, rfl, rfl⟩ := bind_pair h; exact ⟨rfl, fun H2 => by simp only [doIns, hv, Option.bind_some]⟩
  case un op y => obtain ⟨v, hv, rfl, rfl⟩ := bind_pair (f := fun v => v) h; exact ⟨rfl, fun H2 => by simp only [doIns, hv, Option.bind_some]⟩
  case fad op y => obtain ⟨v, hv, rfl, rfl⟩ := bind_pair (f := fun v => v) h; exact ⟨rfl, fun H2 => by simp only [doIns, hv, Option.bind_some]⟩
  case len op y => obtain ⟨v, hv, rfl, rfl⟩ := bind_pair h; exact ⟨rfl, fun H2 => by simp only [doIns, hv, Option.bind_some]⟩
  case pr op y => obtain ⟨v, hv, rfl, rfl⟩ := bind_pair (f := fun v => v) h; exact ⟨rfl, fun H2 => by simp only [doIns, hv, Option.bind_some]⟩
  case mx xs =>
    cases xs with
    | nil => cases h
    | cons y r => obtain ⟨v, hv, rfl, rfl⟩ := bind_pair (f := fun v => v) h; exact ⟨rfl, fun H2 => by simp only [doIns, hv, Option.bind_some]⟩
  case mn xs =>
    cases xs with
    | nil => cases h
    | cons y r => obtain ⟨v, hv, rfl, rfl⟩ := bind_pair (f := fun v => v) h; exact ⟨rfl, fun H2 => by simp only [doIns, hv, Option.bind_some]⟩
  all_goals
    simp only [doIns] at h ⊢
    repeat' split at h
    all_goals first
      | (cases h; done)
      | (cases h; exact ⟨rfl, fun _ => by simp_all⟩)
      | (simp only [Option.bind_eq_some_iff] at h
         obtain ⟨v1, h1, h⟩ := h
         first
         | (cases h; exact ⟨rfl, fun _ => by simp_all⟩)
         | (obtain ⟨v2, h2, h⟩ := h
            first
            | (cases h; exact ⟨rfl, fun _ => by simp_all⟩)
            | (obtain ⟨v3, h3, h⟩ := h; cases h; exact ⟨rfl, fun _ => by simp_all⟩)))

/-! ### The heap only grows -/

theorem wr_len {ro : Nat} {H H' : Hp} {cs : List IV} {x : IV} (h : wr ro H cs x = some H') : H'.length = H.length := by
  cases x <;> simp only [wr, reduceCtorEq] at h
  simp only [Option.bind_eq_some_iff] at h
  obtain ⟨B, _, row, _, h⟩ := h
  split at h
  · cases h; simp
  · cases h

theorem newArr_len {H H' : Hp} {b : Nat} {rows : List (List IV)} {x : IV} (h : newArr H b rows = some (x, H')) : H.length ≤ H'.length := by
  unfold newArr at h
  split at h
  · cases h; simp
  · cases h

theorem appV_len {ro : Nat} {H H' : Hp} {sz b : Nat} {x y z : IV} (h : appV ro H sz b x y = some (z, H')) : H.length ≤ H'.length := by
  simp only [appV, Option.bind_eq_some_iff] at h
  obtain ⟨ys, _, h⟩ := h
  split at h
  · cases h
  · split at h
    · split at h
      · cases h; exact Nat.le_refl _
      · exact newArr_len h
    · split at h
      · cases h; exact Nat.le_refl _
      · split at h
        · exact newArr_len h
        · cases h
    · simp only [Option.bind_eq_some_iff] at h
      obtain ⟨B, _, h⟩ := h
      repeat' split at h
      all_goals first
        | (cases h; done)
        | exact newArr_len h
        | (cases h; simp)
    · cases h

theorem apzV_len {H H' : Hp} {sz bytes : Nat} {z : List IV} {x y : IV} {n : Nat} (h : apzV H sz bytes z x n = some (y, H')) : H.length ≤ H'.length := by
  unfold apzV at h
  split at h
  · simp only [Option.bind_eq_some_iff] at h
    obtain ⟨B, _, h⟩ := h
    split at h
    · exact newArr_len h
    · cases h
  · cases h

theorem insV_len {ro : Nat} {H H' : Hp} {sz bytes : Nat} {s i v y : IV} (h : insV ro H sz bytes s i v = some (y, H')) : H.length ≤ H'.length := by
  unfold insV at h
  split at h
  · split at h
    · cases h
    · simp only [Option.bind_eq_some_iff] at h
      obtain ⟨ys, _, h⟩ := h
      split at h
      · cases h
      · split at h
        · split at h
          · exact appV_len h
          · simp only [Option.bind_eq_some_iff] at h
            obtain ⟨c, _, B, _, h⟩ := h
            split at h
            · cases h; simp
            · cases h
        · split at h
          · exact appV_len h
          · cases h
        · split at h
          · exact appV_len h
          · cases h
        · cases h
  · cases h

theorem appB_len {t ro : Nat} {H H' : Hp} {x y z : IV} (h : appB t ro H x y = some (z, H')) : H.length ≤ H'.length := by
  unfold appB at h
  split at h
  · simp only [Option.bind_eq_some_iff] at h
    obtain ⟨ys, _, h⟩ := h
    repeat' split at h
    all_goals first
      | (cases h; done)
      | (cases h; simp)
  · simp only [Option.bind_eq_some_iff] at h
    obtain ⟨B, _, h⟩ := h
    split at h
    · simp only [Option.bind_eq_some_iff] at h
      obtain ⟨ys, _, h⟩ := h
      repeat' split at h
      all_goals first
        | (cases h; done)
        | (cases h; simp)
    · exact appV_len h
  · exact appV_len h

theorem ustV_len {t ro : Nat} {H H' : Hp} {x y z : IV} (h : ustV ro H t x y = some (z, H')) : H.length ≤ H'.length := by
  unfold ustV at h
  split at h
  · cases h; exact Nat.le_refl _
  · simp only [Option.bind_eq_some_iff] at h
    obtain ⟨B, _, h⟩ := h
    split at h
    · simp only [Option.bind_eq_some_iff] at h
      obtain ⟨bs, _, h⟩ := h
      cases h; simp
    · cases h
  · cases h

theorem copyV_len {ro : Nat} {H H' : Hp} {sz : Nat} {x y z : IV} (h : copyV ro H sz x y = some (z, H')) : H.length ≤ H'.length := by
  simp only [copyV, Option.bind_eq_some_iff] at h
  obtain ⟨ys, _, h⟩ := h
  split at h
  · cases h
  · split at h
    · cases h; exact Nat.le_refl _
    · simp only [Option.bind_eq_some_iff] at h
      obtain ⟨B, _, h⟩ := h
      split at h
      · cases h
      · cases h; simp
    · cases h

theorem clearV_len {ro : Nat} {H H' : Hp} {sz : Nat} {z : List IV} {x y : IV} (h : clearV ro H sz z x = some (y, H')) : H.length ≤ H'.length := by
  unfold clearV at h
  split at h
  · cases h; exact Nat.le_refl _
  · split at h
    · cases h; exact Nat.le_refl _
    · simp only [Option.bind_eq_some_iff] at h
      obtain ⟨B, _, h⟩ := h
      split at h
      · cases h
      · cases h; simp
  · cases h

theorem doIns_len {P : Program} {cf : CallF} (hcf : CallOk P cf) {ro : Nat} {e : Env} {H H' : Hp} {ins : Ins} {x : IV} (h : doIns cf ro e H ins = some (x, H')) : H.length ≤ H'.length := by
  cases hc : cls ins with
  | p => rw [(doIns_p hc h).1]; exact Nat.le_refl _
  | q =>
    cases ins <;> simp only [cls, reduceCtorEq] at hc
    case load ag n a im => split at hc <;> cases hc
    case call m f as => split at hc <;> cases hc
    case ldr =>
      simp only [doIns] at h
      split at h
      · simp only [Option.bind_eq_some_iff] at h
        obtain ⟨_, _, _, _, h⟩ := h
        cases h; exact Nat.le_refl _
      · cases h
  | l =>
    cases ins <;> simp only [cls, reduceCtorEq] at hc
    case load ag n a im =>
      simp only [doIns] at h
      split at h
      · cases h
      · simp only [Option.bind_eq_some_iff] at h
        obtain ⟨_, _, _, _, h⟩ := h
        cases h; exact Nat.le_refl _
    case cvbs y =>
      simp only [doIns] at h
      split at h
      · cases h
      · simp only [Option.bind_eq_some_iff] at h
        obtain ⟨_, _, _, _, h⟩ := h
        cases h; exact Nat.le_refl _
    case slsl =>
      simp only [doIns, Option.bind_eq_some_iff] at h
      obtain ⟨_, _, _, _, _, _, _, _, h⟩ := h
      cases h; exact Nat.le_refl _
    case iad =>
      simp only [doIns] at h
      split at h
      · simp only [Option.bind_eq_some_iff] at h
        obtain ⟨_, _, h⟩ := h
        cases h; exact Nat.le_refl _
      · cases h
    case tou | fru | nep | usd | ovl =>
      simp only [doIns, Option.bind_eq_some_iff] at h
      obtain ⟨_, _, h⟩ := h
      cases h; exact Nat.le_refl _
    case capo =>
      simp only [doIns] at h
      repeat' split at h
      all_goals first
        | (cases h; done)
        | (cases h; exact Nat.le_refl _)
        | (simp only [Option.bind_eq_some_iff] at h
           obtain ⟨_, _, h⟩ := h
           cases h; exact Nat.le_refl _)
    case call m f as =>
      simp only [doIns, doCall] at h
      repeat' split at h
      · exact (hcf _ _ _ _ _ _ h).1
      · exact (callP_sim hcf h).1
      · exact (callP_sim hcf h).1
      · cases h
  | a =>
    cases ins <;> simp only [cls, reduceCtorEq] at hc
    case alloc => simp only [doIns] at h; cases h; simp
    case box =>
      simp only [doIns, Option.bind_eq_some_iff] at h
      obtain ⟨_, _, h⟩ := h
      split at h
      · cases h; simp
      · cases h
    case bslice =>
      simp only [doIns, Option.bind_eq_some_iff] at h
      obtain ⟨_, _, h⟩ := h
      cases h; simp
    case mksl =>
      simp only [doIns, Option.bind_eq_some_iff] at h
      obtain ⟨_, _, _, _, h⟩ := h
      split at h
      · cases h; simp
      · cases h
    case load ag n a im => split at hc <;> cases hc
    case call m f as => split at hc <;> cases hc
  | n =>
    cases ins <;> simp only [cls, reduceCtorEq] at hc
    case apn => simp only [doIns] at h; exact appV_len h
    case load ag n a im => split at hc <;> cases hc
    case call m f as => split at hc <;> cases hc
  | w =>
    cases ins <;> simp only [cls, reduceCtorEq] at hc
    case store =>
      simp only [doIns, Option.bind_eq_some_iff] at h
      obtain ⟨_, _, h⟩ := h
      split at h
      · simp only [Option.bind_eq_some_iff] at h
        obtain ⟨H2, h2, h⟩ := h
        cases h
        rw [wr_len h2]; exact Nat.le_refl _
      · cases h
    case app => exact appV_len h
    case alt => simp only [doIns] at h; cases h; simp
    case apb => exact appB_len h
    case ust => exact ustV_len h
    case copy => exact copyV_len h
    case clear => exact clearV_len h
    case apz =>
      simp only [doIns] at h
      repeat' split at h
      all_goals first
        | (cases h; done)
        | exact apzV_len h
    case insv => exact insV_len h
    case cvsb =>
      simp only [doIns] at h
      split at h
      · cases h; simp
      · cases h
    case load ag n a im => split at hc <;> cases hc
    case call m f as =>
      simp only [doIns, doCall] at h
      repeat' split at h
      · exact (hcf _ _ _ _ _ _ h).1
      · exact (callP_sim hcf h).1
      · exact (callP_sim hcf h).1
      · cases h

theorem doOps_len {P : Program} {cf : CallF} (hcf : CallOk P cf) {ro : Nat} : ∀ {rs : List Rop} {e e' : Env} {H H' : Hp}, doOps cf ro rs e H = some (e', H') → H.length ≤ H'.length
  | [], e, e', H, H', h => by simp only [doOps] at h; cases h; exact Nat.le_refl _
  | r :: rs, e, e', H, H', h => by
    simp only [doOps, Option.bind_eq_some_iff] at h
    obtain ⟨b, _, h⟩ := h
    split at h
    · simp only [Option.bind_eq_some_iff] at h
      obtain ⟨⟨x, H1⟩, h1, h⟩ := h
      exact Nat.le_trans (doIns_len hcf h1) (doOps_len hcf h)
    · exact doOps_len hcf h

theorem doOpsR_sub {cf : CallF} {ro : Nat} {bl : List Nat} : ∀ {c : Nat} {rs : List Rop} {e : Env} {H : Hp} {r : Env × Hp}, doOpsR cf ro bl c rs e H = some r → doOps cf ro rs e H = some r
  | 0, _, e, H, r, h => h
  | _ + 1, [], e, H, r, h => h
  | c + 1, o :: rs, e, H, r, h => by
    simp only [doOpsR, doOps] at h ⊢
    obtain ⟨b, h1, h2⟩ := Option.bind_eq_some_iff.1 h
    rw [h1]
    simp only [Option.bind_some]
    split at h2
    · rename_i hb
      rw [if_pos hb]
      obtain ⟨x, h3, h4⟩ := Option.bind_eq_some_iff.1 h2
      rw [h3]
      split at h4
      · exact doOpsR_sub h4
      · cases h4
    · rename_i hb
      rw [if_neg hb]
      exact doOpsR_sub h2

end Go.Vs
