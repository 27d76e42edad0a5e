import Derived.Test.YtnfddeiegbifhaaDoorVsAny2
import Derived.LoopN
/- The ideal machine's runs are the model's. -/
namespace Go.Vs
open Go Go.RowKit

def exOf : Ex → Exit
  | .nrm => .normal
  | .ret => .ret
  | .exit id => .exit id

theorem loopN_len {body : Env → Hp → Out} {keep : List Nat} (hb : ∀ e H ex e' H', body e H = some (ex, e', H') → H.length ≤ H'.length) : ∀ (n : Nat) (e : Env) (H : Hp) (ex : Ex) (e' : Env) (H' : Hp), loopN body keep n e H = some (ex, e', H') → H.length ≤ H'.length
  | 0, e, H, ex, e', H', h => by simp [loopN] at h
  | n + 1, e, H, ex, e', H', h => by
    simp only [loopN, Option.bind_eq_some_iff] at h
    obtain ⟨⟨ex1, e1, H1⟩, h1, h⟩ := h
    have := hb _ _ _ _ _ h1
    cases ex1 with
    | nrm => exact Nat.le_trans this (loopN_len hb n _ _ _ _ _ h)
    | ret => cases h; exact this
    | exit id => cases h; exact this

theorem runC_len {P : Program} {cf : CallF} (hcf : CallOk P cf) {ro n : Nat} : ∀ (c : Cd) (e : Env) (H : Hp) (ex : Ex) (e' : Env) (H' : Hp), runC cf ro n c e H = some (ex, e', H') → H.length ≤ H'.length := by
  intro c
  induction c with
  | skip => intro e H ex e' H' h; simp only [runC] at h; cases h; exact Nat.le_refl _
  | ret => intro e H ex e' H' h; simp only [runC] at h; cases h; exact Nat.le_refl _
  | exit id => intro e H ex e' H' h; simp only [runC] at h; cases h; exact Nat.le_refl _
  | rg ops keep =>
    intro e H ex e' H' h
    simp only [runC, Option.bind_eq_some_iff] at h
    obtain ⟨⟨e1, H1⟩, h1, h⟩ := h
    cases h
    exact doOps_len hcf h1
  | rgr c prs ops keep =>
    intro e H ex e' H' h
    simp only [runC, Option.bind_eq_some_iff] at h
    obtain ⟨bl, _, ⟨e1, H1⟩, h1, h⟩ := h
    cases h
    exact doOps_len hcf (doOpsR_sub h1)
  | seq a b iha ihb =>
    intro e H ex e' H' h
    simp only [runC, Option.bind_eq_some_iff] at h
    obtain ⟨⟨ex1, e1, H1⟩, h1, h⟩ := h
    have := iha _ _ _ _ _ h1
    cases ex1 with
    | nrm => exact Nat.le_trans this (ihb _ _ _ _ _ h)
    | ret => cases h; exact this
    | exit id => cases h; exact this
  | cond c a b iha ihb =>
    intro e H ex e' H' h
    simp only [runC] at h
    split at h
    · exact iha _ _ _ _ _ h
    · exact ihb _ _ _ _ _ h
    · cases h
  | block id b ih =>
    intro e H ex e' H' h
    simp only [runC, Option.bind_eq_some_iff] at h
    obtain ⟨⟨ex1, e1, H1⟩, h1, h⟩ := h
    have := ih _ _ _ _ _ h1
    cases ex1 with
    | nrm => cases h; exact this
    | ret => cases h; exact this
    | exit j =>
      simp only at h
      split at h <;> (cases h; exact this)
  | loop keep b ih =>
    intro e H ex e' H' h
    simp only [runC] at h
    exact loopN_len (fun e H ex e' H' h => ih e H ex e' H' h) _ _ _ _ _ _ h
  | bad => intro e H ex e' H' h; simp [runC] at h

variable {P : Program}

theorem Goes.put {Q Q' : Exit → Act → World → Prop} {ex ex' : Exit} {K : Kp} {ro : Nat} {H H' : Hp} {e' : Env} {a : Act} {w : World} (h : Goes Q ex K ro H H' e' a w) (hq : ∀ a w, Q ex a w → Q' ex' a w) : Goes Q' ex' K ro H H' e' a w :=
  fun a' w' K' h1 h2 h3 h4 h5 h6 => hq _ _ (h a' w' K' h1 h2 h3 h4 h5 h6)

theorem Goes.after {Q : Exit → Act → World → Prop} {ex : Exit} {K K1 : Kp} {ro : Nat} {H H1 H' : Hp} {e' : Env} {a a1 : Act} {w w1 : World} (h : Goes Q ex K ro H H' e' a w) (hle : K.le K1) (hF : Fr K K1 ro H.length H1.length w w1) (hs : a1.tmps.size = a.tmps.size) (hd : a1.defers = a.defers) : Goes Q ex K1 ro H1 H' e' a1 w1 :=
  fun a' w' K' h1 h2 h3 h4 h5 h6 => h a' w' K' (Kp.le_trans hle h1) h2 h3 (hF.trans h4) (h5.trans hs) (h6.trans hd)

/-- The code is walked as the ideal machine runs it. -/
def Sim (P : Program) (cf : CallF) (ro n nt : Nat) (c : Code) (cd : Cd) : Prop :=
  ∀ (e : Env) (H : Hp) (ex : Ex) (e' : Env) (H' : Hp), runC cf ro n cd e H = some (ex, e', H') → ∀ (Q : Exit → Act → World → Prop) K a w, EnvOk K e a → Rel K ro H w → nt ≤ a.tmps.size → Goes Q (exOf ex) K ro H H' e' a w → c.wp P Q a w

theorem sim_loop {cf : CallF} {ro n nt : Nat} {c : Code} {cd : Cd} {keep : List Nat} (hS : Sim P cf ro n nt c cd) : ∀ (m : Nat) (e : Env) (H : Hp) (ex : Ex) (e' : Env) (H' : Hp), loopN (runC cf ro n cd) keep m e H = some (ex, e', H') →
    ∀ (Q : Exit → Act → World → Prop) K a w, EnvOk K e a → Rel K ro H w → nt ≤ a.tmps.size → Goes Q (exOf ex) K ro H H' e' a w → Code.rounds P c Q m a w
  | 0, e, H, ex, e', H', h => by simp [loopN] at h
  | m + 1, e, H, ex, e', H', h => by
    intro Q K a w he hR hnt hg
    simp only [loopN, Option.bind_eq_some_iff] at h
    obtain ⟨⟨ex1, e1, H1⟩, h1, h⟩ := h
    rw [rounds_succ]
    refine hS _ _ _ _ _ h1 _ K a w (he.keep keep) hR hnt ?_
    cases ex1 with
    | nrm =>
      intro a1 w1 K1 hle he1 hR1 hF hs hd
      exact sim_loop hS m _ _ _ _ _ h Q K1 a1 w1 he1 hR1 (by rw [hs]; exact hnt) (hg.after hle hF hs hd)
    | ret => cases h; exact hg.put fun _ _ h => h
    | exit id => cases h; exact hg.put fun _ _ h => h

theorem run_sim (hm : P.follows .mixedOrders = true) (hpr : PrOk P) {cf : CallF} (hcf : CallOk P cf) {ro n nt : Nat} : ∀ (c : Code) (an an' : Ann) (cd : Cd), cCode P nt c an = some (cd, an') → Sim P cf ro n nt c cd := by
  intro c
  induction c with
  | skip =>
    intro an an' cd hc e H ex e' H' h Q K a w he hR hnt hg
    simp only [cCode, Option.some.injEq, Prod.mk.injEq] at hc
    obtain ⟨rfl, rfl⟩ := hc
    simp only [runC] at h; cases h
    exact wp_skip (hg a w K K.le_refl he hR (Fr.refl _ _ _ _) rfl rfl)
  | ret =>
    intro an an' cd hc e H ex e' H' h Q K a w he hR hnt hg
    simp only [cCode, Option.some.injEq, Prod.mk.injEq] at hc
    obtain ⟨rfl, rfl⟩ := hc
    simp only [runC] at h; cases h
    exact wp_ret (hg a w K K.le_refl he hR (Fr.refl _ _ _ _) rfl rfl)
  | exit id =>
    intro an an' cd hc e H ex e' H' h Q K a w he hR hnt hg
    simp only [cCode, Option.some.injEq, Prod.mk.injEq] at hc
    obtain ⟨rfl, rfl⟩ := hc
    simp only [runC] at h; cases h
    exact wp_exit (hg a w K K.le_refl he hR (Fr.refl _ _ _ _) rfl rfl)
  | region id ops draw =>
    intro an an' cd hc e H ex e' H' h Q K a w he hR hnt hg
    simp only [cCode] at hc
    cases hreg : cRegion P nt ops draw an with
    | none => rw [hreg] at hc; cases hc; simp [runC] at h
    | some r =>
    rw [hreg] at hc
    cases hc
    have hc := hreg
    simp only [cRegion] at hc
    have keepG : ∀ {e1 keep}, e' = keepE keep e1 → ex = .nrm → Goes Q .normal K ro H H' e1 a w := by
      intro e1 keep h1 h2
      subst h1 h2
      intro a' w' K' g1 g2 g3 g4 g5 g6
      exact hg a' w' K' g1 (g2.keep keep) g3 g4 g5 g6
    cases draw with
    | true =>
      simp only [if_true, Option.bind_eq_some_iff, forceN_eq] at hc
      obtain ⟨⟨r0, an0⟩, _, ⟨rs, an1⟩, hrs, hc⟩ := hc
      split at hc
      · rename_i hany
        split at hc
        · rename_i keep an2 _
          split at hc
          · rename_i hno
            cases hc
            simp only [runC, Option.bind_eq_some_iff] at h
            obtain ⟨⟨e1, H1⟩, h1, h⟩ := h
            simp only [Option.some.injEq, Prod.mk.injEq] at h
            obtain ⟨rfl, rfl, rfl⟩ := h
            exact region_any hm hpr hcf hrs hany.2 hno h1 he hR hnt (keepG rfl rfl)
          · split at hc
            · rename_i hrob
              simp only [Bool.and_eq_true] at hrob
              cases hc
              simp only [runC, Option.bind_eq_some_iff] at h
              obtain ⟨bl, hbl, ⟨e1, H1⟩, h1, h⟩ := h
              simp only [Option.some.injEq, Prod.mk.injEq] at h
              obtain ⟨rfl, rfl, rfl⟩ := h
              exact region_rob hm hpr hcf hrs hany.2 hrob.1 hrob.2 hbl h1 he hR hnt (keepG rfl rfl)
            · cases hc
        · cases hc
      · cases hc
    | false =>
      simp only [Bool.false_eq_true, if_false, Option.bind_eq_some_iff] at hc
      obtain ⟨⟨rs, an1⟩, hrs, hc⟩ := hc
      split at hc
      · rename_i keep an2 _
        cases hc
        simp only [runC, Option.bind_eq_some_iff] at h
        obtain ⟨⟨e1, H1⟩, h1, h⟩ := h
        simp only [Option.some.injEq, Prod.mk.injEq] at h
        obtain ⟨rfl, rfl, rfl⟩ := h
        exact wp_region_list (list_sim hpr hcf _ _ _ _ _ hrs _ _ _ _ h1 K a w he hR hnt (keepG rfl rfl))
      · cases hc
  | seq x y ihx ihy =>
    intro an an' cd hc e H ex e' H' h Q K a w he hR hnt hg
    simp only [cCode, Option.bind_eq_some_iff, Option.some.injEq, Prod.mk.injEq] at hc
    obtain ⟨⟨cx, an1⟩, hx, ⟨cy, an2⟩, hy, rfl, rfl⟩ := hc
    simp only [runC, Option.bind_eq_some_iff] at h
    obtain ⟨⟨ex1, e1, H1⟩, h1, h⟩ := h
    refine wp_seq (ihx _ _ _ hx _ _ _ _ _ h1 _ K a w he hR hnt ?_)
    cases ex1 with
    | nrm =>
      intro a1 w1 K1 hle he1 hR1 hF hs hd
      exact ihy _ _ _ hy _ _ _ _ _ h Q K1 a1 w1 he1 hR1 (by rw [hs]; exact hnt) (hg.after hle hF hs hd)
    | ret => cases h; exact hg.put fun _ _ h => h
    | exit id => cases h; exact hg.put fun _ _ h => h
  | cond c x y ihx ihy =>
    intro an an' cd hc e H ex e' H' h Q K a w he hR hnt hg
    simp only [cCode, Option.bind_eq_some_iff, Option.some.injEq, Prod.mk.injEq] at hc
    obtain ⟨c', hc', ⟨cx, an1⟩, hx, ⟨cy, an2⟩, hy, rfl, rfl⟩ := hc
    simp only [runC] at h
    split at h
    · rename_i hb
      have hv := he.ev hc'
      rw [hb] at hv
      exact wp_cond_true hv.bool_inv (ihx _ _ _ hx _ _ _ _ _ h Q K a w he hR hnt hg)
    · rename_i hb
      have hv := he.ev hc'
      rw [hb] at hv
      exact wp_cond_false hv.bool_inv (ihy _ _ _ hy _ _ _ _ _ h Q K a w he hR hnt hg)
    · cases h
  | block id b ih =>
    intro an an' cd hc e H ex e' H' h Q K a w he hR hnt hg
    simp only [cCode, Option.bind_eq_some_iff, Option.some.injEq, Prod.mk.injEq] at hc
    obtain ⟨⟨cb, an1⟩, hb, rfl, rfl⟩ := hc
    simp only [runC, Option.bind_eq_some_iff] at h
    obtain ⟨⟨ex1, e1, H1⟩, h1, h⟩ := h
    refine wp_block (ih _ _ _ hb _ _ _ _ _ h1 _ K a w he hR hnt ?_)
    cases ex1 with
    | nrm => cases h; exact hg.put fun _ _ h => h
    | ret => cases h; exact hg.put fun _ _ h => h
    | exit j =>
      simp only at h
      split at h
      · rename_i hj
        cases h
        refine hg.put fun a w h => ?_
        simp only [exOf, Exit.inBlock, hj, if_true] at h ⊢
        exact h
      · rename_i hj
        cases h
        refine hg.put fun a w h => ?_
        simp only [exOf, Exit.inBlock, hj, if_false] at h ⊢
        exact h
  | loop b ih =>
    intro an an' cd hc e H ex e' H' h Q K a w he hR hnt hg
    simp only [cCode] at hc
    split at hc
    · simp only [Option.bind_eq_some_iff, Option.some.injEq, Prod.mk.injEq] at hc
      obtain ⟨⟨cb, an1⟩, hb, rfl, rfl⟩ := hc
      simp only [runC] at h
      exact wp_loop_rounds n (sim_loop (ih _ _ _ hb) n _ _ _ _ _ h Q K a w he hR hnt hg)
    · cases hc
  | _ =>
    intro an an' cd hc e H ex e' H' h
    simp only [cCode, Option.some.injEq, Prod.mk.injEq] at hc
    obtain ⟨rfl, rfl⟩ := hc
    simp [runC] at h

/-! ### Results -/

def resF (a : Act) : ResultVar → Sem Value
  | .tmp t => pure (a.tmps.getD t undef)
  | .cell c t => do loadVar t (← asAddr (a.tmps.getD c undef))

theorem res1_sim {K : Kp} {ro : Nat} {H : Hp} {e : Env} {a : Act} {w : World} (he : EnvOk K e a) (hR : Rel K ro H w) {r : ResultVar} {rv : RV} (hc : cRes P r = some rv) {x : IV} (h : resV e H rv = some x) :
    ∃ v, (resF a r).run P w = .ok v w ∧ VR K x v := by
  cases r with
  | tmp t =>
    simp only [cRes, Option.some.injEq] at hc
    subst hc
    simp only [resV, Option.some.injEq] at h
    subst h
    exact ⟨_, by simp [resF], he t⟩
  | cell c t =>
    simp only [cRes, Option.bind_eq_some_iff] at hc
    obtain ⟨n, hs, ag, ha, hc⟩ := hc
    split at hc
    · simp only [Option.some.injEq] at hc
      subst hc
      simp only [resV, Option.bind_eq_some_iff] at h
      obtain ⟨cs, hr, hv⟩ := h
      obtain ⟨hl, b, o, us, hp, hcells⟩ := rd_sim hR (he c) hr
      obtain ⟨v, hrun, hvr⟩ := run_loadVar (P := P) hs ha hcells hl hv
      refine ⟨v, ?_, hvr⟩
      simp only [resF, hp]
      simp [asAddr, hrun]
    · cases hc

theorem res_sim {K : Kp} {ro : Nat} {H : Hp} {e : Env} {a : Act} {w : World} (he : EnvOk K e a) (hR : Rel K ro H w) {fn : Func} {rs : List RV} (hc : mapO (cRes P) fn.results.toList = some rs) {x : IV} (h : resL e H rs = some x) :
    ∃ v, (results fn a.tmps).run P w = .ok v w ∧ VR K x v := by
  simp only [resL, Option.bind_eq_some_iff] at h
  obtain ⟨xs, hxs, h⟩ := h
  obtain ⟨hl1, hi1⟩ := mapO_some hc
  obtain ⟨hl2, hi2⟩ := mapO_some hxs
  have hall : ∀ (l : List ResultVar) (ys : List IV), l.length = ys.length → (∀ (i : Nat) (r : ResultVar) (y : IV), l[i]? = some r → ys[i]? = some y → ∃ rv, cRes P r = some rv ∧ resV e H rv = some y) →
      ∃ vs : List Value, (l.mapM (resF a)).run P w = .ok vs w ∧ vs.length = ys.length ∧ ∀ (i : Nat) (y : IV) (v : Value), ys[i]? = some y → vs[i]? = some v → VR K y v := by
    intro l
    induction l with
    | nil =>
      intro ys hl _
      cases ys with
      | nil => exact ⟨[], by simp, rfl, fun i y v h => by simp at h⟩
      | cons _ _ => simp at hl
    | cons r l ih =>
      intro ys hl hp
      cases ys with
      | nil => simp at hl
      | cons y ys =>
        obtain ⟨rv, h1, h2⟩ := hp 0 r y rfl rfl
        obtain ⟨v, hv, hvr⟩ := res1_sim he hR h1 h2
        obtain ⟨vs, hvs, hvl, hvi⟩ := ih ys (by simpa using hl) fun i r y hr hy => hp (i + 1) r y (by simpa using hr) (by simpa using hy)
        refine ⟨v :: vs, ?_, by simp [hvl], fun i y' v' hy hv' => ?_⟩
        · simp [List.mapM_cons, hv, hvs]
        · cases i with
          | zero => simp at hy hv'; subst hy hv'; exact hvr
          | succ i => exact hvi i y' v' (by simpa using hy) (by simpa using hv')
  obtain ⟨vs, hrun, hvl, hvi⟩ := hall fn.results.toList xs (by omega) fun i r y hr hy => by
    have hlt : i < rs.length := by
      have := (List.getElem?_eq_some_iff.1 hr).1; omega
    have hrs : rs[i]? = some rs[i] := List.getElem?_eq_getElem hlt
    exact ⟨rs[i], hi1 i r _ hr hrs, hi2 i _ y hrs hy⟩
  have hres : (results fn a.tmps).run P w = .ok (if h : vs.toArray.size = 1 then vs.toArray[0] else .tuple vs.toArray) w := by
    have e : (fn.results.mapM (resF a)).run P w = .ok vs.toArray w := by
      rw [Array.mapM_eq_mapM_toList]
      simp [hrun]
    have e2 : (results fn a.tmps).run P w = ((fn.results.mapM (resF a)).run P w).andThen fun vs w => .ok (if h : vs.size = 1 then vs[0] else .tuple vs) w := by
      unfold results
      rw [Sem.run_bind]
      rfl
    rw [e2, e]
    rfl
  refine ⟨_, hres, ?_⟩
  split at h
  · rename_i y
    simp only [Option.some.injEq] at h; subst h
    obtain ⟨v, rfl⟩ := List.length_eq_one_iff.1 (show vs.length = 1 from hvl)
    exact hvi 0 y v rfl rfl
  · rename_i hne
    simp only [Option.some.injEq] at h; subst h
    have : ¬ vs.toArray.size = 1 := by
      intro h1
      have h1' : xs.length = 1 := by simpa [hvl] using h1
      obtain ⟨y, rfl⟩ := List.length_eq_one_iff.1 h1'
      exact hne y rfl
    rw [dif_neg this]
    exact .tup _ _ _ (by simp [hvl]) fun i x y h1 h2 => hvi i x y h1 (by simpa using h2)

/-! ### Calls -/

theorem get_parE : ∀ (l : List IV) (k t : Nat), get (parE k l) t = if k ≤ t then (l[t - k]?).getD .und else .und
  | [], k, t => by simp [parE, get]
  | v :: l, k, t => by
    simp only [parE, get]
    by_cases h : k = t
    · subst h; simp
    · rw [if_neg h, get_parE l (k + 1) t]
      by_cases h2 : k + 1 ≤ t
      · rw [if_pos h2, if_pos (by omega)]
        rw [show t - k = (t - (k + 1)) + 1 by omega]
        simp
      · rw [if_neg h2, if_neg (by omega)]

theorem EnvOk.enter {K : Kp} {args : List IV} {vs : Array Value} (h : ArgsOk K args vs) (n : Nat) (ds : List Deferred) : EnvOk K (parE 0 args) { tmps := vs ++ Array.replicate n undef, defers := ds } := by
  intro t
  rw [get_parE]
  simp only [Nat.zero_le, if_true, Nat.sub_zero]
  cases ht : args[t]? with
  | none => exact .und _ _
  | some x =>
    have hlt : t < vs.size := by rw [h.1]; exact (List.getElem?_eq_some_iff.1 ht).1
    have hv : vs[t]? = some vs[t] := Array.getElem?_eq_getElem hlt
    simp only [Option.getD_some]
    rw [Array.getD_eq_getD_getElem?, Array.getElem?_append_left hlt, hv]
    exact h.2 t x _ ht hv

/-- A function by what it does: its text here is not its own, but comes to the same. -/
def SpecFn (P : Program) (f : Nat) (fn : Fn) : Prop := ∀ (cf : CallF) (ro n : Nat) (args : List IV) (H : Hp) (x : IV) (H' : Hp), args.length = fn.np →
  ((runC cf ro n fn.cd (parE 0 args) H).bind fun r => match r with
    | (.exit _, _, _) => none
    | (_, e, H') => (resL e H' fn.res).bind fun v => some (v, H')) = some (x, H') →
  H.length ≤ H'.length ∧ hasBody P f = true ∧ ∀ K w vs, Rel K ro H w → ArgsOk K args vs → Calls P f vs w fun e w' => ∃ v, e = .returned v ∧ Step K ro H w H' w' x v

/-- The ideal program is the model's. -/
def PgOk (P : Program) (pg : Pg) : Prop := ∀ f fn, pg f = some fn → (∃ func an, P.funcs[f]? = some func ∧ func.name ≠ "runtime.NumGoroutine" ∧ cFn P an func = some fn) ∨ SpecFn P f fn

theorem callN_ok (hm : P.follows .mixedOrders = true) (hpr : PrOk P) {pg : Pg} (hpg : PgOk P pg) : ∀ n, CallOk P (callN pg n)
  | 0 => fun ro f args H x H' h => by simp [callN] at h
  | n + 1 => fun ro f args H x H' h => by
    have ih := callN_ok hm hpr hpg n
    simp only [callN, Option.bind_eq_some_iff] at h
    obtain ⟨fn, hfn, h⟩ := h
    split at h
    · rename_i hnp
      rcases hpg f fn hfn with ⟨func, an, hf, hname, hc⟩ | hsp
      rotate_left
      · exact hsp _ _ _ _ _ _ _ hnp h
      simp only [Option.bind_eq_some_iff] at h
      obtain ⟨⟨ex, e1, H1⟩, hrun, h⟩ := h
      simp only [cFn, Option.bind_eq_some_iff, Option.some.injEq] at hc
      obtain ⟨code, hbody, ⟨cd, an'⟩, hcode, rs, hrs, rfl⟩ := hc
      have hlen := runC_len ih _ _ _ _ _ _ hrun
      have hbd : hasBody P f = true := by
        simp [hasBody, hf, hbody, hname]
      have main : ∀ ex', (ex' = Exit.normal ∨ ex' = Exit.ret) → exOf ex = ex' → (resL e1 H1 rs = some x ∧ H1 = H') → H.length ≤ H'.length ∧ hasBody P f = true ∧ ∀ K w vs, Rel K ro H w → ArgsOk K args vs → Calls P f vs w fun e w' => ∃ v, e = .returned v ∧ Step K ro H w H' w' x v := by
        rintro ex' hex' hex ⟨hres, rfl⟩
        refine ⟨hlen, hbd, fun K w vs hR hargs => calls_of_wp hf hbody ?_⟩
        refine run_sim hm hpr ih code _ _ _ hcode _ _ _ _ _ hrun _ K _ w (EnvOk.enter hargs _ _) hR (by simp; omega) ?_
        intro a' w' K' hle he hR' hF _ hd
        obtain ⟨v, hv, hvr⟩ := res_sim he hR' hrs hres
        rw [hex]
        rcases hex' with rfl | rfl
        · exact ⟨hd, v, hv, v, rfl, K', hle, hR', hvr, hF⟩
        · exact ⟨hd, v, hv, v, rfl, K', hle, hR', hvr, hF⟩
      cases ex with
      | nrm =>
        simp only [Option.bind_eq_some_iff, Option.some.injEq, Prod.mk.injEq] at h
        obtain ⟨v, hv, rfl, rfl⟩ := h
        exact main _ (.inl rfl) rfl ⟨hv, rfl⟩
      | ret =>
        simp only [Option.bind_eq_some_iff, Option.some.injEq, Prod.mk.injEq] at h
        obtain ⟨v, hv, rfl, rfl⟩ := h
        exact main _ (.inr rfl) rfl ⟨hv, rfl⟩
      | exit id => cases h
    · cases h

end Go.Vs
