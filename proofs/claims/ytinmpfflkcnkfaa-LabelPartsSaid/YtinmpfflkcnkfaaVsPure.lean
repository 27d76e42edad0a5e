/- Calls: entered; those that leave the heap as it is. -/
import Derived.Test.YtinmpfflkcnkfaaVsFrz
namespace Go.Vs
open Go Go.RowKit

def ArgsOk (K : Kp) (xs : List IV) (vs : Array Value) : Prop := vs.size = xs.length ∧ ∀ (i : Nat) (x : IV) (y : Value), xs[i]? = some x → vs[i]? = some y → VR K x y

theorem ArgsOk.mono {K K' : Kp} {xs : List IV} {vs : Array Value} (h : ArgsOk K xs vs) (hK : K.le K') : ArgsOk K' xs vs := ⟨h.1, fun i x y h1 h2 => (h.2 i x y h1 h2).mono hK⟩

/-- A call comes back. -/
def CallOk (P : Program) (cf : CallF) : Prop := ∀ ro f args H x H', cf ro f args H = some (x, H') → H.length ≤ H'.length ∧ hasBody P f = true ∧
  ∀ K w vs, Rel K ro H w → ArgsOk K args vs → Calls P f vs w fun e w' => ∃ v, e = .returned v ∧ Step K ro H w H' w' x v

theorem Quiet.le {K K' : Kp} {w w' : World} (h : Quiet K K' w w') : K.le K' := ⟨fun b L hb => ⟨L, by rw [h.rho]; exact hb, Nat.le_refl _, fun _ => rfl⟩, h.kap⟩

theorem Quiet.refl {K : Kp} {ro : Nat} {H : Hp} {w : World} (hR : Rel K ro H w) : Quiet K K w w := ⟨rfl, fun _ _ _ h => h, hR.claim, fun _ _ h => .inl h, Below.refl _ _⟩

theorem Quiet.rel {K K' : Kp} {w w' : World} (h : Quiet K K' w w') {ro : Nat} {H : Hp} (hR : Rel K ro H w) : Rel K' ro H w' := by
  refine ⟨fun b L hb => ?_, fun b b' L L' hb hb' => hR.inj b b' L L' (by rw [← h.rho]; exact hb) (by rw [← h.rho]; exact hb'), h.claim, fun b L B hb hB hr hf i hi => ?_, hR.low⟩
  · rw [h.rho] at hb
    obtain ⟨B, hB, ok⟩ := hR.blk b L hb
    exact ⟨B, hB, (ok.mono h.le).world (h.bel.block _ ok.lt) h.bel.size⟩
  · rw [h.rho] at hb
    cases hc : K'.κ L.blk i with
    | none => rfl
    | some v =>
      rcases h.fresh L.blk i (by rw [hc]; simp) with h1 | h1
      · exact absurd (hR.own b L B hb hB hr hf i hi) h1
      · obtain ⟨B', _, ok⟩ := hR.blk b L hb
        have := ok.lt; omega

theorem Quiet.fr {K K' : Kp} {w w' : World} (h : Quiet K K' w w') (ro hl : Nat) : Fr K K' ro hl hl w w' := by
  refine ⟨h.bel.mono (Nat.zero_le _), Nat.le_refl _, fun k hk _ => h.bel.block k hk, fun k i hc => ?_, fun b L' hb => .inr ⟨L', by rw [← h.rho]; exact hb, rfl⟩, fun b _ hb => by rw [h.rho]; exact hb, fun b _ => by rw [h.rho]⟩
  rcases h.fresh k i hc with h1 | h1
  · exact .inl h1
  · exact .inr (.inl h1)

theorem markF_spec {ro : Nat} : ∀ {S : List Nat} {H H' : Hp}, markF ro S H = some H' → H'.length = H.length ∧ (∀ s ∈ S, ro ≤ s) ∧ (∀ s ∈ S, ∀ B, H'[s]? = some B → B.frz = true) ∧
    ∀ (b : Nat) (B' : Bk), H'[b]? = some B' → ∃ B, H[b]? = some B ∧ B'.rows = B.rows ∧ B'.gen = B.gen ∧ (B.frz = true → B'.frz = true) ∧ B'.ty = B.ty
  | [], H, H', h => by
    simp only [markF, Option.some.injEq] at h
    subst h
    exact ⟨rfl, by simp, by simp, fun b B' h => ⟨B', h, rfl, rfl, fun h => h, rfl⟩⟩
  | s :: S, H, H', h => by
    simp only [markF] at h
    split at h
    · rename_i hr
      split at h
      · rename_i B hB
        obtain ⟨h1, h2, h3, h4⟩ := markF_spec h
        have hlt := (List.getElem?_eq_some_iff.1 hB).1
        refine ⟨by simpa using h1, fun x hx => ?_, fun x hx B' hB' => ?_, fun b B' hB' => ?_⟩
        · rcases List.mem_cons.1 hx with rfl | hx
          · exact hr
          · exact h2 x hx
        · rcases List.mem_cons.1 hx with rfl | hx
          · obtain ⟨B1, hB1, _, _, e3, _⟩ := h4 _ B' hB'
            rw [List.getElem?_set_self hlt] at hB1
            cases hB1
            exact e3 rfl
          · exact h3 x hx B' hB'
        · obtain ⟨B1, hB1, e1, e2, e3, e4⟩ := h4 b B' hB'
          by_cases hb : s = b
          · subst hb
            rw [List.getElem?_set_self hlt] at hB1
            cases hB1
            exact ⟨B, hB, e1, e2, fun _ => e3 rfl, e4⟩
          · rw [List.getElem?_set_ne hb] at hB1
            exact ⟨B1, hB1, e1, e2, e3, e4⟩
      · cases h
    · cases h

theorem markF_all {ro : Nat} {S : List Nat} {H H' : Hp} (h : markF ro S H = some H') (b : Nat) (B : Bk) (hB : H[b]? = some B) : ∃ B', H'[b]? = some B' ∧ B'.rows = B.rows ∧ B'.gen = B.gen ∧ B'.ty = B.ty := by
  obtain ⟨h1, _, _, h4⟩ := markF_spec h
  have hlt := (List.getElem?_eq_some_iff.1 hB).1
  have hB' : H'[b]? = some H'[b] := List.getElem?_eq_getElem (by omega)
  obtain ⟨B1, hB1, e1, e2, _, e4⟩ := h4 b _ hB'
  rw [hB] at hB1; cases hB1
  exact ⟨_, hB', e1, e2, e4⟩

theorem callP_sim {P : Program} {cf : CallF} (hcf : CallOk P cf) {ro : Nat} {st : Bool} {f : Nat} {args : List IV} {H H' : Hp} {x : IV} (h : callP cf ro st f args H = some (x, H')) :
    H.length ≤ H'.length ∧ hasBody P f = true ∧ (st = true → H' = H) ∧ ∀ K w vs, Rel K ro H w → ArgsOk K args vs → Calls P f vs w fun e w' => ∃ v, e = .returned v ∧
      Step K ro H w H' w' x v ∧ (st = true → ∃ K', Quiet K K' w w' ∧ VR K' x v) := by
  simp only [callP, Option.bind_eq_some_iff] at h
  obtain ⟨⟨r1, H2⟩, hcall, v1, hfrz, h⟩ := h
  simp only at hfrz h
  obtain ⟨hlen2, hb, hcalls⟩ := hcf _ _ _ _ _ _ hcall
  have hH : H.length ≤ H'.length ∧ (st = true → H' = H) := by
    split at h
    · cases h; exact ⟨Nat.le_refl _, fun _ => rfl⟩
    · split at h
      · split at h
        · cases h; exact ⟨Nat.le_refl _, fun _ => rfl⟩
        · cases h
      · rename_i hst
        simp only [Option.bind_eq_some_iff, Option.some.injEq, Prod.mk.injEq] at h
        obtain ⟨H3, hm, _, rfl⟩ := h
        exact ⟨by rw [(markF_spec hm).1]; exact Nat.le_refl _, fun h => absurd h hst⟩
  refine ⟨hH.1, hb, hH.2, fun K w vs hR hargs => ?_⟩
  have hR' := hR.sealed (· ∈ args.flatMap (blks frzD H))
  have hargs' : ArgsOk (K.seal w (· ∈ args.flatMap (blks frzD H))) (args.map (frzArg H)) vs := by
    refine ⟨by simp [hargs.1], fun i x y hx hy => ?_⟩
    rw [List.getElem?_map] at hx
    cases hai : args[i]? with
    | none => simp [hai] at hx
    | some a0 =>
      simp [hai] at hx; subst hx
      have hv := hargs.2 i a0 y hai hy
      unfold frzArg
      cases hz : frz0 frzD H a0 with
      | none => exact hv.mono (K.le_seal _ _)
      | some z =>
        refine (frz0_sim hR frzD a0 z y hz hv (fun b hb => ?_)).mono (Kp.bare_le _)
        exact List.mem_flatMap.2 ⟨a0, List.mem_of_getElem? hai, hb⟩
  refine Calls.mono (hcalls _ _ _ hR' hargs') (fun e w' he => ?_)
  obtain ⟨v, rfl, K1, hle1, hR1, hv1, hF1⟩ := he
  refine ⟨v, rfl, ?_⟩
  have hx1 := frz_sim hR1 frzD _ _ _ hfrz hv1
  -- the places are as before
  have hrho : ((K1.seal w' (H.length ≤ ·)).cut H.length).ρ = K.ρ := by
    funext b
    simp only [Kp.cut, Kp.seal]
    split
    · rename_i hb; exact hF1.low b hb
    · rename_i hb; exact (hR.out (by omega)).symm
  have hnone : ∀ b, H.length ≤ b → (K.seal w (· ∈ args.flatMap (blks frzD H))).ρ b = none := fun b hb => hR.out hb
  have hbel : Below w.heap.size w w' := ⟨hF1.bel.os, hF1.bel.tape, hF1.bel.output, hF1.bel.size, fun k hk => hF1.keep k hk (fun b L hb hL => by rw [hnone b hb] at hL; cases hL)⟩
  have hkap : ∀ b i v, K.κ b i = some v → (K1.seal w' (H.length ≤ ·)).κ b i = some v := fun b i v h => (K1.le_seal _ _).2 _ _ _ (hle1.2 _ _ _ ((K.le_seal _ _).2 _ _ _ h))
  have hclaim : ∀ b i v, (K1.seal w' (H.length ≤ ·)).κ b i = some v → w'.cell? (ad b i) = some v ∧ v.oneCell' = true := fun b i v h => Kp.seal_claim hR1 _ h
  have horig : ∀ b i, (K1.seal w' (H.length ≤ ·)).κ b i ≠ none → K.κ b i ≠ none ∨ (∃ s L, s ∈ args.flatMap (blks frzD H) ∧ K.ρ s = some L ∧ L.blk = b) ∨ w.heap.size ≤ b := by
    intro b i hne
    obtain ⟨u, hu⟩ := Option.ne_none_iff_exists'.1 hne
    rcases Kp.seal_some hu with h1 | ⟨⟨x, L, hx, hL, rfl, _, _⟩, _⟩
    · rcases hF1.claim b i (by rw [h1]; simp) with h2 | h2 | ⟨b', L, hb', hL, _⟩
      · obtain ⟨u', hu'⟩ := Option.ne_none_iff_exists'.1 h2
        rcases Kp.seal_some hu' with h3 | ⟨⟨s, L, hs, hL, e, _, _⟩, _⟩
        · exact .inl (by rw [h3]; simp)
        · exact .inr (.inl ⟨s, L, hs, hL, e⟩)
      · exact .inr (.inr h2)
      · rw [hnone b' hb'] at hL; cases hL
    · rcases hF1.loc x L hL with h2 | ⟨L0, h0, _⟩
      · exact .inr (.inr h2)
      · rw [hnone x hx] at h0; cases h0
  have hx2 : VR ⟨K.ρ, (K1.seal w' (H.length ≤ ·)).κ⟩ v1 v := by rw [← hrho]; exact hx1
  have quietStep : ∀ {K'}, Quiet K K' w w' → VR K' x v → Step K ro H w H w' x v := fun hq hvq => ⟨_, hq.le, hq.rel hR, hvq, hq.fr ro H.length⟩
  split at h
  · rename_i hfl
    cases h
    have hq : Quiet K K w w' := ⟨rfl, fun _ _ _ h => h, fun b i v h => hclaim b i v (hkap b i v h), fun _ _ h => .inl h, hbel⟩
    have hvq : VR K x v := hx2.flat hfl K.κ
    exact ⟨quietStep hq hvq, fun _ => ⟨K, hq, hvq⟩⟩
  · split at h
    · split at h
      · rename_i hS
        cases h
        have hq : Quiet K ⟨K.ρ, (K1.seal w' (H.length ≤ ·)).κ⟩ w w' := by
          refine ⟨rfl, hkap, hclaim, fun b i hc => ?_, hbel⟩
          rcases horig b i hc with h1 | ⟨s, L, hs, _⟩ | h1
          · exact .inl h1
          · rw [hS] at hs; cases hs
          · exact .inr h1
        exact ⟨quietStep hq hx2, fun _ => ⟨_, hq, hx2⟩⟩
      · cases h
    · rename_i hst
      simp only [Option.bind_eq_some_iff, Option.some.injEq, Prod.mk.injEq] at h
      obtain ⟨H3, hm, rfl, rfl⟩ := h
      obtain ⟨m1, m2, m3, m4⟩ := markF_spec hm
      have hle2 : K.le ⟨K.ρ, (K1.seal w' (H.length ≤ ·)).κ⟩ := ⟨fun b L hb => ⟨L, hb, Nat.le_refl _, fun _ => rfl⟩, hkap⟩
      refine ⟨⟨⟨K.ρ, (K1.seal w' (H.length ≤ ·)).κ⟩, hle2, ⟨fun b L hb => ?_, hR.inj, hclaim, fun b L B hb hB hr hf i hi => ?_, by rw [m1]; exact hR.low⟩, hx2, ?_⟩, fun h => absurd h hst⟩
      · obtain ⟨B, hB, ok⟩ := hR.blk b L hb
        obtain ⟨B', hB', e1, e2, e4⟩ := markF_all hm b B hB
        refine ⟨B', hB', ?_⟩
        have ok' := (ok.mono hle2).world (hbel.block _ ok.lt) hbel.size
        exact ⟨by rw [e2]; exact ok'.gen, ok'.lt, by rw [e1]; exact ok'.len, by rw [e1]; exact ok'.fit, ok'.there, ok'.soft, by rw [e1]; exact ok'.cell, by rw [e4]; exact ok'.ety⟩
      · obtain ⟨B0, hB0, _, _, e3, _⟩ := m4 b B hB
        have hf0 : B0.frz = false := by
          cases h : B0.frz with
          | false => rfl
          | true => rw [e3 h] at hf; cases hf
        cases hc : (K1.seal w' (H.length ≤ ·)).κ L.blk i with
        | none => rfl
        | some u =>
          rcases horig L.blk i (by rw [hc]; simp) with h1 | ⟨s, L', hs, hL', e⟩ | h1
          · exact absurd (hR.own b L B0 hb hB0 hr hf0 i hi) h1
          · obtain rfl := hR.inj _ _ _ _ hL' hb e
            rw [m3 _ hs B hB] at hf; cases hf
          · obtain ⟨B', _, ok⟩ := hR.blk b L hb
            have := ok.lt; omega
      · refine ⟨hbel.mono (Nat.zero_le _), by rw [m1]; exact Nat.le_refl _, fun k hk _ => hbel.block k hk, fun k i hc => ?_, fun b L' hb => .inr ⟨L', hb, rfl⟩, fun b _ hb => hb, fun b _ => rfl⟩
        rcases horig k i hc with h1 | ⟨s, L', hs, hL', e⟩ | h1
        · exact .inl h1
        · exact .inr (.inr ⟨s, L', m2 s hs, hL', e⟩)
        · exact .inr (.inl h1)

/-! ### Entering -/

theorem run_enter {P : Program} {f : Nat} (hb : hasBody P f = true) (vs : Array Value) (w : World) : (callFunc f vs).run P w = .ok (.enter f vs) w := by
  unfold hasBody at hb
  split at hb
  · rename_i fn hf
    simp only [Bool.and_eq_true, Bool.not_eq_true'] at hb
    obtain ⟨h1, h2⟩ := hb
    have h3 : fn.body ≠ none := by intro h; simp [h] at h1
    have h2' : fn.name ≠ "runtime.NumGoroutine" := by simpa using h2
    simp [callFunc, hf, h2', h3]
  · cases hb

theorem args_ok {K : Kp} {e : Env} {a : Act} (he : EnvOk K e a) {xs : Array Operand} {as : List Opd} (hs : cOpds xs.toList = some as) {caps : List IV} {us : Array Value} (hl : us.size = caps.length) (hv : ∀ (i : Nat) (x : IV) (y : Value), caps[i]? = some x → us[i]? = some y → VR K x y) :
    ArgsOk K (as.map (ev e) ++ caps) (xs.map a.eval ++ us) := by
  obtain ⟨h1, h2⟩ := mapO_some hs
  have h1' : as.length = xs.size := by simpa using h1
  refine ⟨by simp [hl, h1'], fun i x y hx hy => ?_⟩
  by_cases hi : i < as.length
  · rw [List.getElem?_append_left (by simpa using hi), List.getElem?_map] at hx
    rw [Array.getElem?_append_left (by simp; omega), Array.getElem?_map] at hy
    have hxs : xs[i]? = some xs[i] := Array.getElem?_eq_getElem (by omega)
    have has : as[i]? = some as[i] := List.getElem?_eq_getElem hi
    rw [has] at hx; rw [hxs] at hy
    simp at hx hy
    subst hx hy
    exact he.ev (h2 i _ _ (by simp) has)
  · rw [List.getElem?_append_right (by simp; omega)] at hx
    rw [Array.getElem?_append_right (by simp; omega)] at hy
    simp at hx hy
    rw [← h1'] at hy
    exact hv _ _ _ hx hy

theorem call_enter {P : Program} {K : Kp} {e : Env} {a : Act} {o : Oper} {im : Bool} {m m' : Nat} {fo : Opd} {as : List Opd} (hi : isCall o.op = true) (hc : cOp P im m o.op = some (.call m' fo as)) (he : EnvOk K e a) {f : Nat} {caps : List IV} (hf : ev e fo = .fn f caps) (hb : hasBody P f = true) :
    ∃ vs, (∀ w, (execOp a.eval o).run P w = .ok (.enter f vs) w) ∧ ArgsOk K (as.map (ev e) ++ caps) vs := by
  cases hop : o.op with
  | call c =>
    obtain ⟨callee, args, ats⟩ := c
    simp only [hop, cOp, cCall, Option.bind_eq_some_iff] at hc
    obtain ⟨as', has, hc⟩ := hc
    have main : ∀ g, callee = .value g → cOpd g = some fo → as' = as → ∃ vs, (∀ w, (execOp a.eval o).run P w = .ok (.enter f vs) w) ∧ ArgsOk K (as.map (ev e) ++ caps) vs := by
      intro g hg hgo has'
      subst hg has'
      have hv := he.ev hgo
      rw [hf] at hv
      obtain ⟨us, hgv, hl, hvs⟩ := hv.fn_inv
      refine ⟨args.map a.eval ++ us, fun w => ?_, args_ok he has hl hvs⟩
      simp [execOp, hop, resolve, Deferred.ofValue, hgv, invoke, run_enter hb]
    cases callee with
    | value g =>
      cases g with
      | func g =>
        simp only at hc
        split at hc
        · rename_i fn hfn
          split at hc
          · cases hc
          · split at hc
            · cases hc; exact main _ rfl rfl rfl
            · split at hc
              · cases hp : prOf fn.name <;> rw [hp] at hc <;> cases hc
              · cases hc
        · cases hc
      | tmp t => simp [cOpd] at hc; exact main _ rfl (by simp [cOpd]; exact hc.2.1) hc.2.2
      | const v => simp [cOpd] at hc; exact main _ rfl (by simp [cOpd]; exact hc.2.1) hc.2.2
      | global g => simp [cOpd] at hc
    | invoke r m => cases hc
    | builtin b => simp [hop, isCall] at hi
  | _ => simp [hop, isCall] at hi

end Go.Vs
