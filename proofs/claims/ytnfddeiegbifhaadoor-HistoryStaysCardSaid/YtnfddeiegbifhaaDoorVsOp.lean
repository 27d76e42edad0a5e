import Derived.Test.YtnfddeiegbifhaaDoorVsOpM
/- Every operation, simulated. -/
namespace Go.Vs
open Go Go.RowKit

variable {P : Program} {K : Kp} {e : Env} {a : Act} {o : Oper} {w : World}

/-- Memory has grown, no more. -/
structure Quiet (K K' : Kp) (w w' : World) : Prop where
  rho : K'.ρ = K.ρ
  kap : ∀ b i v, K.κ b i = some v → K'.κ b i = some v
  claim : ∀ b i v, K'.κ b i = some v → w'.cell? (ad b i) = some v ∧ v.oneCell' = true
  fresh : ∀ b i, K'.κ b i ≠ none → K.κ b i ≠ none ∨ w.heap.size ≤ b
  bel : Below w.heap.size w w'

/-- What an operation does, told of the model. -/
inductive Did (P : Program) (a : Act) (o : Oper) (w : World) (K : Kp) (ro : Nat) (H H' : Hp) (x : IV) : Cls → Prop
  | val (c : Cls) (hc : c = .p ∨ c = .l ∨ c = .q) (h : H' = H) (g : Gives P a o w K x) : Did P a o w K ro H H' x c
  | qt (v : Value) (w' : World) (K' : Kp) (h : H' = H) (run : (execOp a.eval o).run P w = .ok (.value v) w') (q : Quiet K K' w w') (hv : VR K' x v) : Did P a o w K ro H H' x .p
  | mk (rows : List (List IV)) (h : H' = H ++ [({ rows := rows } : Bk)]) (g : Makes P a o w K H.length x rows) : Did P a o w K ro H H' x .a
  | none (h : H' = H) (g : Gives P a o w K x) : Did P a o w K ro H H' x .n
  | app (rows : List (List IV)) (h : H' = H ++ [({ rows := rows } : Bk)]) (g : Draws P a o w K H.length x rows) : Did P a o w K ro H H' x .n
  | wr (v : Value) (w' : World) (h : (execOp a.eval o).run P w = .ok (.value v) w' ∨ ((execOp a.eval o).run P w = .ok .skip w' ∧ v = undef)) (s : Step K ro H w H' w' x v) : Did P a o w K ro H H' x .w

theorem VR.leaf {x : IV} {v : Value} (h : VR K x v) (hl : leafV x = true) : VR K.bare x v := by
  cases h <;> first
    | (constructor; done)
    | (cases hl; done)
    | skip
  case eptr rows i j b o sz us hs hk hv => exact .eptr _ rows i j b o sz us hs hk hv
  case imm rows full a n cap b o sz us hn ha hc hf hs hk hv => exact .imm _ rows full a n cap b o sz us hn ha hc hf hs hk hv

/-- A box that nobody writes: its cells are claimed. -/
theorem sim_boxf {ro : Nat} {H : Hp} (hR : Rel K ro H w) (he : EnvOk K e a) {t : TypeId} {x : Operand} {x' : Opd} {cs : List IV} (ho : o.op = .box t x) (hx : cOpd x = some x') (hc : cellsO (ev e x') = some cs) (hl : cs.all leafV = true) :
    ∃ v w' K', (execOp a.eval o).run P w = .ok (.value v) w' ∧ Quiet K K' w w' ∧ VR K' (.eptr [cs] 0 0) v := by
  obtain ⟨hsz, hv, hok⟩ := (he.ev hx).cells hc
  have hone : ∀ (i : Nat) (u : Value), (a.eval x).cells[i]? = some u → u.oneCell' = true := by
    intro i u hu
    have hi : i < cs.length := by have := (Array.getElem?_eq_some_iff.1 hu).1; omega
    exact (hv i cs[i] _ (List.getElem?_eq_getElem hi) hu).one (hok _ (List.getElem_mem hi))
  have hnew : ∀ i, K.κ w.heap.size i = none := by
    intro i
    cases h : K.κ w.heap.size i with
    | none => rfl
    | some u =>
      have := World.block_lt_of_cell? _ _ (hR.claim _ _ _ h).1
      simp [ad] at this
  let K' : Kp := ⟨K.ρ, fun b i => if b = w.heap.size then (a.eval x).cells[i]? else K.κ b i⟩
  have hle : K.le K' := ⟨fun b L hb => ⟨L, hb, Nat.le_refl _, fun _ => rfl⟩, fun b i u hu => by
    have : b ≠ w.heap.size := by rintro rfl; rw [hnew] at hu; cases hu
    simp only [K', if_neg this]; exact hu⟩
  refine ⟨.pointer (some ⟨w.heap.size, 0, none⟩), w.alloc (.cells (a.eval x).cells t), K', by simp [execOp, ho, Instr.box, newVar, newRow_run], ⟨rfl, hle.2, fun b i u hu => ?_, fun b i hb => ?_, (Below.refl _ _).alloc (Nat.le_refl _) _⟩, ?_⟩
  · simp only [K'] at hu
    split at hu
    · rename_i hb
      subst hb
      refine ⟨?_, hone i u hu⟩
      have := World.cell?_alloc_new w (a.eval x).cells t i
      rw [hu] at this
      exact this
    · obtain ⟨hc', h1⟩ := hR.claim b i u hu
      refine ⟨?_, h1⟩
      rw [World.cell?_alloc_lt _ _ _ (World.block_lt_of_cell? _ _ hc')]
      exact hc'
  · by_cases e : b = w.heap.size
    · exact .inr (by omega)
    · simp only [K', if_neg e] at hb; exact .inl hb
  · have : VR K' (.eptr [cs] 0 0) (.pointer (some (ad w.heap.size (0 + 0 * cs.length + 0)))) := by
      refine .eptr K' [cs] 0 0 w.heap.size 0 cs.length (fun _ c => ((a.eval x).cells[c]?).getD (.bool false)) (fun r row h => ?_) (fun r row c h hc => ?_) (fun r row c y h hy => ?_)
      · cases r <;> simp at h; subst h; rfl
      · cases r <;> simp at h; subst h
        have hlt : c < (a.eval x).cells.size := by omega
        simp [K', hlt]
      · cases r <;> simp at h; subst h
        have hlt : c < (a.eval x).cells.size := by have := (List.getElem?_eq_some_iff.1 hy).1; omega
        rw [Array.getElem?_eq_getElem hlt]
        have hm : y ∈ cs := List.mem_of_getElem? hy
        exact ((hv c y _ hy (Array.getElem?_eq_getElem hlt)).leaf (List.all_eq_true.1 hl _ hm)).mono (Kp.bare_mono hle)
    simpa [ad] using this

/-- A pair of an option, taken apart. -/
theorem bind_pair {α β γ : Type} {x : Option α} {H H' : β} {f : α → γ} {z : γ} (h : (x.bind fun v => some (f v, H)) = some (z, H')) : ∃ v, x = some v ∧ z = f v ∧ H' = H := by
  cases x with
  | none => cases h
  | some v => simp at h; exact ⟨v, rfl, h.1.symm, h.2.symm⟩

theorem op_sim (hpr : PrOk P) {cf : CallF} {ro : Nat} {H H' : Hp} {im : Bool} {m : Nat} {ins : Ins} {x : IV} (hc : cOp P im m o.op = some ins) (hn : isCallI ins = false) (he : EnvOk K e a) (hR : Rel K ro H w) (hd : doIns cf ro e H ins = some (x, H')) :
    Did P a o w K ro H H' x (cls ins) := by
  cases hop : o.op with
  | move y =>
    simp only [hop, cOp, Option.map_eq_some_iff] at hc
    obtain ⟨z, hz, rfl⟩ := hc
    simp only [doIns, Option.some.injEq, Prod.mk.injEq] at hd
    obtain ⟨rfl, rfl⟩ := hd
    exact .val _ (.inl rfl) rfl (sim_mv he (.inl hop) hz)
  | assign y =>
    simp only [hop, cOp, Option.map_eq_some_iff] at hc
    obtain ⟨z, hz, rfl⟩ := hc
    simp only [doIns, Option.some.injEq, Prod.mk.injEq] at hd
    obtain ⟨rfl, rfl⟩ := hd
    exact .val _ (.inl rfl) rfl (sim_mv he (.inr hop) hz)
  | pick c p q =>
    simp only [hop, cOp, Option.bind_eq_some_iff, Option.some.injEq] at hc
    obtain ⟨c', hc', p', hp', q', hq', rfl⟩ := hc
    simp only [doIns] at hd
    split at hd
    · rename_i hb
      cases hd
      exact .val _ (.inl rfl) rfl (sim_pick (b := true) he hop hc' hp' hq' hb)
    · rename_i hb
      cases hd
      exact .val _ (.inl rfl) rfl (sim_pick (b := false) he hop hc' hp' hq' hb)
    · cases hd
  | alloc t =>
    simp only [hop, cOp, Option.map_eq_some_iff] at hc
    obtain ⟨z, hz, hc⟩ := hc
    split at hc
    · subst hc
      simp only [doIns, Option.some.injEq, Prod.mk.injEq] at hd
      obtain ⟨rfl, rfl⟩ := hd
      obtain ⟨v, w', h1, h2⟩ := sim_alt hR hop hz
      exact .wr v w' (.inl h1) h2
    · subst hc
      simp only [doIns, Option.some.injEq, Prod.mk.injEq] at hd
      obtain ⟨rfl, rfl⟩ := hd
      exact .mk _ rfl (sim_alloc _ hop hz)
  | box t y =>
    simp only [hop, cOp, Option.bind_eq_some_iff, Option.some.injEq] at hc
    obtain ⟨n, hn', z, hz, rfl⟩ := hc
    split at hd
    · rename_i hm
      simp only [doIns, Option.bind_eq_some_iff] at hd
      obtain ⟨cs, hcs, hd⟩ := hd
      split at hd
      · rename_i hl
        cases hd
        obtain ⟨v, w', K', h1, h2, h3⟩ := sim_boxf hR he hop hz hcs hl.2
        simp only [hm, if_true]
        exact .qt v w' K' rfl h1 h2 h3
      · cases hd
    · rename_i hm
      simp only [doIns, Option.bind_eq_some_iff] at hd
      obtain ⟨cs, hcs, hd⟩ := hd
      split at hd
      · cases hd
        simp only [hm, if_false]
        exact .mk _ rfl (sim_box he _ hop hz hcs)
      · cases hd
  | build t ps =>
    simp only [hop, cOp, Option.bind_eq_some_iff] at hc
    obtain ⟨z, hz, hc⟩ := hc
    split at hc
    · rename_i fs hu
      split at hc
      · rename_i hall
        simp only [Option.bind_eq_some_iff, Option.some.injEq] at hc
        obtain ⟨qs, hq, rfl⟩ := hc
        obtain ⟨r, hr, rfl, rfl⟩ := bind_pair hd
        exact .val _ (.inl rfl) rfl (sim_build_struct he hop hz hu hall hq hr)
      · cases hc
    · rename_i k u hu
      simp only [Option.bind_eq_some_iff, Option.some.injEq] at hc
      obtain ⟨n, hn', qs, hq, rfl⟩ := hc
      obtain ⟨r, hr, rfl, rfl⟩ := bind_pair hd
      exact .val _ (.inl rfl) rfl (sim_build_array he hop hz hu hn' hq hr)
    · cases hc
  | buildSlice t n ps =>
    simp only [hop, cOp] at hc
    split at hc
    · rename_i u hu
      simp only [Option.bind_eq_some_iff] at hc
      obtain ⟨sz, hs, z, hz, qs, hq, hc⟩ := hc
      split at hc
      · rename_i hcc
        cases hc
        simp only [doIns, Option.bind_eq_some_iff, Option.some.injEq, Prod.mk.injEq] at hd
        obtain ⟨rows, hr, rfl, rfl⟩ := hd
        exact .mk _ rfl (sim_bslice he _ hop hu hs hz hq hcc.1 hcc.2.1 hcc.2.2 hr)
      · cases hc
    · cases hc
  | load t y =>
    simp only [hop, cOp, Option.bind_eq_some_iff] at hc
    obtain ⟨n, hs, ag, ha, z, hz, hc⟩ := hc
    split at hc
    · cases hc
      split at hd
      · rename_i hm
        simp only [doIns] at hd
        split at hd
        · simp only [Option.bind_eq_some_iff] at hd
          obtain ⟨cs, hr, hd⟩ := hd
          obtain ⟨v, hv, hd⟩ := hd
          cases hd
          simp only [hm, if_true]
          exact .val _ (.inr (.inr rfl)) rfl (sim_load hR he hop hs ha hz hr hv)
        · cases hd
      · rename_i hm
        simp only [doIns] at hd
        split at hd
        · cases hd
        · simp only [Option.bind_eq_some_iff] at hd
          obtain ⟨cs, hr, hd⟩ := hd
          obtain ⟨v, hv, hd⟩ := hd
          cases hd
          simp only [hm, if_false]
          exact .val _ (by cases im <;> simp [cls]) rfl (sim_load hR he hop hs ha hz hr hv)
    · cases hc
  | store t y z =>
    simp only [hop, cOp, Option.bind_eq_some_iff, Option.some.injEq] at hc
    obtain ⟨n, hs, y', hy, z', hz, rfl⟩ := hc
    simp only [doIns, Option.bind_eq_some_iff] at hd
    obtain ⟨cs, hcs, hd⟩ := hd
    split at hd
    · rename_i hcl
      obtain ⟨H2, hw, h1⟩ := Option.bind_eq_some_iff.1 hd
      cases h1
      obtain ⟨w', hrun, hR', hF⟩ := sim_store hR he hop hs hy hz hcs hcl hw
      exact .wr undef w' (.inr ⟨hrun, rfl⟩) ⟨K, K.le_refl, hR', .und _ _, hF⟩
    · cases hd
  | nilCheck y =>
    simp only [hop, cOp, Option.map_eq_some_iff] at hc
    obtain ⟨z, hz, rfl⟩ := hc
    simp only [doIns] at hd
    split at hd <;> first | cases hd | skip
    all_goals
      rename_i heq
      refine .val _ (.inl rfl) rfl ?_
      rw [← heq]
      exact sim_nilck he hop hz (by rw [heq]; rfl)
  | binOp op t y z u =>
    simp only [hop, cOp, cBin, Option.bind_eq_some_iff] at hc
    obtain ⟨y', hy, z', hz, hc⟩ := hc
    have nilCase : ∀ k, nilT P k t → cNil k op y z y' z' = some ins → Did P a o w K ro H H' x (cls ins) := by
      intro k ht hcn
      unfold cNil at hcn
      split at hcn
      · split at hcn
        · rename_i hnil
          cases hcn
          obtain ⟨b, hb, rfl, rfl⟩ := bind_pair hd
          exact .val _ (.inl rfl) rfl (sim_eqn (neg := false) he hop ht (.inl ⟨hy, nilOpd_eq hnil⟩) hb)
        · split at hcn
          · rename_i hnil
            cases hcn
            obtain ⟨b, hb, rfl, rfl⟩ := bind_pair hd
            exact .val _ (.inl rfl) rfl (sim_eqn (neg := false) he hop ht (.inr ⟨hz, nilOpd_eq hnil⟩) hb)
          · cases hcn
      · split at hcn
        · rename_i hnil
          cases hcn
          obtain ⟨b, hb, rfl, rfl⟩ := bind_pair hd
          exact .val _ (.inl rfl) rfl (sim_eqn (neg := true) he hop ht (.inl ⟨hy, nilOpd_eq hnil⟩) hb)
        · split at hcn
          · rename_i hnil
            cases hcn
            obtain ⟨b, hb, rfl, rfl⟩ := bind_pair hd
            exact .val _ (.inl rfl) rfl (sim_eqn (neg := true) he hop ht (.inr ⟨hz, nilOpd_eq hnil⟩) hb)
          · cases hcn
      · cases hcn
    split at hc
    · cases hc
      obtain ⟨b, hb, rfl, rfl⟩ := bind_pair hd
      exact .val _ (.inl rfl) rfl (sim_bin he hop hy hz hb)
    · cases hc
      obtain ⟨b, hb, rfl, rfl⟩ := bind_pair hd
      exact .val _ (.inl rfl) rfl (sim_bin he hop hy hz hb)
    · rename_i hu
      have boolCase : ∀ neg, ins = .eqb neg y' z' → op = (if neg then .neq else .eql) → Did P a o w K ro H H' x (cls ins) := by
        intro neg hi ho
        subst hi
        simp only [doIns] at hd
        obtain ⟨b, hb, rfl, rfl⟩ := bind_pair hd
        obtain ⟨p, q, hp, hq, rfl⟩ : ∃ p q, ev e y' = .bool p ∧ ev e z' = .bool q ∧ b = (p == q) := by
          revert hb
          cases ev e y' <;> cases ev e z' <;> simp [eqC]
          intro h; exact h.symm
        exact .val _ (.inl rfl) rfl (sim_eqb he (by rw [hop, ho]) hu hy hz hp hq)
      split at hc
      · cases hc; exact boolCase false rfl rfl
      · cases hc; exact boolCase true rfl rfl
      · cases hc
    · rename_i fs hu
      split at hc
      · rename_i hg
        simp only [Option.bind_eq_some_iff] at hc
        obtain ⟨ks, hk, hc⟩ := hc
        split at hc
        · cases hc
          obtain ⟨b, hb, rfl, rfl⟩ := bind_pair hd
          exact .val _ (.inl rfl) rfl (sim_eqs (neg := false) he hop hu hg hk hy hz hb)
        · cases hc
          obtain ⟨b, hb, rfl, rfl⟩ := bind_pair hd
          exact .val _ (.inl rfl) rfl (sim_eqs (neg := true) he hop hu hg hk hy hz hb)
        · cases hc
      · cases hc
    · rename_i te hu
      cases hcn : cNil 0 op y z y' z' with
      | some i =>
        rw [hcn] at hc
        cases hc
        exact nilCase 0 ⟨_, hu⟩ hcn
      | none =>
        rw [hcn] at hc
        simp only [Option.orElse_none] at hc
        split at hc
        · split at hc
          · rename_i hte
            cases hc
            obtain ⟨b, hb, rfl, rfl⟩ := bind_pair hd
            exact .val _ (.inr (.inl rfl)) rfl (sim_nep hR he hop hu hte hy hz hb)
          · cases hc
        · cases hc
    · rename_i hu; exact nilCase 1 ⟨_, hu⟩ hc
    · rename_i hu; exact nilCase 2 ⟨_, _, _, hu⟩ hc
    · rename_i hu; exact nilCase 3 ⟨_, hu⟩ hc
    · cases hc
  | unOp op t y =>
    simp only [hop, cOp, Option.map_eq_some_iff] at hc
    obtain ⟨z, hz, rfl⟩ := hc
    obtain ⟨b, hb, rfl, rfl⟩ := bind_pair hd
    exact .val _ (.inl rfl) rfl (sim_un he hop hz hb)
  | convert s d y =>
    simp only [hop, cOp, cCv, Option.bind_eq_some_iff] at hc
    obtain ⟨y', hy, hc⟩ := hc
    split at hc
    · rename_i h1 h2
      cases hc
      simp only [doIns] at hd
      split at hd
      · rename_i heq
        cases hd
        exact .val _ (.inl rfl) rfl (sim_cvi he hop h1 h2 hy heq)
      · cases hd
    · rename_i h1 h2
      cases hc
      simp only [doIns] at hd
      split at hd
      · rename_i heq
        cases hd
        exact .val _ (.inl rfl) rfl (sim_cvs he hop h1 h2 hy heq)
      · cases hd
    · rename_i u h1 h2
      split at hc
      · rename_i hu
        cases hc
        have hu' : P.underlying u = some (.int .u8) := by simpa using hu
        simp only [doIns] at hd
        split at hd
        · cases hd
        · rename_i hns
          simp only [Option.bind_eq_some_iff] at hd
          obtain ⟨rs, hr, hd⟩ := hd
          obtain ⟨bs, hb, hd⟩ := hd
          cases hd
          exact .val _ (.inr (.inl rfl)) rfl (sim_cvbs hR he hop h1 hu' h2 hy (fun t ht => hns t ht) hr hb)
      · cases hc
    · rename_i u h1 h2
      split at hc
      · rename_i n hn'
        cases hc
        obtain ⟨v, hv, rfl, rfl⟩ := bind_pair hd
        exact .val _ (.inr (.inl rfl)) rfl (sim_tou hR he hop h1 h2 hn' hy hv)
      · cases hc
    · rename_i u h1 h2
      split at hc
      · rename_i n hn'
        cases hc
        obtain ⟨v, hv, rfl, rfl⟩ := bind_pair hd
        exact .val _ (.inr (.inl rfl)) rfl (sim_fru hR he hop h1 h2 hn' hy hv)
      · cases hc
    · cases hc
  | makeInterface t y =>
    simp only [hop, cOp] at hc
    split at hc
    · cases hc
    · rename_i d hni hu
      simp only [Option.map_eq_some_iff] at hc
      obtain ⟨z, hz, rfl⟩ := hc
      simp only [doIns, Option.some.injEq, Prod.mk.injEq] at hd
      obtain ⟨rfl, rfl⟩ := hd
      exact .val _ (.inl rfl) rfl (sim_mki he hop hu (fun ms h => hni ms h) hz)
    · cases hc
  | makeFunc fn first caps =>
    cases fn <;> simp only [hop, cOp, reduceCtorEq] at hc
    split at hc
    · rename_i hf
      simp only [Option.map_eq_some_iff] at hc
      obtain ⟨cs, hcs, rfl⟩ := hc
      simp only [doIns, Option.some.injEq, Prod.mk.injEq] at hd
      obtain ⟨rfl, rfl⟩ := hd
      exact .val _ (.inl rfl) rfl (sim_mkf he hop hf hcs)
    · cases hc
  | makeSlice t y z =>
    simp only [hop, cOp] at hc
    split at hc
    · rename_i u hu
      simp only [Option.bind_eq_some_iff] at hc
      obtain ⟨sz, hs, bt, hb, zz, hz, y', hy, z', hz', hc⟩ := hc
      split at hc
      · rename_i hcc
        cases hc
        simp only [doIns, Option.bind_eq_some_iff] at hd
        obtain ⟨n, hn', c, hc', hd⟩ := hd
        split at hd
        · rename_i hq
          cases hd
          exact .mk _ rfl (sim_mksl he _ hop hu hs hb hz hy hz' hn' hc' hq.1 hq.2.1 hq.2.2 hcc.1 hcc.2.1)
        · cases hd
      · cases hc
    · cases hc
  | slice t y lo hi mx =>
    simp only [hop, cOp, Option.bind_eq_some_iff] at hc
    obtain ⟨y', hy, lo', hlo, hi', hhi, mx', hmx, hc⟩ := hc
    split at hc
    · rename_i hu
      split at hc
      · cases hc
        have hmn : mx = none := by
          cases mx with
          | none => rfl
          | some _ => simp [cOpt] at hmx
        subst hmn
        simp only [doIns] at hd
        split at hd
        · rename_i s heq
          simp only [Option.bind_eq_some_iff] at hd
          obtain ⟨l, hl, h, hh, hd⟩ := hd
          obtain ⟨v, hv, hd⟩ := hd
          cases hd
          exact .val _ (.inl rfl) rfl (sim_slst he hop hu hy hlo hhi heq hl hh hv)
        · cases hd
      · cases hc
    · rename_i u hu
      simp only [Option.bind_eq_some_iff] at hc
      obtain ⟨n, hs, hc⟩ := hc
      split at hc
      · cases hc
      · rename_i hcc
        cases hc
        have isS : ∀ {y : Option Operand} {y' : Option Opd}, cOpt y = some y' → y.isSome = y'.isSome := by
          intro y y' h; cases y <;> simp [cOpt] at h
          · subst h; rfl
          · obtain ⟨_, _, rfl⟩ := h; rfl
        have hmm : mx.isSome = true → hi.isSome = true := by
          intro hms
          rw [isS hhi]
          rw [isS hmx] at hms
          cases hi' with
          | none => exact absurd ⟨hms, rfl⟩ hcc
          | some _ => rfl
        cases im with
        | false =>
          simp only [Bool.false_eq_true, if_false, doIns, Option.bind_eq_some_iff] at hd
          obtain ⟨l, hl, h, hh, mm, hm, hd⟩ := hd
          obtain ⟨v, hv, hd⟩ := hd
          cases hd
          exact .val _ (.inr (.inl rfl)) rfl (sim_slsl hR he hop hu hs hmm hy hlo hhi hmx hl hh hm hv)
        | true =>
          simp only [if_true, doIns, Option.bind_eq_some_iff] at hd
          obtain ⟨l, hl, h, hh, mm, hm, hd⟩ := hd
          split at hd
          · rename_i hI
            simp only [Option.bind_eq_some_iff] at hd
            obtain ⟨v, hv, hd⟩ := hd
            cases hd
            rw [slSl_isI (H := H) hI] at hv
            exact .val _ (.inl rfl) rfl (sim_slsl hR he hop hu hs hmm hy hlo hhi hmx hl hh hm hv)
          · cases hd
    · cases hc
  | fieldAddr s y i =>
    simp only [hop, cOp] at hc
    split at hc
    · rename_i fs hu
      simp only [Option.bind_eq_some_iff] at hc
      obtain ⟨f, hf, n, hn', y', hy, hc⟩ := hc
      split at hc
      · cases hc
      · rename_i h0
        cases hc
        obtain ⟨b, hb, rfl, rfl⟩ := bind_pair hd
        exact .val _ (.inl rfl) rfl (sim_fad he hop hu hf hn' h0 hy hb)
    · cases hc
  | field s y i =>
    simp only [hop, cOp] at hc
    split at hc
    · rename_i fs hu
      simp only [Option.bind_eq_some_iff] at hc
      obtain ⟨f, hf, n, hn', ag, ha, y', hy, hc⟩ := hc
      split at hc
      · cases hc
        simp only [doIns] at hd
        split at hd
        · rename_i cs heq
          simp only [Option.bind_eq_some_iff] at hd
          obtain ⟨cs', hs, hd⟩ := hd
          obtain ⟨v, hv, hd⟩ := hd
          cases hd
          exact .val _ (.inl rfl) rfl (sim_fld he hop hu hf hn' ha hy heq hs hv)
        · cases hd
      · cases hc
    · cases hc
  | indexAddr t y i =>
    simp only [hop, cOp, Option.bind_eq_some_iff] at hc
    obtain ⟨y', hy, i', hi, hc⟩ := hc
    split at hc
    · rename_i u hu
      simp only [Option.bind_eq_some_iff, Option.some.injEq] at hc
      obtain ⟨n, hs, rfl⟩ := hc
      cases im with
      | false =>
        simp only [Bool.false_eq_true, if_false, doIns] at hd
        split at hd
        · rename_i k q heq
          obtain ⟨v, hv, rfl, rfl⟩ := bind_pair hd
          exact .val _ (.inr (.inl rfl)) rfl (sim_iad hR he hop hu hs hy hi heq hv)
        · cases hd
      | true =>
        simp only [if_true, doIns] at hd
        split at hd
        · rename_i k q heq
          split at hd
          · rename_i hI
            rw [idx_isI (H := H) hI] at hd
            obtain ⟨v, hv, rfl, rfl⟩ := bind_pair hd
            exact .val _ (.inl rfl) rfl (sim_iad hR he hop hu hs hy hi heq hv)
          · cases hd
        · cases hd
    · rename_i c u hu
      simp only [Option.bind_eq_some_iff, Option.some.injEq] at hc
      obtain ⟨n, hs, rfl⟩ := hc
      simp only [doIns] at hd
      split at hd
      · rename_i k q heq
        split at hd
        · rename_i hq
          obtain ⟨v, hv, rfl, rfl⟩ := bind_pair hd
          exact .val _ (.inl rfl) rfl (sim_iar he hop hu hs hy hi heq hq.1 hq.2 hv)
        · cases hd
      · cases hd
    · cases hc
  | index t y i =>
    simp only [hop, cOp, Option.bind_eq_some_iff] at hc
    obtain ⟨y', hy, i', hi, hc⟩ := hc
    split at hc
    · rename_i hu
      cases hc
      simp only [doIns] at hd
      split at hd
      · rename_i s k q h1 h2
        split at hd
        · rename_i hq
          split at hd
          · rename_i b hb
            cases hd
            exact .val _ (.inl rfl) rfl (sim_ist he hop hu hy hi h1 h2 hq hb)
          · cases hd
        · cases hd
      · cases hd
    · rename_i c u hu
      simp only [Option.bind_eq_some_iff] at hc
      obtain ⟨n, hs, ag, ha, hc⟩ := hc
      split at hc
      · cases hc
        simp only [doIns] at hd
        split at hd
        · rename_i cs k q h1 h2
          split at hd
          · rename_i hq
            simp only [Option.bind_eq_some_iff] at hd
            obtain ⟨cs', hs', hd⟩ := hd
            obtain ⟨v, hv, hd⟩ := hd
            cases hd
            exact .val _ (.inl rfl) rfl (sim_iag he hop hu hs ha hy hi h1 h2 hq.1 hq.2 hs' hv)
          · cases hd
        · cases hd
      · cases hc
    · cases hc
  | extract y i =>
    simp only [hop, cOp, Option.map_eq_some_iff] at hc
    obtain ⟨z, hz, rfl⟩ := hc
    simp only [doIns] at hd
    split at hd
    · rename_i vs heq
      split at hd
      · rename_i v hv
        cases hd
        exact .val _ (.inl rfl) rfl (sim_ext he hop hz heq hv)
      · cases hd
    · cases hd
  | call c =>
    obtain ⟨callee, args, ats⟩ := c
    simp only [hop, cOp, cCall, Option.bind_eq_some_iff] at hc
    obtain ⟨as, has, hc⟩ := hc
    have one : ∀ {y : Opd}, as = [y] → ∃ q, args = #[q] ∧ cOpd q = some y := by
      intro y h
      subst h
      obtain ⟨hl, hi⟩ := mapO_some has
      match hq : args.toList, hl with
      | [q], _ =>
        refine ⟨q, by apply Array.ext'; simpa using hq, ?_⟩
        rw [hq] at hi
        exact hi 0 q y rfl rfl
    have two : ∀ {y z : Opd}, as = [y, z] → ∃ q r, args = #[q, r] ∧ cOpd q = some y ∧ cOpd r = some z := by
      intro y z h
      subst h
      obtain ⟨hl, hi⟩ := mapO_some has
      match hq : args.toList, hl with
      | [q, r], _ =>
        refine ⟨q, r, by apply Array.ext'; simpa using hq, ?_, ?_⟩
        · rw [hq] at hi; exact hi 0 q y rfl rfl
        · rw [hq] at hi; exact hi 1 r z rfl rfl
    have hat0 : ∀ {t : TypeId} {l : List TypeId}, ats.toList = t :: l → ats[0]? = some t := by
      intro t l h
      rw [← Array.getElem?_toList, h]; rfl
    cases callee with
    | value f =>
      cases f with
      | func f =>
        simp only at hc
        split at hc
        · rename_i fn hf
          split at hc
          · cases hc
          · split at hc
            · cases hc; simp [isCallI] at hn
            · rename_i hb
              split at hc
              · rename_i hnm
                simp only [Option.map_eq_some_iff] at hc
                obtain ⟨p, hp, rfl⟩ := hc
                obtain ⟨v, hv, rfl, rfl⟩ := bind_pair hd
                exact .val _ (.inl rfl) rfl (sim_pr hpr he hop hf hp (by simpa using hnm) (by simpa using hb) has hv)
              · split at hc
                · rename_i hov
                  split at hc
                  · obtain ⟨q, r, rfl, hq, hr⟩ := two rfl
                    cases hc
                    obtain ⟨v, hv, rfl, rfl⟩ := bind_pair hd
                    rename_i hng _ _ _ _
                    exact .val _ (.inr (.inl rfl)) rfl (sim_ovl hR he hop hf hov.1 hov.2 (by simpa using hb) (by simpa using hng) hq hr hv)
                  · cases hc
                · cases hc
        · cases hc
      | tmp t => simp [cOpd] at hc; subst hc; simp [isCallI] at hn
      | const v => simp [cOpd] at hc; subst hc; simp [isCallI] at hn
      | global g => simp [cOpd] at hc
    | invoke r m => cases hc
    | builtin b =>
      simp only at hc
      split at hc
      · rename_i y t heq
        obtain ⟨q, rfl, hq⟩ := one rfl
        split at hc
        · rename_i hu
          cases hc
          obtain ⟨v, hv, rfl, rfl⟩ := bind_pair hd
          exact .val _ (.inl rfl) rfl (sim_len (st := true) he (hat0 heq) hu hq hop hv)
        · rename_i u hu
          cases hc
          obtain ⟨v, hv, rfl, rfl⟩ := bind_pair hd
          exact .val _ (.inl rfl) rfl (sim_len (st := false) he (hat0 heq) ⟨u, hu⟩ hq hop hv)
        · rename_i n u hu
          cases hc
          simp only [doIns, Option.some.injEq, Prod.mk.injEq] at hd
          obtain ⟨rfl, rfl⟩ := hd
          refine .val _ (.inl rfl) rfl (gives_of (s := Builtin.len_ ats o.type #[a.eval q]) (fun w' => by simp [execOp, hop, resolve, invoke, builtin]) ⟨_, ?_, VR.int _ _ _⟩)
          simp [Builtin.len_, hat0 heq, run_underlying hu, goInt]
        · cases hc
      · rename_i y t heq
        obtain ⟨q, rfl, hq⟩ := one rfl
        split at hc
        · rename_i u hu
          cases hc
          simp only [doIns] at hd
          split at hd
          · rename_i h; cases hd
            exact .val _ (.inr (.inl rfl)) rfl (sim_capo (n := 0) hR he (hat0 heq) hu hq hop (.inl ⟨h, rfl⟩))
          · rename_i rows h; cases hd
            exact .val _ (.inr (.inl rfl)) rfl (sim_capo (n := rows.length) hR he (hat0 heq) hu hq hop (.inr (.inl ⟨rows, h, rfl⟩)))
          · rename_i b g off len cap h
            simp only [Option.bind_eq_some_iff] at hd
            obtain ⟨B, hB, hd⟩ := hd
            cases hd
            exact .val _ (.inr (.inl rfl)) rfl (sim_capo (n := cap) hR he (hat0 heq) hu hq hop (.inr (.inr ⟨b, g, off, len, B, h, hB⟩)))
          · cases hd
        · cases hc
      · rename_i y z t u heq
        obtain ⟨q, r, rfl, hq, hr⟩ := two rfl
        have h0 := hat0 heq
        have h1 : ats[1]? = some u := by rw [← Array.getElem?_toList, heq]; rfl
        split at hc
        · rename_i ee hu
          simp only [Option.bind_eq_some_iff] at hc
          obtain ⟨n, hs, bt, hb, hc⟩ := hc
          have go : ((∃ d, P.underlying u = some (.slice d)) ∨ P.underlying u = some .string) → ((zT P ee).bind fun z' => if z'.length = n ∧ 0 < bt ∧ 0 < n then some (if y.isNil = true then Ins.apn n bt z else if isByte P ee = true ∧ n = 1 ∧ bt = 1 then Ins.apb ee y z else Ins.app n bt y z) else none) = some ins → Did P a o w K ro H H' x (cls ins) := by
            intro hu2 hc
            simp only [Option.bind_eq_some_iff] at hc
            obtain ⟨zz, hz, hc⟩ := hc
            split at hc
            · rename_i hcc
              by_cases hy : y.isNil = true
              · rw [if_pos hy] at hc
                cases hc
                simp only [doIns] at hd
                have hx0 := he.ev hq
                rw [Opd.isNil_ev hy] at hx0
                rcases sim_apn (ty := o.type) hR h0 h1 hu hu2 hs hb hz hcc.1 hcc.2.1 hx0 (he.ev hr) hd with ⟨e1, v, hrun, hv⟩ | ⟨rows, e1, v, arr, elem, sz, hrun, hst⟩
                · exact .none e1 ⟨v, by simp [execOp, hop, resolve, invoke, builtin, hrun], hv⟩
                · exact .app rows e1 ⟨v, arr, elem, sz, by simp [execOp, hop, resolve, invoke, builtin, hrun], hst⟩
              rw [if_neg hy] at hc
              split at hc
              · rename_i hby
                cases hc
                simp only [doIns] at hd
                obtain ⟨_, rfl, rfl⟩ := hby
                obtain ⟨v, w', hrun, hst⟩ := sim_apb (ty := o.type) hR h0 h1 hu hu2 hs hb hz hcc.1 (he.ev hq) (he.ev hr) hd
                exact .wr v w' (.inl (by simp [execOp, hop, resolve, invoke, builtin, hrun])) hst
              cases hc
              simp only [doIns] at hd
              obtain ⟨v, w', hrun, hst⟩ := sim_app (ty := o.type) hR h0 h1 hu hu2 hs hb hz hcc.1 hcc.2.1 (he.ev hq) (he.ev hr) hd
              exact .wr v w' (.inl (by simp [execOp, hop, resolve, invoke, builtin, hrun])) hst
            · cases hc
          split at hc
          · rename_i d hu2; exact go (.inl ⟨d, hu2⟩) hc
          · rename_i hu2; exact go (.inr hu2) hc
          · rename_i kn hu2
            simp only [Option.bind_eq_some_iff] at hc
            obtain ⟨zz, hz, hc⟩ := hc
            split at hc
            · rename_i hcc
              cases hc
              simp only [doIns] at hd
              split at hd
              · rename_i kk nn heq2
                split at hd
                · rename_i hnn
                  have hyv := he.ev hr
                  rw [heq2] at hyv
                  obtain ⟨v, w', hrun, hst⟩ := sim_apz (ty := o.type) hR h0 h1 hu hu2 hs hb hz hcc.1 hcc.2.1 hcc.2.2 (he.ev hq) hyv hnn hd
                  exact .wr v w' (.inl (by simp [execOp, hop, resolve, invoke, builtin, hrun])) hst
                · cases hd
              · cases hd
            · cases hc
          · cases hc
        · cases hc
      · rename_i y z t l heq
        obtain ⟨q, r, rfl, hq, hr⟩ := two rfl
        split at hc
        · rename_i ee hu
          simp only [Option.bind_eq_some_iff, Option.some.injEq] at hc
          obtain ⟨n, hs, rfl⟩ := hc
          simp only [doIns] at hd
          obtain ⟨v, w', hrun, hst⟩ := sim_copy (ty := o.type) hR (hat0 heq) hu hs (he.ev hq) (he.ev hr) hd
          exact .wr v w' (.inl (by simp [execOp, hop, resolve, invoke, builtin, hrun])) hst
        · cases hc
      · rename_i y t heq
        obtain ⟨q, rfl, hq⟩ := one rfl
        split at hc
        · rename_i ee hu
          simp only [Option.bind_eq_some_iff, Option.some.injEq] at hc
          obtain ⟨zz, hz, rfl⟩ := hc
          simp only [doIns] at hd
          obtain ⟨v, w', hrun, hst⟩ := sim_clear (ty := o.type) hR (hat0 heq) hu hz (he.ev hq) hd
          exact .wr v w' (.inl (by simp [execOp, hop, resolve, invoke, builtin, hrun])) hst
        · cases hc
      · rename_i y _ heq
        obtain ⟨q, rfl, hq⟩ := one rfl
        cases hc
        obtain ⟨v, hv, rfl, rfl⟩ := bind_pair hd
        exact .val _ (.inr (.inl rfl)) rfl (sim_usd hR he hop hq hv)
      · rename_i y z t it heq
        obtain ⟨q, r, rfl, hq, hr⟩ := two rfl
        split at hc
        · rename_i ee hu
          split at hc
          · rename_i hc1
            cases hc
            simp only [doIns] at hd
            obtain ⟨v, w', hrun, hst⟩ := sim_ust hR he hop heq hu hc1 hq hr hd
            exact .wr v w' (.inl hrun) hst
          · cases hc
        · cases hc
      · cases hc
        simp only [doIns] at hd
        obtain ⟨v, hv, rfl, rfl⟩ := bind_pair hd
        exact .val _ (.inl rfl) rfl (sim_mx he hop has hv)
      · cases hc
        simp only [doIns] at hd
        obtain ⟨v, hv, rfl, rfl⟩ := bind_pair hd
        exact .val _ (.inl rfl) rfl (sim_mn he hop has hv)
      · cases hc
  | _ => simp [hop, cOp] at hc

end Go.Vs
