import Derived.Test.YtnfddeiegbifhaaDoorVsOp
/- Freezing; a call that leaves the heap as it is. -/
namespace Go.Vs
open Go Go.RowKit

def Kp.cut (K : Kp) (n : Nat) : Kp := ⟨fun b => if b < n then K.ρ b else none, K.κ⟩

open Classical in
/-- Claims besides: every cell of the blocks of 'p'. -/
noncomputable def Kp.seal (K : Kp) (w : World) (p : Nat → Prop) : Kp :=
  ⟨K.ρ, fun b i => match K.κ b i with
    | some v => some v
    | none => if ∃ x L, p x ∧ K.ρ x = some L ∧ L.blk = b ∧ L.org ≤ i ∧ i < L.org + L.ext then w.cell? (ad b i) else none⟩

theorem Kp.le_seal (K : Kp) (w : World) (p : Nat → Prop) : K.le (K.seal w p) :=
  ⟨fun _ L h => ⟨L, h, Nat.le_refl _, fun _ => rfl⟩, fun b i v h => by simp [Kp.seal, h]⟩

theorem Kp.seal_some {K : Kp} {w : World} {p : Nat → Prop} {b i : Nat} {v : Value} (h : (K.seal w p).κ b i = some v) :
    K.κ b i = some v ∨ ((∃ x L, p x ∧ K.ρ x = some L ∧ L.blk = b ∧ L.org ≤ i ∧ i < L.org + L.ext) ∧ w.cell? (ad b i) = some v) := by
  simp only [Kp.seal] at h
  split at h
  · rename_i u hu; left; rw [hu]; exact h
  · split at h
    · rename_i hx; exact .inr ⟨hx, h⟩
    · cases h

/-- A sealed cell. -/
theorem Kp.seal_at {K : Kp} {ro : Nat} {H : Hp} {w : World} (hR : Rel K ro H w) {p : Nat → Prop} {x : Nat} {L : Loc} (hL : K.ρ x = some L) (hp : p x) {i : Nat} {v : Value} (hi : i < L.ext) (hv : w.cell? (ad L.blk (L.org + i)) = some v) :
    (K.seal w p).κ L.blk (L.org + i) = some v := by
  simp only [Kp.seal]
  split
  · rename_i u hu
    have := (hR.claim _ _ _ hu).1
    rw [hv] at this; rw [this]
  · rw [if_pos ⟨x, L, hp, hL, rfl, by omega, by omega⟩]; exact hv

theorem Kp.seal_claim {K : Kp} {ro : Nat} {H : Hp} {w : World} (hR : Rel K ro H w) (p : Nat → Prop) {b i : Nat} {v : Value} (h : (K.seal w p).κ b i = some v) : w.cell? (ad b i) = some v ∧ v.oneCell' = true := by
  rcases Kp.seal_some h with h | ⟨⟨x, L, _, hL, rfl, h1, h2⟩, hv⟩
  · exact hR.claim b i v h
  · obtain ⟨B, hB, ok⟩ := hR.blk x L hL
    obtain ⟨u, hu, ho⟩ := ok.there (i - L.org) (by omega)
    rw [show L.org + (i - L.org) = i by omega] at hu
    rw [hv] at hu; cases hu
    exact ⟨hv, ho⟩

theorem Rel.sealed {K : Kp} {ro : Nat} {H : Hp} {w : World} (hR : Rel K ro H w) (p : Nat → Prop) : Rel (K.seal w p) H.length H w := by
  refine ⟨fun b L hb => ?_, hR.inj, fun b i v h => Kp.seal_claim hR p h, fun b L B hb _ hr => ?_, Nat.le_refl _⟩
  · obtain ⟨B, hB, ok⟩ := hR.blk b L hb
    exact ⟨B, hB, ok.mono (K.le_seal w p)⟩
  · have := hR.lt (b := b) (L := L) hb; omega

/-- What names no block stands without any. -/
def noBlk : IV → Bool
  | .ptr .. | .arr .. | .agg _ | .tup _ | .fn _ _ | .ifc _ _ => false
  | _ => true

theorem VR.toBare {K K' : Kp} {x : IV} {v : Value} (h : VR K x v) (hn : noBlk x = true) (hk : ∀ b i v, K.κ b i = some v → K'.κ b i = some v) : VR K'.bare x v := by
  have hb : K.bare.le K'.bare := ⟨fun _ _ e => (by cases e), hk⟩
  cases h <;> first | (simp [noBlk] at hn; done) | skip
  case und => exact .und _ _
  case bool => exact .bool _ _
  case int => exact .int _ _ _
  case str => exact .str _ _
  case nptr => exact .nptr _
  case nsl => exact .nsl _
  case nfn => exact .nfn _
  case nif => exact .nif _
  case eptr h1 h2 h3 => exact .eptr _ _ _ _ _ _ _ _ h1 (fun r row c a b => hk _ _ _ (h2 r row c a b)) (fun r row c x a b => (h3 r row c x a b).mono hb)
  case imm hf h1 h2 h3 => exact .imm _ _ _ _ _ _ _ _ _ _ ‹_› ‹_› ‹_› hf h1 (fun r row c a b => hk _ _ _ (h2 r row c a b)) (fun r row c x a b => (h3 r row c x a b).mono hb)

theorem mapO_at {α β : Type} {f : α → Option β} {l : List α} {r : List β} (h : mapO f l = some r) : l.length = r.length ∧ ∀ (i : Nat) (y : β), r[i]? = some y → ∃ x, l[i]? = some x ∧ f x = some y := by
  obtain ⟨h1, h2⟩ := mapO_some h
  refine ⟨h1.symm, fun i y hy => ?_⟩
  obtain ⟨hi, _⟩ := List.getElem?_eq_some_iff.1 hy
  have hl : l[i]? = some l[i] := List.getElem?_eq_getElem (by omega)
  exact ⟨_, hl, h2 i _ _ hl hy⟩

theorem frz0_sim {K : Kp} {ro : Nat} {H : Hp} {w : World} (hR : Rel K ro H w) {p : Nat → Prop} : ∀ (k : Nat) (x y : IV) (v : Value), frz0 k H x = some y → VR K x v → (∀ b ∈ blks k H x, p b) → VR (K.seal w p).bare y v := by
  intro k
  induction k with
  | zero => intro x y v h; simp [frz0] at h
  | succ k ih =>
    intro x y v h hv hp
    have many : ∀ {cs ds : List IV} {us : Array Value}, mapO (frz0 k H) cs = some ds → us.size = cs.length → (∀ (i : Nat) (x : IV) (y : Value), cs[i]? = some x → us[i]? = some y → VR K x y) → (∀ b ∈ cs.flatMap (blks k H), p b) →
        us.size = ds.length ∧ ∀ (i : Nat) (x : IV) (y : Value), ds[i]? = some x → us[i]? = some y → VR (K.seal w p).bare x y := by
      intro cs ds us hm hl hvs hb
      obtain ⟨h1, h2⟩ := mapO_at hm
      refine ⟨by omega, fun i x y hx hy => ?_⟩
      obtain ⟨c, hc, hf⟩ := h2 i x hx
      exact ih c x y hf (hvs i c y hc hy) (fun b hbb => hb b (List.mem_flatMap.2 ⟨c, List.mem_of_getElem? hc, hbb⟩))
    cases x with
    | arr b g off len cap ex =>
      simp only [frz0, Option.bind_eq_some_iff] at h
      obtain ⟨B, hB, h⟩ := h
      obtain ⟨L, hL, hgl, hat, hsl⟩ := hv.arr_inv
      have hBb := hB
      obtain ⟨hB, hg⟩ := blkAt_some hB
      obtain ⟨B', hB', ok⟩ := hR.blk b L hL
      obtain rfl : B = B' := by rw [hB] at hB'; exact Option.some.inj hB'
      split at h
      · rename_i hfit
        simp only [Option.map_eq_some_iff] at h
        obtain ⟨rows, hm, rfl⟩ := h
        obtain ⟨a, cap', rfl, ha, hc1, hc2, hc3, hc4⟩ := hat (by rw [← ok.gen]; exact hg)
        obtain ⟨hrl, hri⟩ := mapO_at hm
        have hrl' : rows.length = len := by rw [← hrl]; simp; omega
        have hpb : p b := hp b (by simp [blks])
        have hrow : ∀ (r : Nat) (row : List IV), rows[r]? = some row → ∃ row0, B.rows[off + r]? = some row0 ∧ mapO (frz0 k H) row0 = some row ∧ r < len := by
          intro r row hr
          obtain ⟨row0, h0, hf⟩ := hri r row hr
          have hrlt : r < len := by rw [← hrl']; exact (List.getElem?_eq_some_iff.1 hr).1
          rw [List.getElem?_take_of_lt hrlt, List.getElem?_drop] at h0
          exact ⟨row0, h0, hf, hrlt⟩
        have hinext : ∀ r c, r < len → c < L.sz → (off + r) * L.sz + c < L.ext := by
          intro r c hr hcc
          have h1 : (off + r + 1) * L.sz ≤ B.rows.length * L.sz := Nat.mul_le_mul_right _ (by omega)
          have := ok.fit
          rw [Nat.add_mul, Nat.one_mul] at h1
          omega
        refine .imm _ rows _ a len cap' L.blk (L.org + off * L.sz) L.sz (fun r c => (w.cell? (ad L.blk (L.org + ((off + r) * L.sz + c)))).getD undef) hrl'.symm
          (fun hne => ha ?_) (by omega) (fun hfull => ?_) (fun r row hr => ?_) (fun r row c hr hcs => ?_) (fun r row c x hr hx => ?_)
        · have : 0 < rows.length := List.length_pos_iff.2 hne
          omega
        · simp at hfull
          have := hc3 hfull.1
          omega
        · obtain ⟨row0, h0, hf, _⟩ := hrow r row hr
          rw [← (mapO_at hf).1]; exact ok.len _ _ h0
        · obtain ⟨row0, h0, hf, hrlt⟩ := hrow r row hr
          have hlt := hinext r c hrlt hcs
          obtain ⟨u, hu, _⟩ := ok.there _ hlt
          rw [hu, Option.getD_some]
          have := Kp.seal_at hR (p := p) hL hpb hlt hu
          rw [show L.org + off * L.sz + r * L.sz + c = L.org + ((off + r) * L.sz + c) by rw [Nat.add_mul]; omega]
          exact this
        · obtain ⟨row0, h0, hf, hrlt⟩ := hrow r row hr
          obtain ⟨hl0, hi0⟩ := mapO_at hf
          obtain ⟨x0, hx0, hfx⟩ := hi0 c x hx
          obtain ⟨u, hu, hvu⟩ := ok.cell _ row0 c x0 h0 hx0
          rw [show L.org + ((off + r) * L.sz + c) = L.org + (off + r) * L.sz + c by omega, hu, Option.getD_some]
          refine ih x0 x u hfx hvu (fun b' hb' => hp b' ?_)
          simp only [blks, hBb, List.mem_cons, List.mem_flatMap]
          refine .inr ⟨row0, ?_, x0, List.mem_of_getElem? hx0, hb'⟩
          refine List.mem_of_getElem? (i := r) ?_
          rw [List.getElem?_take_of_lt hrlt, List.getElem?_drop]; exact h0
      · cases h
    | ptr => simp [frz0] at h
    | agg cs =>
      simp only [frz0, Option.map_eq_some_iff] at h
      obtain ⟨ds, hm, rfl⟩ := h
      obtain ⟨us, rfl, hl, hvs⟩ := hv.agg_inv
      obtain ⟨h1, h2⟩ := many hm hl hvs (by simpa [blks] using hp)
      exact .agg _ _ _ h1 h2
    | tup cs =>
      simp only [frz0, Option.map_eq_some_iff] at h
      obtain ⟨ds, hm, rfl⟩ := h
      obtain ⟨us, rfl, hl, hvs⟩ := hv.tup_inv
      obtain ⟨h1, h2⟩ := many hm hl hvs (by simpa [blks] using hp)
      exact .tup _ _ _ h1 h2
    | fn f cs =>
      simp only [frz0, Option.map_eq_some_iff] at h
      obtain ⟨ds, hm, rfl⟩ := h
      obtain ⟨us, rfl, hl, hvs⟩ := hv.fn_inv
      obtain ⟨h1, h2⟩ := many hm hl hvs (by simpa [blks] using hp)
      exact .fn _ _ _ _ h1 h2
    | ifc t x =>
      simp only [frz0, Option.map_eq_some_iff] at h
      obtain ⟨y, hm, rfl⟩ := h
      obtain ⟨u, rfl, hvu⟩ := hv.ifc_inv
      exact .ifc _ _ _ _ (ih _ _ _ hm hvu (by simpa [blks] using hp))
    | _ =>
      simp only [frz0, Option.some.injEq] at h
      subst h
      exact hv.toBare rfl (K.le_seal w p).2

theorem frz_sim {K : Kp} {ro : Nat} {H : Hp} {w : World} (hR : Rel K ro H w) {m : Nat} : ∀ (k : Nat) (x y : IV) (v : Value), frz k H m x = some y → VR K x v → VR ((K.seal w (m ≤ ·)).cut m) y v := by
  have hle : (K.seal w (m ≤ ·)).bare.le ((K.seal w (m ≤ ·)).cut m) := ⟨fun _ _ e => (by cases e), fun _ _ _ h => h⟩
  intro k
  induction k with
  | zero => intro x y v h; simp [frz] at h
  | succ k ih =>
    intro x y v h hv
    have many : ∀ {cs ds : List IV} {us : Array Value}, mapO (frz k H m) cs = some ds → us.size = cs.length → (∀ (i : Nat) (x : IV) (y : Value), cs[i]? = some x → us[i]? = some y → VR K x y) →
        us.size = ds.length ∧ ∀ (i : Nat) (x : IV) (y : Value), ds[i]? = some x → us[i]? = some y → VR ((K.seal w (m ≤ ·)).cut m) x y := by
      intro cs ds us hm hl hvs
      obtain ⟨h1, h2⟩ := mapO_at hm
      refine ⟨by omega, fun i x y hx hy => ?_⟩
      obtain ⟨c, hc, hf⟩ := h2 i x hx
      exact ih c x y hf (hvs i c y hc hy)
    cases x with
    | arr b g off len cap ex =>
      simp only [frz] at h
      split at h
      · rename_i hb
        cases h
        obtain ⟨L, hL, hgl, hat, hsl⟩ := hv.arr_inv
        exact .arr _ _ _ _ _ _ _ _ L (by simp [Kp.cut, hb]; exact hL) hgl hat hsl
      · split at h
        · rename_i hall
          refine (frz0_sim hR (p := (m ≤ ·)) (k + 1) _ _ _ h hv (fun b hb => ?_)).mono hle
          simpa using (List.all_eq_true.1 hall) b hb
        · cases h
    | ptr b g i j =>
      simp only [frz] at h
      split at h
      · rename_i hb
        cases h
        obtain ⟨L, hL, hat, hgl, hsl⟩ := hv.ptr_inv
        exact .ptr _ _ _ _ _ _ L (by simp [Kp.cut, hb]; exact hL) hat hgl hsl
      · cases h
    | agg cs =>
      simp only [frz, Option.map_eq_some_iff] at h
      obtain ⟨ds, hm, rfl⟩ := h
      obtain ⟨us, rfl, hl, hvs⟩ := hv.agg_inv
      obtain ⟨h1, h2⟩ := many hm hl hvs
      exact .agg _ _ _ h1 h2
    | tup cs =>
      simp only [frz, Option.map_eq_some_iff] at h
      obtain ⟨ds, hm, rfl⟩ := h
      obtain ⟨us, rfl, hl, hvs⟩ := hv.tup_inv
      obtain ⟨h1, h2⟩ := many hm hl hvs
      exact .tup _ _ _ h1 h2
    | fn f cs =>
      simp only [frz, Option.map_eq_some_iff] at h
      obtain ⟨ds, hm, rfl⟩ := h
      obtain ⟨us, rfl, hl, hvs⟩ := hv.fn_inv
      obtain ⟨h1, h2⟩ := many hm hl hvs
      exact .fn _ _ _ _ h1 h2
    | ifc t x =>
      simp only [frz, Option.map_eq_some_iff] at h
      obtain ⟨y, hm, rfl⟩ := h
      obtain ⟨u, rfl, hvu⟩ := hv.ifc_inv
      exact .ifc _ _ _ _ (ih _ _ _ hm hvu)
    | _ =>
      simp only [frz, Option.some.injEq] at h
      subst h
      exact (hv.toBare rfl (K.le_seal w (m ≤ ·)).2).mono hle

theorem flatL_at : ∀ {cs : List IV} {i : Nat} {x : IV}, flatV.flatL cs = true → cs[i]? = some x → flatV x = true
  | c :: cs, 0, x, h, hx => by simp [flatV.flatL] at h; simp at hx; subst hx; exact h.1
  | c :: cs, i + 1, x, h, hx => by simp [flatV.flatL] at h; simp at hx; exact flatL_at h.2 hx

/-- What bears no rows needs no claims. -/
theorem VR.flat {K : Kp} {x : IV} {v : Value} (h : VR K x v) : flatV x = true → ∀ κ, VR ⟨K.ρ, κ⟩ x v := by
  induction h with
  | und K v => exact fun _ _ => .und _ v
  | bool K b => exact fun _ _ => .bool _ b
  | int K k n => exact fun _ _ => .int _ k n
  | str K s => exact fun _ _ => .str _ s
  | nptr K => exact fun _ _ => .nptr _
  | ptr K b g i j v L h e hg hp => exact fun _ _ => .ptr _ b g i j v L h e hg hp
  | eptr => intro h; simp [flatV] at h
  | nsl K => exact fun _ _ => .nsl _
  | imm => intro h; simp [flatV] at h
  | arr K b g off len cap ex v L h hg e hp => exact fun _ _ => .arr _ b g off len cap ex v L h hg e hp
  | fn K f caps us hl _ ih => exact fun hf κ => .fn _ f caps us hl (fun i x y h1 h2 => ih i x y h1 h2 (flatL_at (by simpa [flatV] using hf) h1) κ)
  | nfn K => exact fun _ _ => .nfn _
  | nif K => exact fun _ _ => .nif _
  | ifc K t v u _ ih => exact fun hf κ => .ifc _ t v u (ih (by simpa [flatV] using hf) κ)
  | agg K cs us hl _ ih => exact fun hf κ => .agg _ cs us hl (fun i x y h1 h2 => ih i x y h1 h2 (flatL_at (by simpa [flatV] using hf) h1) κ)
  | tup K cs us hl _ ih => exact fun hf κ => .tup _ cs us hl (fun i x y h1 h2 => ih i x y h1 h2 (flatL_at (by simpa [flatV] using hf) h1) κ)

end Go.Vs
/- Calls: entered; those that leave the heap as it is. -/
namespace Go.Vs
open Go Go.RowKit

def ArgsOk (K : Kp) (xs : List IV) (vs : Array Value) : Prop := vs.size = xs.length ∧ ∀ (i : Nat) (x : IV) (y : Value), xs[i]? = some x → vs[i]? = some y → VR K x y

theorem ArgsOk.mono {K K' : Kp} {xs : List IV} {vs : Array Value} (h : ArgsOk K xs vs) (hK : K.le K') : ArgsOk K' xs vs := ⟨h.1, fun i x y h1 h2 => (h.2 i x y h1 h2).mono hK⟩

/-- A call comes back. -/
def CallOk (P : Program) (cf : CallF) : Prop := ∀ ro f args H x H', cf ro f args H = some (x, H') → H.length ≤ H'.length ∧ hasBody P f = true ∧
  ∀ K w vs, Rel K ro H w → ArgsOk K args vs → Calls P f vs w fun e w' => ∃ v, e = .returned v ∧ Step K ro H w H' w' x v

theorem Quiet.le {K K' : Kp} {w w' : World} (h : Quiet K K' w w') : K.le K' := ⟨fun b L hb => ⟨L, by rw [h.rho]; exact hb, Nat.le_refl _, fun _ => rfl⟩, h.kap⟩

theorem Quiet.refl {K : Kp} {ro : Nat} {H : Hp} {w : World} (hR : Rel K ro H w) : Quiet K K w w := ⟨rfl, fun _ _ _ h => h, hR.claim, fun _ _ h => .inl h, Below.refl _ _⟩

theorem Quiet.rel {K K' : Kp} {w w' : World} (h : Quiet K K' w w') {ro : Nat} {H : Hp} (hR : Rel K ro H w) : Rel K' ro H w' := by
  refine ⟨fun b L hb => ?_, fun b b' L L' hb hb' => hR.inj b b' L L' (by rw [← h.rho]; exact hb) (by rw [← h.rho]; exact hb'), h.claim, fun b L B hb hB hr hf i hi => ?_, hR.low⟩
  · rw [h.rho] at hb
    obtain ⟨B, hB, ok⟩ := hR.blk b L hb
    exact ⟨B, hB, (ok.mono h.le).world (h.bel.block _ ok.lt) h.bel.size⟩
  · rw [h.rho] at hb
    cases hc : K'.κ L.blk i with
    | none => rfl
    | some v =>
      rcases h.fresh L.blk i (by rw [hc]; simp) with h1 | h1
      · exact absurd (hR.own b L B hb hB hr hf i hi) h1
      · obtain ⟨B', _, ok⟩ := hR.blk b L hb
        have := ok.lt; omega

theorem Quiet.fr {K K' : Kp} {w w' : World} (h : Quiet K K' w w') (ro hl : Nat) : Fr K K' ro hl hl w w' := by
  refine ⟨h.bel.mono (Nat.zero_le _), Nat.le_refl _, fun k hk _ => h.bel.block k hk, fun k i hc => ?_, fun b L' hb => .inr ⟨_, L', .inl rfl, by rw [← h.rho]; exact hb, rfl⟩, fun b _ hb => by rw [h.rho]; exact hb, fun b _ => by rw [h.rho]⟩
  rcases h.fresh k i hc with h1 | h1
  · exact .inl h1
  · exact .inr (.inl h1)

theorem markF_spec {ro : Nat} : ∀ {S : List Nat} {H H' : Hp}, markF ro S H = some H' → H'.length = H.length ∧ (∀ s ∈ S, ro ≤ s) ∧ (∀ s ∈ S, ∀ B, H'[s]? = some B → B.frz = true) ∧
    ∀ (b : Nat) (B' : Bk), H'[b]? = some B' → ∃ B, H[b]? = some B ∧ B'.rows = B.rows ∧ B'.gen = B.gen ∧ (B.frz = true → B'.frz = true) ∧ B'.ty = B.ty
  | [], H, H', h => by
    simp only [markF, Option.some.injEq] at h
    subst h
    exact ⟨rfl, by simp, by simp, fun b B' h => ⟨B', h, rfl, rfl, fun h => h, rfl⟩⟩
  | s :: S, H, H', h => by
    simp only [markF] at h
    split at h
    · rename_i hr
      split at h
      · rename_i B hB
        obtain ⟨h1, h2, h3, h4⟩ := markF_spec h
        have hlt := (List.getElem?_eq_some_iff.1 hB).1
        refine ⟨by simpa using h1, fun x hx => ?_, fun x hx B' hB' => ?_, fun b B' hB' => ?_⟩
        · rcases List.mem_cons.1 hx with rfl | hx
          · exact hr
          · exact h2 x hx
        · rcases List.mem_cons.1 hx with rfl | hx
          · obtain ⟨B1, hB1, _, _, e3, _⟩ := h4 _ B' hB'
            rw [List.getElem?_set_self hlt] at hB1
            cases hB1
            exact e3 rfl
          · exact h3 x hx B' hB'
        · obtain ⟨B1, hB1, e1, e2, e3, e4⟩ := h4 b B' hB'
          by_cases hb : s = b
          · subst hb
            rw [List.getElem?_set_self hlt] at hB1
            cases hB1
            exact ⟨B, hB, e1, e2, fun _ => e3 rfl, e4⟩
          · rw [List.getElem?_set_ne hb] at hB1
            exact ⟨B1, hB1, e1, e2, e3, e4⟩
      · cases h
    · cases h

theorem markF_all {ro : Nat} {S : List Nat} {H H' : Hp} (h : markF ro S H = some H') (b : Nat) (B : Bk) (hB : H[b]? = some B) : ∃ B', H'[b]? = some B' ∧ B'.rows = B.rows ∧ B'.gen = B.gen ∧ B'.ty = B.ty := by
  obtain ⟨h1, _, _, h4⟩ := markF_spec h
  have hlt := (List.getElem?_eq_some_iff.1 hB).1
  have hB' : H'[b]? = some H'[b] := List.getElem?_eq_getElem (by omega)
  obtain ⟨B1, hB1, e1, e2, _, e4⟩ := h4 b _ hB'
  rw [hB] at hB1; cases hB1
  exact ⟨_, hB', e1, e2, e4⟩

theorem callP_sim {P : Program} {cf : CallF} (hcf : CallOk P cf) {ro : Nat} {st : Bool} {f : Nat} {args : List IV} {H H' : Hp} {x : IV} (h : callP cf ro st f args H = some (x, H')) :
    H.length ≤ H'.length ∧ hasBody P f = true ∧ (st = true → H' = H) ∧ ∀ K w vs, Rel K ro H w → ArgsOk K args vs → Calls P f vs w fun e w' => ∃ v, e = .returned v ∧
      Step K ro H w H' w' x v ∧ (st = true → ∃ K', Quiet K K' w w' ∧ VR K' x v) := by
  simp only [callP, Option.bind_eq_some_iff] at h
  obtain ⟨⟨r1, H2⟩, hcall, v1, hfrz, h⟩ := h
  simp only at hfrz h
  obtain ⟨hlen2, hb, hcalls⟩ := hcf _ _ _ _ _ _ hcall
  have hH : H.length ≤ H'.length ∧ (st = true → H' = H) := by
    split at h
    · cases h; exact ⟨Nat.le_refl _, fun _ => rfl⟩
    · split at h
      · split at h
        · cases h; exact ⟨Nat.le_refl _, fun _ => rfl⟩
        · cases h
      · rename_i hst
        simp only [Option.bind_eq_some_iff, Option.some.injEq, Prod.mk.injEq] at h
        obtain ⟨H3, hm, _, rfl⟩ := h
        exact ⟨by rw [(markF_spec hm).1]; exact Nat.le_refl _, fun h => absurd h hst⟩
  refine ⟨hH.1, hb, hH.2, fun K w vs hR hargs => ?_⟩
  have hR' := hR.sealed (· ∈ args.flatMap (blks frzD H))
  have hargs' : ArgsOk (K.seal w (· ∈ args.flatMap (blks frzD H))) (args.map (frzArg H)) vs := by
    refine ⟨by simp [hargs.1], fun i x y hx hy => ?_⟩
    rw [List.getElem?_map] at hx
    cases hai : args[i]? with
    | none => simp [hai] at hx
    | some a0 =>
      simp [hai] at hx; subst hx
      have hv := hargs.2 i a0 y hai hy
      unfold frzArg
      cases hz : frz0 frzD H a0 with
      | none => exact hv.mono (K.le_seal _ _)
      | some z =>
        refine (frz0_sim hR frzD a0 z y hz hv (fun b hb => ?_)).mono (Kp.bare_le _)
        exact List.mem_flatMap.2 ⟨a0, List.mem_of_getElem? hai, hb⟩
  refine Calls.mono (hcalls _ _ _ hR' hargs') (fun e w' he => ?_)
  obtain ⟨v, rfl, K1, hle1, hR1, hv1, hF1⟩ := he
  refine ⟨v, rfl, ?_⟩
  have hx1 := frz_sim hR1 frzD _ _ _ hfrz hv1
  -- the places are as before
  have hrho : ((K1.seal w' (H.length ≤ ·)).cut H.length).ρ = K.ρ := by
    funext b
    simp only [Kp.cut, Kp.seal]
    split
    · rename_i hb; exact hF1.low b hb
    · rename_i hb; exact (hR.out (by omega)).symm
  have hnone : ∀ b, H.length ≤ b → (K.seal w (· ∈ args.flatMap (blks frzD H))).ρ b = none := fun b hb => hR.out hb
  have hbel : Below w.heap.size w w' := ⟨hF1.bel.os, hF1.bel.tape, hF1.bel.output, hF1.bel.size, fun k hk => hF1.keep k hk (fun b L hb hL => by rw [hnone b hb] at hL; cases hL)⟩
  have hkap : ∀ b i v, K.κ b i = some v → (K1.seal w' (H.length ≤ ·)).κ b i = some v := fun b i v h => (K1.le_seal _ _).2 _ _ _ (hle1.2 _ _ _ ((K.le_seal _ _).2 _ _ _ h))
  have hclaim : ∀ b i v, (K1.seal w' (H.length ≤ ·)).κ b i = some v → w'.cell? (ad b i) = some v ∧ v.oneCell' = true := fun b i v h => Kp.seal_claim hR1 _ h
  have horig : ∀ b i, (K1.seal w' (H.length ≤ ·)).κ b i ≠ none → K.κ b i ≠ none ∨ (∃ s L, s ∈ args.flatMap (blks frzD H) ∧ K.ρ s = some L ∧ L.blk = b) ∨ w.heap.size ≤ b := by
    intro b i hne
    obtain ⟨u, hu⟩ := Option.ne_none_iff_exists'.1 hne
    rcases Kp.seal_some hu with h1 | ⟨⟨x, L, hx, hL, rfl, _, _⟩, _⟩
    · rcases hF1.claim b i (by rw [h1]; simp) with h2 | h2 | ⟨b', L, hb', hL, _⟩
      · obtain ⟨u', hu'⟩ := Option.ne_none_iff_exists'.1 h2
        rcases Kp.seal_some hu' with h3 | ⟨⟨s, L, hs, hL, e, _, _⟩, _⟩
        · exact .inl (by rw [h3]; simp)
        · exact .inr (.inl ⟨s, L, hs, hL, e⟩)
      · exact .inr (.inr h2)
      · rw [hnone b' hb'] at hL; cases hL
    · rcases hF1.loc x L hL with h2 | ⟨c, L0, hc, h0, _⟩
      · exact .inr (.inr h2)
      · rw [hnone c (by omega)] at h0; cases h0
  have hx2 : VR ⟨K.ρ, (K1.seal w' (H.length ≤ ·)).κ⟩ v1 v := by rw [← hrho]; exact hx1
  have quietStep : ∀ {K'}, Quiet K K' w w' → VR K' x v → Step K ro H w H w' x v := fun hq hvq => ⟨_, hq.le, hq.rel hR, hvq, hq.fr ro H.length⟩
  split at h
  · rename_i hfl
    cases h
    have hq : Quiet K K w w' := ⟨rfl, fun _ _ _ h => h, fun b i v h => hclaim b i v (hkap b i v h), fun _ _ h => .inl h, hbel⟩
    have hvq : VR K x v := hx2.flat hfl K.κ
    exact ⟨quietStep hq hvq, fun _ => ⟨K, hq, hvq⟩⟩
  · split at h
    · split at h
      · rename_i hS
        cases h
        have hq : Quiet K ⟨K.ρ, (K1.seal w' (H.length ≤ ·)).κ⟩ w w' := by
          refine ⟨rfl, hkap, hclaim, fun b i hc => ?_, hbel⟩
          rcases horig b i hc with h1 | ⟨s, L, hs, _⟩ | h1
          · exact .inl h1
          · rw [hS] at hs; cases hs
          · exact .inr h1
        exact ⟨quietStep hq hx2, fun _ => ⟨_, hq, hx2⟩⟩
      · cases h
    · rename_i hst
      simp only [Option.bind_eq_some_iff, Option.some.injEq, Prod.mk.injEq] at h
      obtain ⟨H3, hm, rfl, rfl⟩ := h
      obtain ⟨m1, m2, m3, m4⟩ := markF_spec hm
      have hle2 : K.le ⟨K.ρ, (K1.seal w' (H.length ≤ ·)).κ⟩ := ⟨fun b L hb => ⟨L, hb, Nat.le_refl _, fun _ => rfl⟩, hkap⟩
      refine ⟨⟨⟨K.ρ, (K1.seal w' (H.length ≤ ·)).κ⟩, hle2, ⟨fun b L hb => ?_, hR.inj, hclaim, fun b L B hb hB hr hf i hi => ?_, by rw [m1]; exact hR.low⟩, hx2, ?_⟩, fun h => absurd h hst⟩
      · obtain ⟨B, hB, ok⟩ := hR.blk b L hb
        obtain ⟨B', hB', e1, e2, e4⟩ := markF_all hm b B hB
        refine ⟨B', hB', ?_⟩
        have ok' := (ok.mono hle2).world (hbel.block _ ok.lt) hbel.size
        exact ⟨by rw [e2]; exact ok'.gen, ok'.lt, by rw [e1]; exact ok'.len, by rw [e1]; exact ok'.fit, ok'.there, ok'.soft, by rw [e1]; exact ok'.cell, by rw [e4]; exact ok'.ety⟩
      · obtain ⟨B0, hB0, _, _, e3, _⟩ := m4 b B hB
        have hf0 : B0.frz = false := by
          cases h : B0.frz with
          | false => rfl
          | true => rw [e3 h] at hf; cases hf
        cases hc : (K1.seal w' (H.length ≤ ·)).κ L.blk i with
        | none => rfl
        | some u =>
          rcases horig L.blk i (by rw [hc]; simp) with h1 | ⟨s, L', hs, hL', e⟩ | h1
          · exact absurd (hR.own b L B0 hb hB0 hr hf0 i hi) h1
          · obtain rfl := hR.inj _ _ _ _ hL' hb e
            rw [m3 _ hs B hB] at hf; cases hf
          · obtain ⟨B', _, ok⟩ := hR.blk b L hb
            have := ok.lt; omega
      · refine ⟨hbel.mono (Nat.zero_le _), by rw [m1]; exact Nat.le_refl _, fun k hk _ => hbel.block k hk, fun k i hc => ?_, fun b L' hb => .inr ⟨_, L', .inl rfl, hb, rfl⟩, fun b _ hb => hb, fun b _ => rfl⟩
        rcases horig k i hc with h1 | ⟨s, L', hs, hL', e⟩ | h1
        · exact .inl h1
        · exact .inr (.inr ⟨s, L', m2 s hs, hL', e⟩)
        · exact .inr (.inl h1)

/-! ### Entering -/

theorem run_enter {P : Program} {f : Nat} (hb : hasBody P f = true) (vs : Array Value) (w : World) : (callFunc f vs).run P w = .ok (.enter f vs) w := by
  unfold hasBody at hb
  split at hb
  · rename_i fn hf
    simp only [Bool.and_eq_true, Bool.not_eq_true'] at hb
    obtain ⟨h1, h2⟩ := hb
    have h3 : fn.body ≠ none := by intro h; simp [h] at h1
    have h2' : fn.name ≠ "runtime.NumGoroutine" := by simpa using h2
    simp [callFunc, hf, h2', h3]
  · cases hb

theorem args_ok {K : Kp} {e : Env} {a : Act} (he : EnvOk K e a) {xs : Array Operand} {as : List Opd} (hs : cOpds xs.toList = some as) {caps : List IV} {us : Array Value} (hl : us.size = caps.length) (hv : ∀ (i : Nat) (x : IV) (y : Value), caps[i]? = some x → us[i]? = some y → VR K x y) :
    ArgsOk K (as.map (ev e) ++ caps) (xs.map a.eval ++ us) := by
  obtain ⟨h1, h2⟩ := mapO_some hs
  have h1' : as.length = xs.size := by simpa using h1
  refine ⟨by simp [hl, h1'], fun i x y hx hy => ?_⟩
  by_cases hi : i < as.length
  · rw [List.getElem?_append_left (by simpa using hi), List.getElem?_map] at hx
    rw [Array.getElem?_append_left (by simp; omega), Array.getElem?_map] at hy
    have hxs : xs[i]? = some xs[i] := Array.getElem?_eq_getElem (by omega)
    have has : as[i]? = some as[i] := List.getElem?_eq_getElem hi
    rw [has] at hx; rw [hxs] at hy
    simp at hx hy
    subst hx hy
    exact he.ev (h2 i _ _ (by simp) has)
  · rw [List.getElem?_append_right (by simp; omega)] at hx
    rw [Array.getElem?_append_right (by simp; omega)] at hy
    simp at hx hy
    rw [← h1'] at hy
    exact hv _ _ _ hx hy

theorem call_enter {P : Program} {K : Kp} {e : Env} {a : Act} {o : Oper} {im : Bool} {m m' : Nat} {fo : Opd} {as : List Opd} (hi : isCall o.op = true) (hc : cOp P im m o.op = some (.call m' fo as)) (he : EnvOk K e a) {f : Nat} {caps : List IV} (hf : ev e fo = .fn f caps) (hb : hasBody P f = true) :
    ∃ vs, (∀ w, (execOp a.eval o).run P w = .ok (.enter f vs) w) ∧ ArgsOk K (as.map (ev e) ++ caps) vs := by
  cases hop : o.op with
  | call c =>
    obtain ⟨callee, args, ats⟩ := c
    simp only [hop, cOp, cCall, Option.bind_eq_some_iff] at hc
    obtain ⟨as', has, hc⟩ := hc
    have main : ∀ g, callee = .value g → cOpd g = some fo → as' = as → ∃ vs, (∀ w, (execOp a.eval o).run P w = .ok (.enter f vs) w) ∧ ArgsOk K (as.map (ev e) ++ caps) vs := by
      intro g hg hgo has'
      subst hg has'
      have hv := he.ev hgo
      rw [hf] at hv
      obtain ⟨us, hgv, hl, hvs⟩ := hv.fn_inv
      refine ⟨args.map a.eval ++ us, fun w => ?_, args_ok he has hl hvs⟩
      simp [execOp, hop, resolve, Deferred.ofValue, hgv, invoke, run_enter hb]
    cases callee with
    | value g =>
      cases g with
      | func g =>
        simp only at hc
        split at hc
        · rename_i fn hfn
          split at hc
          · cases hc
          · split at hc
            · cases hc; exact main _ rfl rfl rfl
            · split at hc
              · cases hp : prOf fn.name <;> rw [hp] at hc <;> cases hc
              · split at hc
                · split at hc <;> cases hc
                · cases hc
        · cases hc
      | tmp t => simp [cOpd] at hc; exact main _ rfl (by simp [cOpd]; exact hc.2.1) hc.2.2
      | const v => simp [cOpd] at hc; exact main _ rfl (by simp [cOpd]; exact hc.2.1) hc.2.2
      | global g => simp [cOpd] at hc
    | invoke r m => cases hc
    | builtin b => simp [hop, isCall] at hi
  | _ => simp [hop, isCall] at hi

end Go.Vs
