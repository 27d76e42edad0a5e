/- Freezing; a call that leaves the heap as it is. -/
import Derived.Test.YtinmpfflkcnkfaaVsOp
namespace Go.Vs
open Go Go.RowKit

def Kp.cut (K : Kp) (n : Nat) : Kp := ⟨fun b => if b < n then K.ρ b else none, K.κ⟩

open Classical in
/-- Claims besides: every cell of the blocks of 'p'. -/
noncomputable def Kp.seal (K : Kp) (w : World) (p : Nat → Prop) : Kp :=
  ⟨K.ρ, fun b i => match K.κ b i with
    | some v => some v
    | none => if ∃ x L, p x ∧ K.ρ x = some L ∧ L.blk = b ∧ L.org ≤ i ∧ i < L.org + L.ext then w.cell? (ad b i) else none⟩

theorem Kp.le_seal (K : Kp) (w : World) (p : Nat → Prop) : K.le (K.seal w p) :=
  ⟨fun _ L h => ⟨L, h, Nat.le_refl _, fun _ => rfl⟩, fun b i v h => by simp [Kp.seal, h]⟩

theorem Kp.seal_some {K : Kp} {w : World} {p : Nat → Prop} {b i : Nat} {v : Value} (h : (K.seal w p).κ b i = some v) :
    K.κ b i = some v ∨ ((∃ x L, p x ∧ K.ρ x = some L ∧ L.blk = b ∧ L.org ≤ i ∧ i < L.org + L.ext) ∧ w.cell? (ad b i) = some v) := by
  simp only [Kp.seal] at h
  split at h
  · rename_i u hu; left; rw [hu]; exact h
  · split at h
    · rename_i hx; exact .inr ⟨hx, h⟩
    · cases h

/-- A sealed cell. -/
theorem Kp.seal_at {K : Kp} {ro : Nat} {H : Hp} {w : World} (hR : Rel K ro H w) {p : Nat → Prop} {x : Nat} {L : Loc} (hL : K.ρ x = some L) (hp : p x) {i : Nat} {v : Value} (hi : i < L.ext) (hv : w.cell? (ad L.blk (L.org + i)) = some v) :
    (K.seal w p).κ L.blk (L.org + i) = some v := by
  simp only [Kp.seal]
  split
  · rename_i u hu
    have := (hR.claim _ _ _ hu).1
    rw [hv] at this; rw [this]
  · rw [if_pos ⟨x, L, hp, hL, rfl, by omega, by omega⟩]; exact hv

theorem Kp.seal_claim {K : Kp} {ro : Nat} {H : Hp} {w : World} (hR : Rel K ro H w) (p : Nat → Prop) {b i : Nat} {v : Value} (h : (K.seal w p).κ b i = some v) : w.cell? (ad b i) = some v ∧ v.oneCell' = true := by
  rcases Kp.seal_some h with h | ⟨⟨x, L, _, hL, rfl, h1, h2⟩, hv⟩
  · exact hR.claim b i v h
  · obtain ⟨B, hB, ok⟩ := hR.blk x L hL
    obtain ⟨u, hu, ho⟩ := ok.there (i - L.org) (by omega)
    rw [show L.org + (i - L.org) = i by omega] at hu
    rw [hv] at hu; cases hu
    exact ⟨hv, ho⟩

theorem Rel.sealed {K : Kp} {ro : Nat} {H : Hp} {w : World} (hR : Rel K ro H w) (p : Nat → Prop) : Rel (K.seal w p) H.length H w := by
  refine ⟨fun b L hb => ?_, hR.inj, fun b i v h => Kp.seal_claim hR p h, fun b L B hb _ hr => ?_, Nat.le_refl _⟩
  · obtain ⟨B, hB, ok⟩ := hR.blk b L hb
    exact ⟨B, hB, ok.mono (K.le_seal w p)⟩
  · have := hR.lt (b := b) (L := L) hb; omega

/-- What names no block stands without any. -/
def noBlk : IV → Bool
  | .ptr .. | .arr .. | .agg _ | .tup _ | .fn _ _ | .ifc _ _ => false
  | _ => true

theorem VR.toBare {K K' : Kp} {x : IV} {v : Value} (h : VR K x v) (hn : noBlk x = true) (hk : ∀ b i v, K.κ b i = some v → K'.κ b i = some v) : VR K'.bare x v := by
  have hb : K.bare.le K'.bare := ⟨fun _ _ e => (by cases e), hk⟩
  cases h <;> first | (simp [noBlk] at hn; done) | skip
  case und => exact .und _ _
  case bool => exact .bool _ _
  case int => exact .int _ _ _
  case str => exact .str _ _
  case nptr => exact .nptr _
  case nsl => exact .nsl _
  case nfn => exact .nfn _
  case nif => exact .nif _
  case eptr h1 h2 h3 => exact .eptr _ _ _ _ _ _ _ _ h1 (fun r row c a b => hk _ _ _ (h2 r row c a b)) (fun r row c x a b => (h3 r row c x a b).mono hb)
  case imm hf h1 h2 h3 => exact .imm _ _ _ _ _ _ _ _ _ _ ‹_› ‹_› ‹_› hf h1 (fun r row c a b => hk _ _ _ (h2 r row c a b)) (fun r row c x a b => (h3 r row c x a b).mono hb)

theorem mapO_at {α β : Type} {f : α → Option β} {l : List α} {r : List β} (h : mapO f l = some r) : l.length = r.length ∧ ∀ (i : Nat) (y : β), r[i]? = some y → ∃ x, l[i]? = some x ∧ f x = some y := by
  obtain ⟨h1, h2⟩ := mapO_some h
  refine ⟨h1.symm, fun i y hy => ?_⟩
  obtain ⟨hi, _⟩ := List.getElem?_eq_some_iff.1 hy
  have hl : l[i]? = some l[i] := List.getElem?_eq_getElem (by omega)
  exact ⟨_, hl, h2 i _ _ hl hy⟩

theorem frz0_sim {K : Kp} {ro : Nat} {H : Hp} {w : World} (hR : Rel K ro H w) {p : Nat → Prop} : ∀ (k : Nat) (x y : IV) (v : Value), frz0 k H x = some y → VR K x v → (∀ b ∈ blks k H x, p b) → VR (K.seal w p).bare y v := by
  intro k
  induction k with
  | zero => intro x y v h; simp [frz0] at h
  | succ k ih =>
    intro x y v h hv hp
    have many : ∀ {cs ds : List IV} {us : Array Value}, mapO (frz0 k H) cs = some ds → us.size = cs.length → (∀ (i : Nat) (x : IV) (y : Value), cs[i]? = some x → us[i]? = some y → VR K x y) → (∀ b ∈ cs.flatMap (blks k H), p b) →
        us.size = ds.length ∧ ∀ (i : Nat) (x : IV) (y : Value), ds[i]? = some x → us[i]? = some y → VR (K.seal w p).bare x y := by
      intro cs ds us hm hl hvs hb
      obtain ⟨h1, h2⟩ := mapO_at hm
      refine ⟨by omega, fun i x y hx hy => ?_⟩
      obtain ⟨c, hc, hf⟩ := h2 i x hx
      exact ih c x y hf (hvs i c y hc hy) (fun b hbb => hb b (List.mem_flatMap.2 ⟨c, List.mem_of_getElem? hc, hbb⟩))
    cases x with
    | arr b g off len cap ex =>
      simp only [frz0, Option.bind_eq_some_iff] at h
      obtain ⟨B, hB, h⟩ := h
      obtain ⟨L, hL, hgl, hat, hsl⟩ := hv.arr_inv
      have hBb := hB
      obtain ⟨hB, hg⟩ := blkAt_some hB
      obtain ⟨B', hB', ok⟩ := hR.blk b L hL
      obtain rfl : B = B' := by rw [hB] at hB'; exact Option.some.inj hB'
      split at h
      · rename_i hfit
        simp only [Option.map_eq_some_iff] at h
        obtain ⟨rows, hm, rfl⟩ := h
        obtain ⟨a, cap', rfl, ha, hc1, hc2, hc3, hc4⟩ := hat (by rw [← ok.gen]; exact hg)
        obtain ⟨hrl, hri⟩ := mapO_at hm
        have hrl' : rows.length = len := by rw [← hrl]; simp; omega
        have hpb : p b := hp b (by simp [blks])
        have hrow : ∀ (r : Nat) (row : List IV), rows[r]? = some row → ∃ row0, B.rows[off + r]? = some row0 ∧ mapO (frz0 k H) row0 = some row ∧ r < len := by
          intro r row hr
          obtain ⟨row0, h0, hf⟩ := hri r row hr
          have hrlt : r < len := by rw [← hrl']; exact (List.getElem?_eq_some_iff.1 hr).1
          rw [List.getElem?_take_of_lt hrlt, List.getElem?_drop] at h0
          exact ⟨row0, h0, hf, hrlt⟩
        have hinext : ∀ r c, r < len → c < L.sz → (off + r) * L.sz + c < L.ext := by
          intro r c hr hcc
          have h1 : (off + r + 1) * L.sz ≤ B.rows.length * L.sz := Nat.mul_le_mul_right _ (by omega)
          have := ok.fit
          rw [Nat.add_mul, Nat.one_mul] at h1
          omega
        refine .imm _ rows _ a len cap' L.blk (L.org + off * L.sz) L.sz (fun r c => (w.cell? (ad L.blk (L.org + ((off + r) * L.sz + c)))).getD undef) hrl'.symm
          (fun hne => ha ?_) (by omega) (fun hfull => ?_) (fun r row hr => ?_) (fun r row c hr hcs => ?_) (fun r row c x hr hx => ?_)
        · have : 0 < rows.length := List.length_pos_iff.2 hne
          omega
        · simp at hfull
          have := hc3 hfull.1
          omega
        · obtain ⟨row0, h0, hf, _⟩ := hrow r row hr
          rw [← (mapO_at hf).1]; exact ok.len _ _ h0
        · obtain ⟨row0, h0, hf, hrlt⟩ := hrow r row hr
          have hlt := hinext r c hrlt hcs
          obtain ⟨u, hu, _⟩ := ok.there _ hlt
          rw [hu, Option.getD_some]
          have := Kp.seal_at hR (p := p) hL hpb hlt hu
          rw [show L.org + off * L.sz + r * L.sz + c = L.org + ((off + r) * L.sz + c) by rw [Nat.add_mul]; omega]
          exact this
        · obtain ⟨row0, h0, hf, hrlt⟩ := hrow r row hr
          obtain ⟨hl0, hi0⟩ := mapO_at hf
          obtain ⟨x0, hx0, hfx⟩ := hi0 c x hx
          obtain ⟨u, hu, hvu⟩ := ok.cell _ row0 c x0 h0 hx0
          rw [show L.org + ((off + r) * L.sz + c) = L.org + (off + r) * L.sz + c by omega, hu, Option.getD_some]
          refine ih x0 x u hfx hvu (fun b' hb' => hp b' ?_)
          simp only [blks, hBb, List.mem_cons, List.mem_flatMap]
          refine .inr ⟨row0, ?_, x0, List.mem_of_getElem? hx0, hb'⟩
          refine List.mem_of_getElem? (i := r) ?_
          rw [List.getElem?_take_of_lt hrlt, List.getElem?_drop]; exact h0
      · cases h
    | ptr => simp [frz0] at h
    | agg cs =>
      simp only [frz0, Option.map_eq_some_iff] at h
      obtain ⟨ds, hm, rfl⟩ := h
      obtain ⟨us, rfl, hl, hvs⟩ := hv.agg_inv
      obtain ⟨h1, h2⟩ := many hm hl hvs (by simpa [blks] using hp)
      exact .agg _ _ _ h1 h2
    | tup cs =>
      simp only [frz0, Option.map_eq_some_iff] at h
      obtain ⟨ds, hm, rfl⟩ := h
      obtain ⟨us, rfl, hl, hvs⟩ := hv.tup_inv
      obtain ⟨h1, h2⟩ := many hm hl hvs (by simpa [blks] using hp)
      exact .tup _ _ _ h1 h2
    | fn f cs =>
      simp only [frz0, Option.map_eq_some_iff] at h
      obtain ⟨ds, hm, rfl⟩ := h
      obtain ⟨us, rfl, hl, hvs⟩ := hv.fn_inv
      obtain ⟨h1, h2⟩ := many hm hl hvs (by simpa [blks] using hp)
      exact .fn _ _ _ _ h1 h2
    | ifc t x =>
      simp only [frz0, Option.map_eq_some_iff] at h
      obtain ⟨y, hm, rfl⟩ := h
      obtain ⟨u, rfl, hvu⟩ := hv.ifc_inv
      exact .ifc _ _ _ _ (ih _ _ _ hm hvu (by simpa [blks] using hp))
    | _ =>
      simp only [frz0, Option.some.injEq] at h
      subst h
      exact hv.toBare rfl (K.le_seal w p).2

theorem frz_sim {K : Kp} {ro : Nat} {H : Hp} {w : World} (hR : Rel K ro H w) {m : Nat} : ∀ (k : Nat) (x y : IV) (v : Value), frz k H m x = some y → VR K x v → VR ((K.seal w (m ≤ ·)).cut m) y v := by
  have hle : (K.seal w (m ≤ ·)).bare.le ((K.seal w (m ≤ ·)).cut m) := ⟨fun _ _ e => (by cases e), fun _ _ _ h => h⟩
  intro k
  induction k with
  | zero => intro x y v h; simp [frz] at h
  | succ k ih =>
    intro x y v h hv
    have many : ∀ {cs ds : List IV} {us : Array Value}, mapO (frz k H m) cs = some ds → us.size = cs.length → (∀ (i : Nat) (x : IV) (y : Value), cs[i]? = some x → us[i]? = some y → VR K x y) →
        us.size = ds.length ∧ ∀ (i : Nat) (x : IV) (y : Value), ds[i]? = some x → us[i]? = some y → VR ((K.seal w (m ≤ ·)).cut m) x y := by
      intro cs ds us hm hl hvs
      obtain ⟨h1, h2⟩ := mapO_at hm
      refine ⟨by omega, fun i x y hx hy => ?_⟩
      obtain ⟨c, hc, hf⟩ := h2 i x hx
      exact ih c x y hf (hvs i c y hc hy)
    cases x with
    | arr b g off len cap ex =>
      simp only [frz] at h
      split at h
      · rename_i hb
        cases h
        obtain ⟨L, hL, hgl, hat, hsl⟩ := hv.arr_inv
        exact .arr _ _ _ _ _ _ _ _ L (by simp [Kp.cut, hb]; exact hL) hgl hat hsl
      · split at h
        · rename_i hall
          refine (frz0_sim hR (p := (m ≤ ·)) (k + 1) _ _ _ h hv (fun b hb => ?_)).mono hle
          simpa using (List.all_eq_true.1 hall) b hb
        · cases h
    | ptr b g i j =>
      simp only [frz] at h
      split at h
      · rename_i hb
        cases h
        obtain ⟨L, hL, hat, hgl, hsl⟩ := hv.ptr_inv
        exact .ptr _ _ _ _ _ _ L (by simp [Kp.cut, hb]; exact hL) hat hgl hsl
      · cases h
    | agg cs =>
      simp only [frz, Option.map_eq_some_iff] at h
      obtain ⟨ds, hm, rfl⟩ := h
      obtain ⟨us, rfl, hl, hvs⟩ := hv.agg_inv
      obtain ⟨h1, h2⟩ := many hm hl hvs
      exact .agg _ _ _ h1 h2
    | tup cs =>
      simp only [frz, Option.map_eq_some_iff] at h
      obtain ⟨ds, hm, rfl⟩ := h
      obtain ⟨us, rfl, hl, hvs⟩ := hv.tup_inv
      obtain ⟨h1, h2⟩ := many hm hl hvs
      exact .tup _ _ _ h1 h2
    | fn f cs =>
      simp only [frz, Option.map_eq_some_iff] at h
      obtain ⟨ds, hm, rfl⟩ := h
      obtain ⟨us, rfl, hl, hvs⟩ := hv.fn_inv
      obtain ⟨h1, h2⟩ := many hm hl hvs
      exact .fn _ _ _ _ h1 h2
    | ifc t x =>
      simp only [frz, Option.map_eq_some_iff] at h
      obtain ⟨y, hm, rfl⟩ := h
      obtain ⟨u, rfl, hvu⟩ := hv.ifc_inv
      exact .ifc _ _ _ _ (ih _ _ _ hm hvu)
    | _ =>
      simp only [frz, Option.some.injEq] at h
      subst h
      exact (hv.toBare rfl (K.le_seal w (m ≤ ·)).2).mono hle

theorem flatL_at : ∀ {cs : List IV} {i : Nat} {x : IV}, flatV.flatL cs = true → cs[i]? = some x → flatV x = true
  | c :: cs, 0, x, h, hx => by simp [flatV.flatL] at h; simp at hx; subst hx; exact h.1
  | c :: cs, i + 1, x, h, hx => by simp [flatV.flatL] at h; simp at hx; exact flatL_at h.2 hx

/-- What bears no rows needs no claims. -/
theorem VR.flat {K : Kp} {x : IV} {v : Value} (h : VR K x v) : flatV x = true → ∀ κ, VR ⟨K.ρ, κ⟩ x v := by
  induction h with
  | und K v => exact fun _ _ => .und _ v
  | bool K b => exact fun _ _ => .bool _ b
  | int K k n => exact fun _ _ => .int _ k n
  | str K s => exact fun _ _ => .str _ s
  | nptr K => exact fun _ _ => .nptr _
  | ptr K b g i j v L h e hg hp => exact fun _ _ => .ptr _ b g i j v L h e hg hp
  | eptr => intro h; simp [flatV] at h
  | nsl K => exact fun _ _ => .nsl _
  | imm => intro h; simp [flatV] at h
  | arr K b g off len cap ex v L h hg e hp => exact fun _ _ => .arr _ b g off len cap ex v L h hg e hp
  | fn K f caps us hl _ ih => exact fun hf κ => .fn _ f caps us hl (fun i x y h1 h2 => ih i x y h1 h2 (flatL_at (by simpa [flatV] using hf) h1) κ)
  | nfn K => exact fun _ _ => .nfn _
  | nif K => exact fun _ _ => .nif _
  | ifc K t v u _ ih => exact fun hf κ => .ifc _ t v u (ih (by simpa [flatV] using hf) κ)
  | agg K cs us hl _ ih => exact fun hf κ => .agg _ cs us hl (fun i x y h1 h2 => ih i x y h1 h2 (flatL_at (by simpa [flatV] using hf) h1) κ)
  | tup K cs us hl _ ih => exact fun hf κ => .tup _ cs us hl (fun i x y h1 h2 => ih i x y h1 h2 (flatL_at (by simpa [flatV] using hf) h1) κ)

end Go.Vs
