/- Writing, and new blocks. -/
import Derived.Test.YtinmpfflkcnkfaaVsMem
import Derived.Lib.UnsafeStr
import Derived.Lib.Builder
namespace Go.Vs
open Go Go.RowKit

theorem BlkOk.mono {K K' : Kp} {B : Bk} {L : Loc} {w : World} (h : BlkOk K B L w) (hK : K.le K') : BlkOk K' B L w :=
  ⟨h.gen, h.lt, h.len, h.fit, h.there, h.soft, fun r row c x h1 h2 => let ⟨u, a, b⟩ := h.cell r row c x h1 h2; ⟨u, a, b.mono hK⟩, h.ety⟩

theorem BlkOk.world {K : Kp} {B : Bk} {L : Loc} {w w' : World} (h : BlkOk K B L w) (hw : w'.heap[L.blk]? = w.heap[L.blk]?) (hs : w.heap.size ≤ w'.heap.size) : BlkOk K B L w' := by
  have hc : ∀ i, w'.cell? (ad L.blk i) = w.cell? (ad L.blk i) := fun i => World.cell?_of_block hw
  have hf : ∀ i, w'.frozen? (ad L.blk i) = w.frozen? (ad L.blk i) := fun i => World.frozen?_of_block hw
  exact ⟨h.gen, by have := h.lt; omega, h.len, h.fit, fun i hi => by rw [hc]; exact h.there i hi, fun i hi => by rw [hf]; exact h.soft i hi, fun r row c x h1 h2 => by rw [hc]; exact h.cell r row c x h1 h2, fun t ht => by rw [hw]; exact h.ety t ht⟩

theorem Rel.drew {K : Kp} {ro : Nat} {H : Hp} {w : World} (h : Rel K ro H w) : Rel K ro H w.drew := by
  refine ⟨fun b L hb => ?_, h.inj, fun b i v hc => h.claim b i v hc, h.own, h.low⟩
  obtain ⟨B, hB, ok⟩ := h.blk b L hb
  exact ⟨B, hB, ok.world rfl (Nat.le_refl _)⟩

theorem Fr.drew (K : Kp) (ro hl : Nat) (w : World) : Fr K K ro hl hl w w.drew :=
  ⟨(Below.refl _ _).drew, Nat.le_refl _, fun _ _ _ => rfl, fun _ _ h => .inl h, fun _ L' h => .inr ⟨L', h, rfl⟩, fun _ _ h => h, fun _ _ => rfl⟩

theorem heap_setCells_other (b : Nat) : ∀ (vs : List Value) (o : Nat) (w : World) (k : Nat), k ≠ b → (w.setCells b o vs).heap[k]? = w.heap[k]?
  | [], _, _, _, _ => rfl
  | v :: r, o, w, k, hk => by
    rw [World.setCells, heap_setCells_other b r (o + 1) _ k hk]
    exact Below.heap_setCell _ _ _ _ hk

theorem size_setCells (b : Nat) : ∀ (vs : List Value) (o : Nat) (w : World), (w.setCells b o vs).heap.size = w.heap.size
  | [], _, _ => rfl
  | v :: r, o, w => by rw [World.setCells, size_setCells b r]; simp

theorem below_setCells (b : Nat) : ∀ (vs : List Value) (o : Nat) (w : World), Below 0 w (w.setCells b o vs)
  | [], _, _ => Below.refl _ _
  | v :: r, o, w => ((Below.refl 0 w).setCell (Nat.zero_le _) v).trans (below_setCells b r (o + 1) _)

theorem heap_setCells_ty (b : Nat) {t : TypeId} : ∀ (vs : List Value) (o : Nat) (w : World) (k : Nat) (c : Array Value) (fr : Nat × Nat), w.heap[k]? = some (.cells c t fr) → ∃ c', (w.setCells b o vs).heap[k]? = some (.cells c' t fr)
  | [], _, _, _, c, _, h => ⟨c, h⟩
  | v :: r, o, w, k, c, fr, h => by
    rw [World.setCells]
    by_cases e : k = b
    · subst e
      exact heap_setCells_ty k r (o + 1) _ k _ fr (by simp only [World.setCell, Array.getElem?_modify, if_true, h, Option.map_some]; rfl)
    · exact heap_setCells_ty b r (o + 1) _ k c fr (by rw [Below.heap_setCell _ _ _ _ e]; exact h)

/-- Cells of a block of one's own are written. -/
theorem Rel.setCells {K : Kp} {ro : Nat} {H : Hp} {w : World} (hR : Rel K ro H w) {b : Nat} {L : Loc} {B : Bk} (hL : K.ρ b = some L) (hB : H[b]? = some B) (hro : ro ≤ b) (hfz : B.frz = false)
    {rows : List (List IV)} (hlen : ∀ (r : Nat) (row : List IV), rows[r]? = some row → row.length = L.sz) (hfit : rows.length * L.sz ≤ L.ext) {p : Nat} {us : List Value} (hp : p + us.length ≤ L.ext) (h1 : ∀ u ∈ us, u.oneCell' = true)
    (hcell : ∀ (r : Nat) (row : List IV) (c : Nat) (x : IV), rows[r]? = some row → row[c]? = some x → (∃ j u, us[j]? = some u ∧ r * L.sz + c = p + j ∧ VR K x u) ∨ ((r * L.sz + c < p ∨ p + us.length ≤ r * L.sz + c) ∧ ∃ row0, B.rows[r]? = some row0 ∧ row0[c]? = some x)) :
    Rel K ro (H.set b { B with rows := rows }) (w.setCells L.blk (L.org + p) us) ∧ Fr K K ro H.length (H.set b { B with rows := rows }).length w (w.setCells L.blk (L.org + p) us) := by
  obtain ⟨B', hB', ok⟩ := hR.blk b L hL
  obtain rfl : B = B' := by rw [hB] at hB'; exact Option.some.inj hB'
  have hout : ∀ i, (i < L.org + p ∨ L.org + p + us.length ≤ i) → (w.setCells L.blk (L.org + p) us).cell? (ad L.blk i) = w.cell? (ad L.blk i) := fun i hi =>
    World.cell?_setCells_out _ _ _ _ _ (fun _ _ => hi)
  have hin : ∀ j (u : Value), us[j]? = some u → (w.setCells L.blk (L.org + p) us).cell? (ad L.blk (L.org + p + j)) = some u := by
    intro j u hu
    obtain ⟨hj, rfl⟩ := List.getElem?_eq_some_iff.1 hu
    refine World.cell?_setCells_in L.blk us (L.org + p) w (fun j hj => ?_) j hj
    obtain ⟨u, hu, _⟩ := ok.there (p + j) (by omega)
    rw [show (⟨L.blk, L.org + p + j, none⟩ : Addr) = ad L.blk (L.org + (p + j)) by simp [ad]; omega, hu]; rfl
  have hcell' : ∀ i, i < L.ext → ∃ u, (w.setCells L.blk (L.org + p) us).cell? (ad L.blk (L.org + i)) = some u ∧ u.oneCell' = true := by
    intro i hi
    by_cases h : p ≤ i ∧ i < p + us.length
    · obtain ⟨u, hu⟩ : ∃ u, us[i - p]? = some u := ⟨_, List.getElem?_eq_getElem (by omega)⟩
      refine ⟨u, ?_, h1 u (List.mem_of_getElem? hu)⟩
      rw [show L.org + i = L.org + p + (i - p) by omega]
      exact hin _ u hu
    · rw [hout _ (by omega)]
      exact ok.there i hi
  have hblt : b < H.length := (List.getElem?_eq_some_iff.1 hB).1
  constructor
  · refine ⟨fun b' L' hb' => ?_, hR.inj, fun b' i v hc => ?_, fun b' L' B' hb' hB' hr hf => ?_, by simpa using hR.low⟩
    · by_cases e : b' = b
      · subst e
        rw [hL] at hb'; cases hb'
        refine ⟨{ B with rows := rows }, by simp [hblt], ⟨ok.gen, by rw [size_setCells]; exact ok.lt, hlen, hfit, hcell', fun i hi => ?_, fun r row c x hr hx => ?_, fun t ht => ?_⟩⟩
        · rw [World.frozen?_setCells]; exact ok.soft i hi
        · rcases hcell r row c x hr hx with ⟨j, u, hu, e, hv⟩ | ⟨hne, row0, hr0, hx0⟩
          · exact ⟨u, by rw [show L.org + r * L.sz + c = L.org + p + j by omega]; exact hin j u hu, hv⟩
          · obtain ⟨u, hu, hv⟩ := ok.cell r row0 c x hr0 hx0
            exact ⟨u, by rw [hout _ (by omega)]; exact hu, hv⟩
        · obtain ⟨h0, c, fr, h⟩ := ok.ety t ht
          obtain ⟨c', h'⟩ := heap_setCells_ty L.blk us (L.org + p) w L.blk c fr h
          exact ⟨h0, c', fr, h'⟩
      · obtain ⟨B', hB', ok'⟩ := hR.blk b' L' hb'
        refine ⟨B', by rw [List.getElem?_set_ne (Ne.symm e)]; exact hB', ok'.world ?_ (by rw [size_setCells]; exact Nat.le_refl _)⟩
        exact heap_setCells_other _ _ _ _ _ (fun he => e (hR.inj _ _ _ _ hb' hL he))
    · obtain ⟨hc', h1'⟩ := hR.claim b' i v hc
      refine ⟨?_, h1'⟩
      by_cases e : b' = L.blk
      · subst e
        have := hR.own b L B hL hB hro hfz
        have hi : i < L.org := by
          rcases Nat.lt_or_ge i L.org with h | h
          · exact h
          · rw [this i h] at hc; cases hc
        rw [hout _ (by omega)]; exact hc'
      · rw [World.cell?_setCells_out _ _ _ _ _ (fun h => absurd h e)]; exact hc'
    · by_cases e : b' = b
      · subst e
        simp [hblt] at hB'
        rw [hL] at hb'; cases hb'
        exact hR.own b' L B hL hB hro hfz
      · rw [List.getElem?_set_ne (Ne.symm e)] at hB'
        exact hR.own b' L' B' hb' hB' hr hf
  · refine ⟨below_setCells _ _ _ _, by simp, fun k hk hn => heap_setCells_other _ _ _ _ _ (fun e => hn b L hro hL e.symm), fun _ _ h => .inl h, fun _ L' h => .inr ⟨L', h, rfl⟩, fun _ _ h => h, fun _ _ => rfl⟩

def Kp.set (K : Kp) (b : Nat) (L : Loc) : Kp := ⟨fun x => if x = b then some L else K.ρ x, K.κ⟩

theorem Kp.set_ne {K : Kp} {b x : Nat} {L : Loc} (h : x ≠ b) : (K.set b L).ρ x = K.ρ x := by simp [Kp.set, h]

theorem Kp.le_set {K : Kp} {b : Nat} {L : Loc} (h : ∀ L0, K.ρ b = some L0 → L0.gen < L.gen) : K.le (K.set b L) := by
  refine ⟨fun x L0 hx => ?_, fun _ _ _ h => h⟩
  by_cases e : x = b
  · subst e
    have := h L0 hx
    exact ⟨L, by simp [Kp.set], Nat.le_of_lt this, fun e => by omega⟩
  · exact ⟨L0, by simp [Kp.set, e, hx], Nat.le_refl _, fun _ => rfl⟩

theorem below_alloc0 (w : World) (o : Obj) : Below 0 w (w.alloc o) := (Below.refl 0 w).alloc (Nat.zero_le _) o

/-- A block that lies in new memory: 'b' is new, or an elder one that moves. -/
theorem heap_new (w : World) (o : Obj) : (w.alloc o).heap[w.heap.size]? = some o := by
  show (w.heap.push o)[w.heap.size]? = _
  rw [Array.getElem?_push_size]

theorem Rel.placeT {K : Kp} {ro : Nat} {H : Hp} {w : World} (hR : Rel K ro H w) {b g sz n n' : Nat} (hnn : n ≤ n') {H' : Hp} {rows : List (List IV)} {arr : Array Value} {elem : TypeId} {ty : Option Nat} (hty : ∀ t, ty = some t → t = elem)
    (hg : ∀ L0, K.ρ b = some L0 → L0.gen < g) (hro : ro ≤ b)
    (hH : ∀ x, x ≠ b → x < H.length → H'[x]? = H[x]?) (hHb : H'[b]? = some { rows := rows, gen := g, ty := ty }) (hll : H.length ≤ H'.length) (hbb : n ≤ b ∨ ∃ L0, K.ρ b = some L0)
    (hlen : ∀ (r : Nat) (row : List IV), rows[r]? = some row → row.length = sz) (hfit : rows.length * sz ≤ arr.size) (h1 : ∀ u ∈ arr, u.oneCell' = true)
    (hcell : ∀ (r : Nat) (row : List IV) (c : Nat) (x : IV), rows[r]? = some row → row[c]? = some x → ∃ u, arr[r * sz + c]? = some u ∧ VR K x u) :
    K.le (K.set b ⟨g, w.heap.size, 0, sz, arr.size⟩) ∧ Rel (K.set b ⟨g, w.heap.size, 0, sz, arr.size⟩) ro H' (w.alloc (.cells arr elem)) ∧
      Fr K (K.set b ⟨g, w.heap.size, 0, sz, arr.size⟩) ro n n' w (w.alloc (.cells arr elem)) := by
  have hle : K.le (K.set b ⟨g, w.heap.size, 0, sz, arr.size⟩) := Kp.le_set hg
  have hnew : ∀ i, (w.alloc (.cells arr elem)).cell? (ad w.heap.size i) = arr[i]? := fun i => World.cell?_alloc_new w arr elem i
  refine ⟨hle, ⟨fun x L hx => ?_, fun x y L L' hx hy e => ?_, fun x i v hc => ?_, fun x L B hx hB hr hf i hi => ?_, Nat.le_trans hR.low hll⟩, ?_⟩
  · by_cases e : x = b
    · subst e
      simp [Kp.set] at hx; subst hx
      refine ⟨_, hHb, ⟨rfl, by simp, hlen, hfit, fun i hi => ?_, fun i hi => ?_, fun r row c y hr hy => ?_, fun t ht => ?_⟩⟩
      · refine ⟨arr[i], ?_, h1 _ (Array.getElem_mem hi)⟩
        rw [Nat.zero_add, hnew]
        exact Array.getElem?_eq_getElem hi
      · exact World.frozen?_alloc_new w arr elem _
      · obtain ⟨u, hu, hv⟩ := hcell r row c y hr hy
        exact ⟨u, by rw [Nat.zero_add, hnew]; exact hu, hv.mono hle⟩
      · have := hty t ht
        subst this
        exact ⟨rfl, arr, (0, 0), heap_new w _⟩
    · simp [Kp.set, e] at hx
      obtain ⟨B, hB, ok⟩ := hR.blk x L hx
      refine ⟨B, by rw [hH x e (hR.lt hx)]; exact hB, (ok.mono hle).world (Below.heap_alloc _ _ _ ok.lt) (by simp)⟩
  · by_cases ex : x = b <;> by_cases ey : y = b
    · rw [ex, ey]
    · subst ex
      simp [Kp.set] at hx; subst hx
      simp [Kp.set, ey] at hy
      obtain ⟨B, hB, ok⟩ := hR.blk y L' hy
      have := ok.lt
      simp at e; omega
    · subst ey
      simp [Kp.set] at hy; subst hy
      simp [Kp.set, ex] at hx
      obtain ⟨B, hB, ok⟩ := hR.blk x L hx
      have := ok.lt
      simp at e; omega
    · simp [Kp.set, ex] at hx
      simp [Kp.set, ey] at hy
      exact hR.inj _ _ _ _ hx hy e
  · obtain ⟨hc', h1'⟩ := hR.claim x i v hc
    refine ⟨?_, h1'⟩
    rw [World.cell?_alloc_lt _ _ _ (World.block_lt_of_cell? _ _ hc')]
    exact hc'
  · by_cases e : x = b
    · subst e
      simp [Kp.set] at hx; subst hx
      exact hR.sizeK (Nat.le_refl _)
    · simp [Kp.set, e] at hx
      rw [hH x e (hR.lt hx)] at hB
      exact hR.own x L B hx hB hr hf i hi
  · refine ⟨below_alloc0 _ _, hnn, fun k hk _ => Below.heap_alloc _ _ _ hk, fun _ _ h => .inl h, fun x L' hx => ?_, fun x hx hn => ?_, fun x hx => Kp.set_ne (Nat.ne_of_lt (Nat.lt_of_lt_of_le hx hro))⟩
    · by_cases e : x = b
      · subst e; simp [Kp.set] at hx; subst hx; exact .inl (Nat.le_refl _)
      · simp [Kp.set, e] at hx; exact .inr ⟨L', hx, rfl⟩
    · have : x ≠ b := by
        rintro rfl
        rcases hbb with h | ⟨L0, h⟩
        · omega
        · rw [hn] at h; cases h
      simp [Kp.set, this, hn]

theorem Rel.place {K : Kp} {ro : Nat} {H : Hp} {w : World} (hR : Rel K ro H w) {b g sz n n' : Nat} (hnn : n ≤ n') {H' : Hp} {rows : List (List IV)} {arr : Array Value} {elem : TypeId}
    (hg : ∀ L0, K.ρ b = some L0 → L0.gen < g) (hro : ro ≤ b)
    (hH : ∀ x, x ≠ b → x < H.length → H'[x]? = H[x]?) (hHb : H'[b]? = some { rows := rows, gen := g }) (hll : H.length ≤ H'.length) (hbb : n ≤ b ∨ ∃ L0, K.ρ b = some L0)
    (hlen : ∀ (r : Nat) (row : List IV), rows[r]? = some row → row.length = sz) (hfit : rows.length * sz ≤ arr.size) (h1 : ∀ u ∈ arr, u.oneCell' = true)
    (hcell : ∀ (r : Nat) (row : List IV) (c : Nat) (x : IV), rows[r]? = some row → row[c]? = some x → ∃ u, arr[r * sz + c]? = some u ∧ VR K x u) :
    K.le (K.set b ⟨g, w.heap.size, 0, sz, arr.size⟩) ∧ Rel (K.set b ⟨g, w.heap.size, 0, sz, arr.size⟩) ro H' (w.alloc (.cells arr elem)) ∧
      Fr K (K.set b ⟨g, w.heap.size, 0, sz, arr.size⟩) ro n n' w (w.alloc (.cells arr elem)) :=
  hR.placeT hnn (ty := none) (fun t h => by cases h) hg hro hH hHb hll hbb hlen hfit h1 hcell

/-- A new block of a type. -/
theorem Rel.newT {K : Kp} {ro : Nat} {H : Hp} {w : World} (hR : Rel K ro H w) {sz : Nat} {rows : List (List IV)} {arr : Array Value} {elem : TypeId}
    (hlen : ∀ (r : Nat) (row : List IV), rows[r]? = some row → row.length = sz) (hfit : rows.length * sz ≤ arr.size) (h1 : ∀ u ∈ arr, u.oneCell' = true)
    (hcell : ∀ (r : Nat) (row : List IV) (c : Nat) (x : IV), rows[r]? = some row → row[c]? = some x → ∃ u, arr[r * sz + c]? = some u ∧ VR K x u) :
    K.le (K.set H.length ⟨0, w.heap.size, 0, sz, arr.size⟩) ∧ Rel (K.set H.length ⟨0, w.heap.size, 0, sz, arr.size⟩) ro (H ++ [({ rows := rows, ty := some elem } : Bk)]) (w.alloc (.cells arr elem)) ∧
      Fr K (K.set H.length ⟨0, w.heap.size, 0, sz, arr.size⟩) ro H.length (H ++ [({ rows := rows, ty := some elem } : Bk)]).length w (w.alloc (.cells arr elem)) :=
  hR.placeT (b := H.length) (g := 0) (n := H.length) (n' := (H ++ [({ rows := rows, ty := some elem } : Bk)]).length) (by simp) (H' := H ++ [{ rows := rows, ty := some elem }]) (ty := some elem) (fun t h => by cases h; rfl) (fun L0 h => by rw [hR.out (Nat.le_refl _)] at h; cases h) hR.low
    (fun x hx hl => by rw [List.getElem?_append_left hl]) (by simp) (by simp) (.inl (Nat.le_refl _)) hlen hfit h1 hcell

/-- A new block. -/
theorem Rel.new {K : Kp} {ro : Nat} {H : Hp} {w : World} (hR : Rel K ro H w) {sz : Nat} {rows : List (List IV)} {arr : Array Value} {elem : TypeId}
    (hlen : ∀ (r : Nat) (row : List IV), rows[r]? = some row → row.length = sz) (hfit : rows.length * sz ≤ arr.size) (h1 : ∀ u ∈ arr, u.oneCell' = true)
    (hcell : ∀ (r : Nat) (row : List IV) (c : Nat) (x : IV), rows[r]? = some row → row[c]? = some x → ∃ u, arr[r * sz + c]? = some u ∧ VR K x u) :
    K.le (K.set H.length ⟨0, w.heap.size, 0, sz, arr.size⟩) ∧ Rel (K.set H.length ⟨0, w.heap.size, 0, sz, arr.size⟩) ro (H ++ [({ rows := rows } : Bk)]) (w.alloc (.cells arr elem)) ∧
      Fr K (K.set H.length ⟨0, w.heap.size, 0, sz, arr.size⟩) ro H.length (H ++ [({ rows := rows } : Bk)]).length w (w.alloc (.cells arr elem)) :=
  hR.place (b := H.length) (g := 0) (n := H.length) (n' := (H ++ [({ rows := rows } : Bk)]).length) (by simp) (H' := H ++ [{ rows := rows }]) (fun L0 h => by rw [hR.out (Nat.le_refl _)] at h; cases h) hR.low
    (fun x hx hl => by rw [List.getElem?_append_left hl]) (by simp) (by simp) (.inl (Nat.le_refl _)) hlen hfit h1 hcell

/-- What is known of a block's type may be forgotten. -/
theorem Rel.untype {K : Kp} {ro : Nat} {H : Hp} {w : World} (hR : Rel K ro H w) {b : Nat} {B : Bk} (hB : H[b]? = some B) : Rel K ro (H.set b { B with ty := none }) w := by
  have hlt := (List.getElem?_eq_some_iff.1 hB).1
  refine ⟨fun x L hx => ?_, hR.inj, hR.claim, fun x L B' hx hB' hr hf i hi => ?_, by simpa using hR.low⟩
  · obtain ⟨B', hB', ok⟩ := hR.blk x L hx
    by_cases e : x = b
    · subst e
      rw [hB] at hB'; cases hB'
      exact ⟨{ B with ty := none }, by simp [hlt], ⟨ok.gen, ok.lt, ok.len, ok.fit, ok.there, ok.soft, ok.cell, fun t ht => by cases ht⟩⟩
    · exact ⟨B', by rw [List.getElem?_set_ne (Ne.symm e)]; exact hB', ok⟩
  · by_cases e : x = b
    · subst e
      simp [hlt] at hB'
      subst hB'
      exact hR.own x L B hx hB hr hf i hi
    · rw [List.getElem?_set_ne (Ne.symm e)] at hB'
      exact hR.own x L B' hx hB' hr hf i hi

/-- A block that goes on at another place of the memory that it lies in, its head cut off. -/
theorem Rel.cutHeadT {K : Kp} {ro : Nat} {H : Hp} {w : World} (hR : Rel K ro H w) {b : Nat} {L : Loc} {B : Bk} (hL : K.ρ b = some L) (hB : H[b]? = some B) (hro : ro ≤ b) (hfz : B.frz = false) {off : Nat} (ho : off ≤ B.rows.length) {ty : Option Nat} (hty : ∀ t, ty = some t → B.ty = some t ∧ off = 0) :
    K.le (K.set b ⟨L.gen + 1, L.blk, L.org + off * L.sz, L.sz, L.ext - off * L.sz⟩) ∧ Rel (K.set b ⟨L.gen + 1, L.blk, L.org + off * L.sz, L.sz, L.ext - off * L.sz⟩) ro (H.set b ({ rows := B.rows.drop off, gen := L.gen + 1, ty := ty } : Bk)) w ∧
      Fr K (K.set b ⟨L.gen + 1, L.blk, L.org + off * L.sz, L.sz, L.ext - off * L.sz⟩) ro H.length (H.set b ({ rows := B.rows.drop off, gen := L.gen + 1, ty := ty } : Bk)).length w w := by
  obtain ⟨B', hB', ok⟩ := hR.blk b L hL
  obtain rfl : B = B' := by rw [hB] at hB'; exact Option.some.inj hB'
  have hle : K.le (K.set b ⟨L.gen + 1, L.blk, L.org + off * L.sz, L.sz, L.ext - off * L.sz⟩) := Kp.le_set (fun L0 h => by rw [hL] at h; cases h; simp)
  have hblt : b < H.length := (List.getElem?_eq_some_iff.1 hB).1
  have hfo : off * L.sz ≤ L.ext := Nat.le_trans (Nat.mul_le_mul_right _ ho) ok.fit
  refine ⟨hle, ⟨fun x L' hx => ?_, fun x y L1 L2 hx hy e => ?_, hR.claim, fun x L' B' hx hB' hr hf i hi => ?_, by simpa using hR.low⟩, ?_⟩
  · by_cases e : x = b
    · subst e
      simp [Kp.set] at hx; subst hx
      refine ⟨{ rows := B.rows.drop off, gen := L.gen + 1, ty := ty }, by simp [hblt], ⟨rfl, ok.lt, fun r row hr => ?_, ?_, fun i hi => ?_, fun i hi => ?_, fun r row c y hr hy => ?_, fun t ht => ?_⟩⟩
      · simp only [List.getElem?_drop] at hr; exact ok.len _ _ hr
      · simp only [List.length_drop, Nat.sub_mul]; have := ok.fit; omega
      · simp only at hi ⊢; rw [Nat.add_assoc]; exact ok.there _ (by omega)
      · simp only at hi ⊢; rw [Nat.add_assoc]; exact ok.soft _ (by omega)
      · simp only [List.getElem?_drop] at hr
        obtain ⟨u, hu, hv⟩ := ok.cell _ row c y hr hy
        refine ⟨u, ?_, hv.mono hle⟩
        simp only
        rw [show L.org + off * L.sz + r * L.sz + c = L.org + (off + r) * L.sz + c by rw [Nat.add_mul]; omega]
        exact hu
      · obtain ⟨h1, rfl⟩ := hty t ht
        obtain ⟨h0, h2⟩ := ok.ety t h1
        exact ⟨by simp [h0], h2⟩
    · simp [Kp.set, e] at hx
      obtain ⟨B', hB', ok'⟩ := hR.blk x L' hx
      exact ⟨B', by rw [List.getElem?_set_ne (Ne.symm e)]; exact hB', ok'.mono hle⟩
  · by_cases ex : x = b <;> by_cases ey : y = b
    · rw [ex, ey]
    · subst ex; simp [Kp.set] at hx; subst hx; simp [Kp.set, ey] at hy; exact hR.inj _ _ _ _ hL hy e
    · subst ey; simp [Kp.set] at hy; subst hy; simp [Kp.set, ex] at hx; exact hR.inj _ _ _ _ hx hL e
    · simp [Kp.set, ex] at hx; simp [Kp.set, ey] at hy; exact hR.inj _ _ _ _ hx hy e
  · by_cases e : x = b
    · subst e
      simp [Kp.set] at hx; subst hx
      exact hR.own x L B hL hB hro hfz i (by simp only at hi; omega)
    · simp [Kp.set, e] at hx
      rw [List.getElem?_set_ne (Ne.symm e)] at hB'
      exact hR.own x L' B' hx hB' hr hf i hi
  · refine ⟨Below.refl _ _, by simp, fun _ _ _ => rfl, fun _ _ h => .inl h, fun x L' hx => ?_, fun x hx hn => ?_, fun x hx => Kp.set_ne (Nat.ne_of_lt (Nat.lt_of_lt_of_le hx hro))⟩
    · by_cases e : x = b
      · subst e; simp [Kp.set] at hx; subst hx; exact .inr ⟨L, hL, rfl⟩
      · simp [Kp.set, e] at hx; exact .inr ⟨L', hx, rfl⟩
    · have : x ≠ b := by rintro rfl; rw [hn] at hL; cases hL
      simp [Kp.set, this, hn]


theorem Rel.cutHead {K : Kp} {ro : Nat} {H : Hp} {w : World} (hR : Rel K ro H w) {b : Nat} {L : Loc} {B : Bk} (hL : K.ρ b = some L) (hB : H[b]? = some B) (hro : ro ≤ b) (hfz : B.frz = false) {off : Nat} (ho : off ≤ B.rows.length) :
    K.le (K.set b ⟨L.gen + 1, L.blk, L.org + off * L.sz, L.sz, L.ext - off * L.sz⟩) ∧ Rel (K.set b ⟨L.gen + 1, L.blk, L.org + off * L.sz, L.sz, L.ext - off * L.sz⟩) ro (H.set b ({ rows := B.rows.drop off, gen := L.gen + 1 } : Bk)) w ∧
      Fr K (K.set b ⟨L.gen + 1, L.blk, L.org + off * L.sz, L.sz, L.ext - off * L.sz⟩) ro H.length (H.set b ({ rows := B.rows.drop off, gen := L.gen + 1 } : Bk)).length w w :=
  hR.cutHeadT hL hB hro hfz ho (ty := none) (fun t h => by cases h)

theorem cell_freeze (w : World) (p : Addr) (n : Nat) (a : Addr) : (w.freeze p n).cell? a = w.cell? a := by
  unfold World.freeze
  split
  · rfl
  · simp only [World.cell?, Array.getElem?_modify]
    by_cases h : p.block = a.block
    · rw [if_pos h]
      cases w.heap[a.block]? with
      | none => rfl
      | some o => cases o <;> rfl
    · rw [if_neg h]

/-- A block whose cells a text shares from now on: it holds nothing any more. -/
theorem Rel.dead {K : Kp} {ro : Nat} {H : Hp} {w : World} (hR : Rel K ro H w) {b : Nat} {L : Loc} {B : Bk} (hL : K.ρ b = some L) (hB : H[b]? = some B) (hro : ro ≤ b) (hfz : B.frz = false) (q : Nat) (n : Nat) :
    K.le (K.set b ⟨L.gen + 1, L.blk, L.org, L.sz, 0⟩) ∧ Rel (K.set b ⟨L.gen + 1, L.blk, L.org, L.sz, 0⟩) ro (H.set b ({ rows := [], gen := L.gen + 1 } : Bk)) (w.freeze (ad L.blk q) n) ∧
      Fr K (K.set b ⟨L.gen + 1, L.blk, L.org, L.sz, 0⟩) ro H.length (H.set b ({ rows := [], gen := L.gen + 1 } : Bk)).length w (w.freeze (ad L.blk q) n) := by
  obtain ⟨B', hB', ok⟩ := hR.blk b L hL
  obtain rfl : B = B' := by rw [hB] at hB'; exact Option.some.inj hB'
  have hle : K.le (K.set b ⟨L.gen + 1, L.blk, L.org, L.sz, 0⟩) := Kp.le_set (fun L0 h => by rw [hL] at h; cases h; simp)
  have hblt : b < H.length := (List.getElem?_eq_some_iff.1 hB).1
  have hsz : (w.freeze (ad L.blk q) n).heap.size = w.heap.size := by unfold World.freeze; split <;> simp
  have hoth : ∀ k, k ≠ L.blk → (w.freeze (ad L.blk q) n).heap[k]? = w.heap[k]? := fun k hk => by
    unfold World.freeze
    split
    · rfl
    · simp only [Array.getElem?_modify]
      rw [if_neg (fun e => hk (by simp [ad] at e; exact e.symm))]
  refine ⟨hle, ⟨fun x L' hx => ?_, fun x y L1 L2 hx hy e => ?_, fun x i v hc => ?_, fun x L' B' hx hB' hr hf i hi => ?_, by simpa using hR.low⟩, ?_⟩
  · by_cases e : x = b
    · subst e
      simp [Kp.set] at hx; subst hx
      exact ⟨{ rows := [], gen := L.gen + 1 }, by simp [hblt], ⟨rfl, by rw [hsz]; exact ok.lt, by simp, by simp, fun i hi => absurd hi (Nat.not_lt_zero _), fun i hi => absurd hi (Nat.not_lt_zero _), by simp, fun t ht => by cases ht⟩⟩
    · simp [Kp.set, e] at hx
      obtain ⟨B', hB', ok'⟩ := hR.blk x L' hx
      exact ⟨B', by rw [List.getElem?_set_ne (Ne.symm e)]; exact hB', (ok'.mono hle).world (hoth _ fun h => e (hR.inj _ _ _ _ hx hL h)) (by rw [hsz]; exact Nat.le_refl _)⟩
  · by_cases ex : x = b <;> by_cases ey : y = b
    · rw [ex, ey]
    · subst ex; simp [Kp.set] at hx; subst hx; simp [Kp.set, ey] at hy; exact hR.inj _ _ _ _ hL hy e
    · subst ey; simp [Kp.set] at hy; subst hy; simp [Kp.set, ex] at hx; exact hR.inj _ _ _ _ hx hL e
    · simp [Kp.set, ex] at hx; simp [Kp.set, ey] at hy; exact hR.inj _ _ _ _ hx hy e
  · obtain ⟨h1, h2⟩ := hR.claim x i v hc
    exact ⟨by rw [cell_freeze]; exact h1, h2⟩
  · by_cases e : x = b
    · subst e
      simp [Kp.set] at hx; subst hx
      exact hR.own x L B hL hB hro hfz i hi
    · simp [Kp.set, e] at hx
      rw [List.getElem?_set_ne (Ne.symm e)] at hB'
      exact hR.own x L' B' hx hB' hr hf i hi
  · refine ⟨Lib.below_freeze (Below.refl 0 w) (Nat.zero_le _) n, by simp, fun k hk hn => hoth k fun e => hn b L hro hL e.symm, fun _ _ h => .inl h, fun x L' hx => ?_, fun x hx hn => ?_, fun x hx => Kp.set_ne (Nat.ne_of_lt (Nat.lt_of_lt_of_le hx hro))⟩
    · by_cases e : x = b
      · subst e; simp [Kp.set] at hx; subst hx; exact .inr ⟨L, hL, rfl⟩
      · simp [Kp.set, e] at hx; exact .inr ⟨L', hx, rfl⟩
    · have : x ≠ b := by rintro rfl; rw [hn] at hL; cases hL
      simp [Kp.set, this, hn]

end Go.Vs
