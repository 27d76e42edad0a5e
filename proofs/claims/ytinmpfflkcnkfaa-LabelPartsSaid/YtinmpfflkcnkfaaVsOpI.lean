/- append, simulated. -/
import Derived.Test.YtinmpfflkcnkfaaVsOpH
namespace Go.Vs
open Go Go.RowKit

variable {P : Program} {K : Kp} {e : Env} {a : Act} {o : Oper} {w : World}

/-- The rows of two lists of cells, one behind the other, with more cells behind. -/
theorem rows_append {sz : Nat} {xs ys : List (List IV)} {us vs zs : List Value} (h1 : us.length = xs.length * sz) (h2 : vs.length = ys.length * sz)
    (l1 : ∀ (r : Nat) (row : List IV), xs[r]? = some row → row.length = sz) (l2 : ∀ (r : Nat) (row : List IV), ys[r]? = some row → row.length = sz)
    (v1 : ∀ (r : Nat) (row : List IV) (c : Nat) (x : IV), xs[r]? = some row → row[c]? = some x → ∃ u, us[r * sz + c]? = some u ∧ VR K x u)
    (v2 : ∀ (r : Nat) (row : List IV) (c : Nat) (x : IV), ys[r]? = some row → row[c]? = some x → ∃ u, vs[r * sz + c]? = some u ∧ VR K x u) :
    (∀ (r : Nat) (row : List IV), (xs ++ ys)[r]? = some row → row.length = sz) ∧ (xs ++ ys).length * sz ≤ (us ++ vs ++ zs).toArray.size ∧
    ∀ (r : Nat) (row : List IV) (c : Nat) (x : IV), (xs ++ ys)[r]? = some row → row[c]? = some x → ∃ u, (us ++ vs ++ zs).toArray[r * sz + c]? = some u ∧ VR K x u := by
  refine ⟨fun r row hr => ?_, by simp [h1, h2, Nat.add_mul], fun r row c x hr hx => ?_⟩
  · rw [List.getElem?_append] at hr
    split at hr
    · exact l1 r row hr
    · exact l2 _ row hr
  · rw [List.getElem?_append] at hr
    split at hr
    · rename_i hlt
      obtain ⟨u, hu, hv⟩ := v1 r row c x hr hx
      refine ⟨u, ?_, hv⟩
      have := (List.getElem?_eq_some_iff.1 hu).1
      rw [List.getElem?_toArray, List.append_assoc, List.getElem?_append_left this]; exact hu
    · rename_i hge
      obtain ⟨u, hu, hv⟩ := v2 _ row c x hr hx
      refine ⟨u, ?_, hv⟩
      have := (List.getElem?_eq_some_iff.1 hu).1
      have hs : (r - xs.length) * sz = r * sz - xs.length * sz := Nat.sub_mul _ _ _
      have hm : xs.length * sz ≤ r * sz := Nat.mul_le_mul_right _ (by omega)
      rw [List.getElem?_toArray, List.append_assoc, List.getElem?_append_right (by omega), List.getElem?_append_left (by omega), show r * sz + c - us.length = (r - xs.length) * sz + c by omega]
      exact hu

/-- A fresh block behind a draw. -/
theorem new_drew {ro : Nat} {H : Hp} (hR : Rel K ro H w) {sz : Nat} {rows : List (List IV)} {arr : Array Value} {elem : TypeId}
    (hlen : ∀ (r : Nat) (row : List IV), rows[r]? = some row → row.length = sz) (hfit : rows.length * sz ≤ arr.size) (h1 : ∀ u ∈ arr, u.oneCell' = true)
    (hcell : ∀ (r : Nat) (row : List IV) (c : Nat) (x : IV), rows[r]? = some row → row[c]? = some x → ∃ u, arr[r * sz + c]? = some u ∧ VR K x u) {n cap : Nat} (hc : n ≤ cap) (hext : cap * sz ≤ arr.size) :
    Step K ro H w (H ++ [({ rows := rows } : Bk)]) (w.drew.alloc (.cells arr elem)) (.arr H.length 0 0 n n false) (.slice (some (ad w.heap.size 0)) n cap) := by
  obtain ⟨hle, hR', hF⟩ := hR.drew.new (elem := elem) hlen hfit h1 hcell
  refine ⟨_, hle, hR', ?_, (Fr.drew K ro H.length w).trans hF⟩
  refine .arr _ _ _ _ _ _ _ _ ⟨0, w.heap.size, 0, sz, arr.size⟩ (by simp [Kp.set]) (Nat.zero_le _) (fun _ => ⟨_, cap, rfl, fun _ => by simp, hc, Nat.le_refl _, fun h => (by cases h), by simpa using hext⟩) ⟨_, _, rfl⟩

/-- Appending to none. -/
theorem sim_apn {ro : Nat} {H H' : Hp} (hR : Rel K ro H w) {t u ty : TypeId} {ats : Array TypeId} {e' : TypeId} {sz bytes : Nat} {Y Z : IV} {x y : Value} {z : List IV} (h0 : ats[0]? = some t) (h1 : ats[1]? = some u) (ht : P.underlying t = some (.slice e')) (hu : (∃ d, P.underlying u = some (.slice d)) ∨ P.underlying u = some .string) (hs : szT P e' = some sz) (hb : byT P e' = some bytes) (hz : zT P e' = some z) (hzl : z.length = sz) (hbp : 0 < bytes)
    (hx : VR K .nsl x) (hy : VR K Y y) (h : appV ro H sz bytes .nsl Y = some (Z, H')) :
    (H' = H ∧ ∃ v, (Builtin.append_ ats ty #[x, y]).run P w = .ok v w ∧ VR K Z v) ∨ (∃ rows, H' = H ++ [({ rows := rows } : Bk)] ∧ ∃ v arr elem sz, (Builtin.append_ ats ty #[x, y]).run P w = .ok v (w.drew.alloc (.cells arr elem)) ∧
      (∀ (r : Nat) (row : List IV), rows[r]? = some row → row.length = sz) ∧ rows.length * sz ≤ arr.size ∧ (∀ u ∈ arr, u.oneCell' = true) ∧
      (∀ (r : Nat) (row : List IV) (c : Nat) (x : IV), rows[r]? = some row → row[c]? = some x → ∃ u, arr[r * sz + c]? = some u ∧ VR K x u) ∧
      ∀ K' : Kp, K'.ρ H.length = some ⟨0, w.heap.size, 0, sz, arr.size⟩ → VR K' Z v) := by
  simp only [appV, Option.bind_eq_some_iff] at h
  obtain ⟨ys, hys, h⟩ := h
  split at h
  · cases h
  · rename_i hsz
    have hsz : szOk sz ys = true := by simpa using hsz
    obtain ⟨us, hsrc⟩ := src_of (P := P) hR hy hys hsz
    have hxv := hx.nsl_inv
    by_cases hn : ys.length = 0
    · rw [if_pos hn] at h; cases h
      refine .inl ⟨rfl, _, run_append_fits (base := none) h0 h1 ht hu hs hxv hsrc (by omega) (.inl ⟨rfl, rfl⟩), ?_⟩
      rw [hn]
      exact .nsl _
    · rw [if_neg hn] at h
      simp only [newArr] at h
      split at h
      · rename_i hroom
        cases h
        obtain ⟨nc, zs, hle, hzs, hz1, hrun⟩ := run_append_grows (ty := ty) h0 h1 ht hu hs hb hz hxv hsrc (by omega) hbp (by simpa [room] using hroom) (xs := []) (fun w' _ => by rw [hxv]; rfl)
        obtain ⟨q1, q2, q3⟩ := rows_append (K := K) (xs := []) (us := []) (zs := zs) (by simp) hsrc.size (fun r row h => by simp at h) hsrc.row (fun r row c x h => by simp at h) hsrc.val
        have hext : nc * sz ≤ ([] ++ us ++ zs).toArray.size := by
          simp [hsrc.size, hzs, hzl, Nat.sub_mul]
          have := Nat.mul_le_mul_right sz hle
          simp at this; omega
        rw [Nat.zero_add] at hrun
        refine .inr ⟨ys, rfl, _, _, e', sz, hrun, by simpa using q1, by simpa using q2, fun v hv => by simp at hv; rcases hv with hv | hv; exact hsrc.one v hv; exact hz1 v hv, by simpa using q3, fun K' hK => ?_⟩
        refine .arr _ _ _ _ _ _ _ _ _ hK (Nat.zero_le _) (fun _ => ⟨ad w.heap.size 0, nc, rfl, fun _ => by simp, by omega, Nat.le_refl _, fun h => (by cases h), by simpa using hext⟩) ⟨_, _, rfl⟩
      · cases h

theorem rows_get {rows : List (List IV)} {off len : Nat} {r : Nat} {row : List IV} (h : ((rows.drop off).take len)[r]? = some row) : rows[off + r]? = some row ∧ r < len := by
  rw [List.getElem?_take] at h
  split at h
  · rw [List.getElem?_drop] at h; exact ⟨h, ‹_›⟩
  · cases h

theorem sim_app {ro : Nat} {H H' : Hp} (hR : Rel K ro H w) {t u ty : TypeId} {ats : Array TypeId} {e' : TypeId} {sz bytes : Nat} {X Y Z : IV} {x y : Value} {z : List IV} (h0 : ats[0]? = some t) (h1 : ats[1]? = some u) (ht : P.underlying t = some (.slice e')) (hu : (∃ d, P.underlying u = some (.slice d)) ∨ P.underlying u = some .string) (hs : szT P e' = some sz) (hb : byT P e' = some bytes) (hz : zT P e' = some z) (hzl : z.length = sz) (hbp : 0 < bytes)
    (hx : VR K X x) (hy : VR K Y y) (h : appV ro H sz bytes X Y = some (Z, H')) : ∃ v w', (Builtin.append_ ats ty #[x, y]).run P w = .ok v w' ∧ Step K ro H w H' w' Z v := by
  simp only [appV, Option.bind_eq_some_iff] at h
  obtain ⟨ys, hys, h⟩ := h
  split at h
  · cases h
  · rename_i hsz
    have hsz : szOk sz ys = true := by simpa using hsz
    obtain ⟨us, hsrc⟩ := src_of (P := P) hR hy hys hsz
    cases X <;> simp only [reduceCtorEq] at h
    case nsl =>
      have hxv := hx.nsl_inv
      by_cases hn : ys.length = 0
      · rw [if_pos hn] at h; cases h
        refine ⟨_, w, run_append_fits (base := none) h0 h1 ht hu hs hxv hsrc (by omega) (.inl ⟨rfl, rfl⟩), ?_⟩
        rw [hn]
        exact Step.here hR (.nsl _)
      · rw [if_neg hn] at h
        simp only [newArr] at h
        split at h
        · rename_i hroom
          cases h
          obtain ⟨nc, zs, hle, hzs, hz1, hrun⟩ := run_append_grows (ty := ty) h0 h1 ht hu hs hb hz hxv hsrc (by omega) hbp (by simpa [room] using hroom) (xs := []) (fun w' _ => by rw [hxv]; rfl)
          refine ⟨_, _, hrun, ?_⟩
          obtain ⟨q1, q2, q3⟩ := rows_append (K := K) (xs := []) (us := []) (zs := zs) (by simp) hsrc.size (fun r row h => by simp at h) hsrc.row (fun r row c x h => by simp at h) hsrc.val
          have := new_drew hR (elem := e') (rows := ys) (arr := ([] ++ us ++ zs).toArray) (by simpa using q1) (by simpa using q2) (fun v hv => by simp at hv; rcases hv with hv | hv; exact hsrc.one v hv; exact hz1 v hv) (by simpa using q3) (n := ys.length) (cap := nc) (by omega) (by
            simp [hsrc.size, hzs, hzl, Nat.sub_mul]
            have := Nat.mul_le_mul_right sz hle
            simp at this; omega)
          simpa using this
        · cases h
    case imm rows full =>
      obtain ⟨A, cap, b, q, sz', vs, hxv, hA, hcap, hf, hcl⟩ := hx.imm_inv
      by_cases hn : ys.length = 0
      · rw [if_pos hn] at h; cases h
        have hu0 : us = [] := by have := hsrc.size; rw [hn] at this; simpa using this
        refine ⟨_, w, run_append_fits (base := some A) h0 h1 ht hu hs hxv hsrc (by omega) (.inr ⟨A, rfl, by rw [hu0]; rfl⟩), ?_⟩
        rw [hn, Nat.add_zero, ← hxv]
        exact Step.here hR hx
      · rw [if_neg hn] at h
        split at h
        · rename_i hfs
          obtain ⟨hfull, hrsz⟩ := hfs
          have hcr := hf hfull
          simp only [newArr] at h
          split at h
          · rename_i hroom
            cases h
            obtain ⟨us0, hsrc0⟩ := src_of (P := P) hR hx (ys := rows) rfl hrsz
            have hl0 := hsrc0.load
            rw [hxv] at hl0
            obtain ⟨nc, zs, hle, hzs, hz1, hrun⟩ := run_append_grows (ty := ty) h0 h1 ht hu hs hb hz hxv hsrc (by omega) hbp (by simpa [room] using hroom) (xs := us0) (fun w' hw' => by rw [hxv]; exact hl0 w' hw')
            refine ⟨_, _, hrun, ?_⟩
            obtain ⟨q1, q2, q3⟩ := rows_append (K := K) (zs := zs) hsrc0.size hsrc.size hsrc0.row hsrc.row hsrc0.val hsrc.val
            have := new_drew hR (elem := e') q1 q2 (fun v hv => by simp at hv; rcases hv with hv | hv | hv; exact hsrc0.one v hv; exact hsrc.one v hv; exact hz1 v hv) q3 (n := rows.length + ys.length) (cap := nc) (by omega) (by
              simp [hsrc.size, hsrc0.size, hzs, hzl, Nat.sub_mul, Nat.add_mul]
              have := Nat.mul_le_mul_right sz hle
              simp [Nat.add_mul] at this; omega)
            simpa using this
          · cases h
        · cases h
    case arr b g off len cap ex =>
      simp only [Option.bind_eq_some_iff] at h
      obtain ⟨B, hB, h⟩ := h
      split at h
      · cases h
      · rename_i hcond
        have hBsz : szOk sz B.rows = true := by
          by_cases h : szOk sz B.rows = true
          · exact h
          · exact absurd (Or.inl (by simpa using h)) hcond
        have hBl : off + len ≤ B.rows.length := by
          rcases Nat.lt_or_ge B.rows.length (off + len) with h | h
          · exact absurd (Or.inr h) hcond
          · exact h
        obtain ⟨hB', hgen⟩ := blkAt_some hB
        obtain ⟨L, hL, hgL, hcur, _⟩ := hx.arr_inv
        obtain ⟨B', hB'', ok⟩ := hR.blk b L hL
        obtain rfl : B = B' := by rw [hB'] at hB''; exact Option.some.inj hB''
        have hLg : L.gen = g := by rw [← ok.gen]; exact hgen
        obtain ⟨A, cap', hxv, hA, hcc, hlc, hex, hext⟩ := hcur hLg
        by_cases hn : ys.length = 0
        · rw [if_pos hn] at h; cases h
          have hu0 : us = [] := by have := hsrc.size; rw [hn] at this; simpa using this
          refine ⟨_, w, run_append_fits (base := some A) h0 h1 ht hu hs hxv hsrc (by omega) (.inr ⟨A, rfl, by rw [hu0]; rfl⟩), ?_⟩
          rw [hn, Nat.add_zero, ← hxv]
          exact Step.here hR hx
        · rw [if_neg hn] at h
          -- the size of a row in memory
          have hLsz : B.rows ≠ [] → sz = L.sz := fun hne => szOk_len hBsz ok.len hne
          have hold : ∃ us0 : List Value, us0.length = len * sz ∧ (∀ w', w'.heap = w.heap → (Builtin.firstCells sz len x).run P w' = .ok us0.toArray w') ∧ (∀ u ∈ us0, u.oneCell' = true) ∧
              (∀ (r : Nat) (row : List IV), ((B.rows.drop off).take len)[r]? = some row → row.length = sz) ∧
              (∀ (r : Nat) (row : List IV) (c : Nat) (x : IV), ((B.rows.drop off).take len)[r]? = some row → row[c]? = some x → ∃ u, us0[r * sz + c]? = some u ∧ VR K x u) := by
            have hrw : rowsOf H (.arr b g off len cap ex) = some ((B.rows.drop off).take len) := by simp [rowsOf, hB, hBl]
            have hso : szOk sz ((B.rows.drop off).take len) = true := by
              cases hq : (B.rows.drop off).take len with
              | nil => rfl
              | cons r0 rest =>
                have hr0 : ((B.rows.drop off).take len)[0]? = some r0 := by rw [hq]; rfl
                have hg0 := rows_get hr0
                have := ok.len _ _ hg0.1
                have hne : B.rows ≠ [] := by intro h; rw [h] at hg0; simp at hg0
                simp [szOk, this, hLsz hne]
            obtain ⟨us0, hsrc0⟩ := src_of (P := P) hR hx hrw hso
            have hll : ((B.rows.drop off).take len).length = len := by simp; omega
            refine ⟨us0, by rw [hsrc0.size, hll], fun w' hw' => ?_, hsrc0.one, hsrc0.row, hsrc0.val⟩
            have := hsrc0.load w' hw'
            rw [hll] at this; exact this
          obtain ⟨us0, hus0, hld0, hone0, hrow0, hval0⟩ := hold
          -- the values that move
          have hgrow : cap' < len + ys.length → (len + ys.length) * bytes ≤ room → ∃ nc zs, len + ys.length ≤ nc ∧ zs.length = (nc - (len + ys.length)) * sz ∧ (∀ u ∈ zs, u.oneCell' = true) ∧
              (Builtin.append_ ats ty #[x, y]).run P w = .ok (.slice (some (ad w.heap.size 0)) (len + ys.length) nc) (w.drew.alloc (.cells (us0 ++ us ++ zs).toArray e')) := fun hg hroom => by
            obtain ⟨nc, zs, hle, hzs, hz1, hrun⟩ := run_append_grows (ty := ty) h0 h1 ht hu hs hb hz hxv hsrc hg hbp (by simpa [room] using hroom) (xs := us0) hld0
            exact ⟨nc, zs, hle, by rw [hzs, hzl], hz1, hrun⟩
          have hnewrows : ∀ zs : List Value, (∀ u ∈ zs, u.oneCell' = true) → _ := fun zs hz1 => rows_append (K := K) (zs := zs) (xs := (B.rows.drop off).take len) (by rw [hus0]; congr 1; simp; omega) hsrc.size hrow0 hsrc.row hval0 hsrc.val
          have hll : ((B.rows.drop off).take len).length = len := by simp; omega
          -- the write in place
          have hput : B.rows ≠ [] → len + ys.length ≤ cap' → ro ≤ b → B.frz = false → ∀ rows : List (List IV), (∀ (r : Nat) (row : List IV), rows[r]? = some row → (r < off + len ∧ B.rows[r]? = some row) ∨ (off + len ≤ r ∧ r < off + len + ys.length ∧ ys[r - (off + len)]? = some row) ∨ (off + len + ys.length ≤ r ∧ B.rows[r]? = some row)) → rows.length ≤ max B.rows.length (off + len + ys.length) →
              ∃ w', (Builtin.append_ ats ty #[x, y]).run P w = .ok (.slice (some A) (len + ys.length) cap') w' ∧ Rel K ro (H.set b { B with rows := rows }) w' ∧ Fr K K ro H.length (H.set b { B with rows := rows }).length w w' := by
            intro hne hfit hro hfz rows hrows hrl
            have hAe := hA (Nat.lt_of_lt_of_le (Nat.lt_of_lt_of_le (Nat.pos_of_ne_zero hn) (Nat.le_add_left _ _)) hfit)
            have hw : sz = L.sz := hLsz hne
            have hmul : (off + len + ys.length) * L.sz ≤ L.ext := Nat.le_trans (Nat.mul_le_mul_right _ (by omega)) hext
            have hmax : rows.length * L.sz ≤ L.ext := by
              refine Nat.le_trans (Nat.mul_le_mul_right _ hrl) ?_
              rcases Nat.le_total B.rows.length (off + len + ys.length) with h | h
              · rw [Nat.max_eq_right h]; exact hmul
              · rw [Nat.max_eq_left h]; exact ok.fit
            rw [Nat.add_mul] at hmul
            obtain ⟨hR', hF⟩ := hR.setCells hL hB' hro hfz (rows := rows) (fun r row hr => by
                rcases hrows r row hr with ⟨_, h⟩ | ⟨_, _, h⟩ | ⟨_, h⟩
                · exact ok.len r row h
                · rw [← hw]; exact hsrc.row _ row h
                · exact ok.len r row h) hmax (p := (off + len) * L.sz) (us := us) (by rw [hsrc.size, hw]; exact hmul) hsrc.one (fun r row c x' hr hx' => by
                rcases hrows r row hr with ⟨hlt, h⟩ | ⟨hge, hlt, h⟩ | ⟨hge, h⟩
                · have hc : c < L.sz := by rw [← ok.len r row h]; exact (List.getElem?_eq_some_iff.1 hx').1
                  refine .inr ⟨.inl ?_, row, h, hx'⟩
                  have := Nat.mul_le_mul_right L.sz hlt
                  simp only [Nat.succ_eq_add_one, Nat.add_mul, Nat.one_mul] at this ⊢; omega
                · obtain ⟨u, hu, hv⟩ := hsrc.val _ row c x' h hx'
                  refine .inl ⟨_, u, hu, ?_, hv⟩
                  rw [hw, Nat.sub_mul]
                  have := Nat.mul_le_mul_right L.sz hge
                  omega
                · refine .inr ⟨.inr ?_, row, h, hx'⟩
                  rw [hsrc.size, hw]
                  have := Nat.mul_le_mul_right L.sz hge
                  simp only [Nat.add_mul] at this ⊢; omega)
            refine ⟨_, run_append_fits (base := some A) h0 h1 ht hu hs hxv hsrc hfit (.inr ⟨A, rfl, ?_⟩), hR', hF⟩
            rw [hAe, ad_add, show L.org + off * L.sz + len * sz = L.org + (off + len) * L.sz by rw [hw, Nat.add_mul]; omega]
            have hst := run_storeCells_cells (P := P) L.blk (L.org + (off + len) * L.sz) us 0 w (fun q hq => by
              rw [hsrc.size, hw] at hq
              obtain ⟨u, hu, _⟩ := ok.there ((off + len) * L.sz + q) (by omega)
              rw [show (⟨L.blk, L.org + (off + len) * L.sz + 0 + q, none⟩ : Addr) = ad L.blk (L.org + ((off + len) * L.sz + q)) by simp [ad]; omega, hu]; rfl) (fun q hq => by
              rw [hsrc.size, hw] at hq
              rw [show (⟨L.blk, L.org + (off + len) * L.sz + 0 + q, none⟩ : Addr) = ad L.blk (L.org + ((off + len) * L.sz + q)) by simp [ad]; omega]
              exact ok.soft _ (by omega)) hsrc.one
            exact hst
          have hllr : (xs : Nat) → True := fun _ => trivial
          split at h
          · -- there is room for sure
            rename_i hfit
            split at h
            · rename_i hc
              obtain ⟨hro, hfz, hle⟩ := hc
              cases h
              obtain ⟨w', hrun, hR', hF⟩ := hput (by intro h; rw [h, List.length_nil] at hle; omega) (Nat.le_trans hfit hcc) hro hfz (B.rows.take (off + len) ++ ys ++ B.rows.drop (off + len + ys.length)) (fun r row hr => by
                  by_cases h1 : r < off + len
                  · left; refine ⟨h1, ?_⟩
                    rw [List.append_assoc, List.getElem?_append_left (by simp; omega), List.getElem?_take, if_pos h1] at hr; exact hr
                  · by_cases h2 : r < off + len + ys.length
                    · right; left; refine ⟨by omega, h2, ?_⟩
                      rw [List.append_assoc, List.getElem?_append_right (by simp; omega), List.length_take, Nat.min_eq_left hBl, List.getElem?_append_left (by omega)] at hr; exact hr
                    · right; right; refine ⟨by omega, ?_⟩
                      rw [List.append_assoc, List.getElem?_append_right (by simp; omega), List.length_take, Nat.min_eq_left hBl, List.getElem?_append_right (by omega), List.getElem?_drop] at hr
                      rw [← hr]; congr 1; omega) (by simp; omega)
              refine ⟨_, w', hrun, K, K.le_refl, hR', ?_, hF⟩
              exact .arr _ _ _ _ _ _ _ _ L hL hgL (fun _ => ⟨_, cap', rfl, hA, hcc, hfit, hex, hext⟩) ⟨_, _, rfl⟩
            · cases h
          · rename_i hnf
            by_cases hexx : ex = true
            · -- it moves for sure
              rw [if_pos hexx] at h
              simp only [newArr] at h
              split at h
              · rename_i hroom
                cases h
                have hce := hex hexx
                obtain ⟨nc, zs, hle, hzs, hz1, hrun⟩ := hgrow (by omega) (by simpa [hll] using hroom)
                obtain ⟨q1, q2, q3⟩ := hnewrows zs hz1
                refine ⟨_, _, hrun, ?_⟩
                have := new_drew hR (elem := e') q1 q2 (fun v hv => by simp at hv; rcases hv with hv | hv | hv; exact hone0 v hv; exact hsrc.one v hv; exact hz1 v hv) q3 (n := len + ys.length) (cap := nc) hle (by
                  simp [hsrc.size, hus0, hzs, Nat.sub_mul, Nat.add_mul]
                  have := Nat.mul_le_mul_right sz hle
                  simp [Nat.add_mul] at this; omega)
                have hlen2 : ((B.rows.drop off).take len ++ ys).length = len + ys.length := by rw [List.length_append, hll]
                rw [hlen2]
                exact this
              · cases h
            · rw [if_neg hexx] at h
              split at h
              · rename_i hc
                obtain ⟨hro, hfz, hpos, hroom⟩ := hc
                cases h
                have hne : B.rows ≠ [] := by intro h; rw [h] at hpos; simp at hpos
                have hw := hLsz hne
                by_cases hfit : len + ys.length ≤ cap'
                · -- there was room
                  obtain ⟨w', hrun, hR', hF⟩ := hput hne hfit hro hfz (B.rows.take (off + len) ++ ys) (fun r row hr => by
                      by_cases h1 : r < off + len
                      · left; refine ⟨h1, ?_⟩
                        rw [List.getElem?_append_left (by simp; omega), List.getElem?_take, if_pos h1] at hr; exact hr
                      · right; left
                        rw [List.getElem?_append_right (by simp; omega), List.length_take, Nat.min_eq_left hBl] at hr
                        have := (List.getElem?_eq_some_iff.1 hr).1
                        exact ⟨by omega, by omega, hr⟩) (by simp; omega)
                  have hblt : b < H.length := (List.getElem?_eq_some_iff.1 hB').1
                  obtain ⟨hle2, hR2, hF2⟩ := hR'.cutHead hL (B := { B with rows := B.rows.take (off + len) ++ ys }) (by simp [hblt]) hro hfz (off := off) (by simp; omega)
                  refine ⟨_, w', hrun, _, hle2, ?_, ?_, ?_⟩
                  · have : (H.set b { B with rows := B.rows.take (off + len) ++ ys }).set b ({ rows := (B.rows.take (off + len) ++ ys).drop off, gen := L.gen + 1 } : Bk) = H.set b ({ rows := (B.rows.drop off).take len ++ ys, gen := g + 1 } : Bk) := by
                      rw [List.set_set, hLg, List.drop_append_of_le_length (by simp; omega), List.drop_take]
                      congr 4; omega
                    rw [← this]
                    exact hR2
                  · refine .arr _ _ _ _ _ _ _ _ ⟨L.gen + 1, L.blk, L.org + off * L.sz, L.sz, L.ext - off * L.sz⟩ (by simp [Kp.set]) (by simp; omega) (fun _ => ⟨_, cap', rfl, fun hp => ?_, hfit, Nat.le_refl _, fun h => (by cases h), ?_⟩) ⟨_, _, rfl⟩
                    · rw [hA hp]; simp
                    · rw [Nat.add_mul] at hext; simp; omega
                  · have := hF.trans hF2
                    simpa using this
                · -- it moved
                  obtain ⟨nc, zs, hle, hzs, hz1, hrun⟩ := hgrow (by omega) hroom
                  obtain ⟨q1, q2, q3⟩ := hnewrows zs hz1
                  have hblt : b < H.length := (List.getElem?_eq_some_iff.1 hB').1
                  obtain ⟨hle2, hR2, hF2⟩ := hR.drew.place (b := b) (g := g + 1) (sz := sz) (n := H.length) (n' := (H.set b ({ rows := (B.rows.drop off).take len ++ ys, gen := g + 1 } : Bk)).length) (by simp) (H' := H.set b ({ rows := (B.rows.drop off).take len ++ ys, gen := g + 1 } : Bk)) (elem := e') (arr := (us0 ++ us ++ zs).toArray)
                    (fun L0 h => by rw [hL] at h; cases h; omega) hro (fun x hx _ => List.getElem?_set_ne (Ne.symm hx)) (by simp [hblt]) (by simp) (.inr ⟨L, hL⟩) q1 q2
                    (fun v hv => by simp at hv; rcases hv with hv | hv | hv; exact hone0 v hv; exact hsrc.one v hv; exact hz1 v hv) q3
                  refine ⟨_, _, hrun, _, hle2, hR2, ?_, (Fr.drew K ro H.length w).trans hF2⟩
                  refine .arr _ _ _ _ _ _ _ _ ⟨g + 1, w.drew.heap.size, 0, sz, (us0 ++ us ++ zs).toArray.size⟩ (by simp [Kp.set]) (Nat.le_refl _) (fun _ => ⟨_, nc, rfl, fun _ => by simp, hle, Nat.le_refl _, fun h => (by cases h), ?_⟩) ⟨_, _, rfl⟩
                  simp [hsrc.size, hus0, hzs, Nat.sub_mul, Nat.add_mul]
                  have := Nat.mul_le_mul_right sz hle
                  simp [Nat.add_mul] at this; omega
              · cases h

end Go.Vs
