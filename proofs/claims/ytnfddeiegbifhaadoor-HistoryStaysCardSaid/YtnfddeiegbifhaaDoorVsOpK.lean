import Derived.Test.YtnfddeiegbifhaaDoorVsOpH
/- append, simulated. -/
namespace Go.Vs
open Go Go.RowKit

variable {P : Program} {K : Kp} {e : Env} {a : Act} {o : Oper} {w : World}

/-- The rows of two lists of cells, one behind the other, with more cells behind. -/
theorem rows_append {sz : Nat} {xs ys : List (List IV)} {us vs zs : List Value} (h1 : us.length = xs.length * sz) (h2 : vs.length = ys.length * sz)
    (l1 : ∀ (r : Nat) (row : List IV), xs[r]? = some row → row.length = sz) (l2 : ∀ (r : Nat) (row : List IV), ys[r]? = some row → row.length = sz)
    (v1 : ∀ (r : Nat) (row : List IV) (c : Nat) (x : IV), xs[r]? = some row → row[c]? = some x → ∃ u, us[r * sz + c]? = some u ∧ VR K x u)
    (v2 : ∀ (r : Nat) (row : List IV) (c : Nat) (x : IV), ys[r]? = some row → row[c]? = some x → ∃ u, vs[r * sz + c]? = some u ∧ VR K x u) :
    (∀ (r : Nat) (row : List IV), (xs ++ ys)[r]? = some row → row.length = sz) ∧ (xs ++ ys).length * sz ≤ (us ++ vs ++ zs).toArray.size ∧
    ∀ (r : Nat) (row : List IV) (c : Nat) (x : IV), (xs ++ ys)[r]? = some row → row[c]? = some x → ∃ u, (us ++ vs ++ zs).toArray[r * sz + c]? = some u ∧ VR K x u := by
  refine ⟨fun r row hr => ?_, by simp [h1, h2, Nat.add_mul], fun r row c x hr hx => ?_⟩
  · rw [List.getElem?_append] at hr
    split at hr
    · exact l1 r row hr
    · exact l2 _ row hr
  · rw [List.getElem?_append] at hr
    split at hr
    · rename_i hlt
      obtain ⟨u, hu, hv⟩ := v1 r row c x hr hx
      refine ⟨u, ?_, hv⟩
      have := (List.getElem?_eq_some_iff.1 hu).1
      rw [List.getElem?_toArray, List.append_assoc, List.getElem?_append_left this]; exact hu
    · rename_i hge
      obtain ⟨u, hu, hv⟩ := v2 _ row c x hr hx
      refine ⟨u, ?_, hv⟩
      have := (List.getElem?_eq_some_iff.1 hu).1
      have hs : (r - xs.length) * sz = r * sz - xs.length * sz := Nat.sub_mul _ _ _
      have hm : xs.length * sz ≤ r * sz := Nat.mul_le_mul_right _ (by omega)
      rw [List.getElem?_toArray, List.append_assoc, List.getElem?_append_right (by omega), List.getElem?_append_left (by omega), show r * sz + c - us.length = (r - xs.length) * sz + c by omega]
      exact hu

/-- A fresh block behind a draw. -/
theorem new_drew {ro : Nat} {H : Hp} (hR : Rel K ro H w) {sz : Nat} {rows : List (List IV)} {arr : Array Value} {elem : TypeId}
    (hlen : ∀ (r : Nat) (row : List IV), rows[r]? = some row → row.length = sz) (hfit : rows.length * sz ≤ arr.size) (h1 : ∀ u ∈ arr, u.oneCell' = true)
    (hcell : ∀ (r : Nat) (row : List IV) (c : Nat) (x : IV), rows[r]? = some row → row[c]? = some x → ∃ u, arr[r * sz + c]? = some u ∧ VR K x u) {n cap : Nat} (hc : n ≤ cap) (hext : cap * sz ≤ arr.size) :
    Step K ro H w (H ++ [({ rows := rows } : Bk)]) (w.drew.alloc (.cells arr elem)) (.arr H.length 0 0 n n false) (.slice (some (ad w.heap.size 0)) n cap) := by
  obtain ⟨hle, hR', hF⟩ := hR.drew.new (elem := elem) hlen hfit h1 hcell
  refine ⟨_, hle, hR', ?_, (Fr.drew K ro H.length w).trans hF⟩
  refine .arr _ _ _ _ _ _ _ _ ⟨0, w.heap.size, 0, sz, arr.size⟩ (by simp [Kp.set]) (Nat.zero_le _) (fun _ => ⟨_, cap, rfl, fun _ => by simp, hc, Nat.le_refl _, fun h => (by cases h), by simpa using hext⟩) ⟨_, _, rfl⟩

/-- Appending to none. -/
theorem sim_apn {ro : Nat} {H H' : Hp} (hR : Rel K ro H w) {t u ty : TypeId} {ats : Array TypeId} {e' : TypeId} {sz bytes : Nat} {Y Z : IV} {x y : Value} {z : List IV} (h0 : ats[0]? = some t) (h1 : ats[1]? = some u) (ht : P.underlying t = some (.slice e')) (hu : (∃ d, P.underlying u = some (.slice d)) ∨ P.underlying u = some .string) (hs : szT P e' = some sz) (hb : byT P e' = some bytes) (hz : zT P e' = some z) (hzl : z.length = sz) (hbp : 0 < bytes)
    (hx : VR K .nsl x) (hy : VR K Y y) (h : appV ro H sz bytes .nsl Y = some (Z, H')) :
    (H' = H ∧ ∃ v, (Builtin.append_ ats ty #[x, y]).run P w = .ok v w ∧ VR K Z v) ∨ (∃ rows, H' = H ++ [({ rows := rows } : Bk)] ∧ ∃ v arr elem sz, (Builtin.append_ ats ty #[x, y]).run P w = .ok v (w.drew.alloc (.cells arr elem)) ∧
      (∀ (r : Nat) (row : List IV), rows[r]? = some row → row.length = sz) ∧ rows.length * sz ≤ arr.size ∧ (∀ u ∈ arr, u.oneCell' = true) ∧
      (∀ (r : Nat) (row : List IV) (c : Nat) (x : IV), rows[r]? = some row → row[c]? = some x → ∃ u, arr[r * sz + c]? = some u ∧ VR K x u) ∧
      ∀ K' : Kp, K'.ρ H.length = some ⟨0, w.heap.size, 0, sz, arr.size⟩ → VR K' Z v) := by
  simp only [appV, Option.bind_eq_some_iff] at h
  obtain ⟨ys, hys, h⟩ := h
  split at h
  · cases h
  · rename_i hsz
    have hsz : szOk sz ys = true := by simpa using hsz
    obtain ⟨us, hsrc⟩ := src_of (P := P) hR hy hys hsz
    have hxv := hx.nsl_inv
    by_cases hn : ys.length = 0
    · rw [if_pos hn] at h; cases h
      refine .inl ⟨rfl, _, run_append_fits (base := none) h0 h1 ht hu hs hxv hsrc (by omega) (.inl ⟨rfl, rfl⟩), ?_⟩
      rw [hn]
      exact .nsl _
    · rw [if_neg hn] at h
      simp only [newArr] at h
      split at h
      · rename_i hroom
        cases h
        obtain ⟨nc, zs, hle, hzs, hz1, hrun⟩ := run_append_grows (ty := ty) h0 h1 ht hu hs hb hz hxv hsrc (by omega) hbp (by simpa [room] using hroom) (xs := []) (fun w' _ => by rw [hxv]; rfl)
        obtain ⟨q1, q2, q3⟩ := rows_append (K := K) (xs := []) (us := []) (zs := zs) (by simp) hsrc.size (fun r row h => by simp at h) hsrc.row (fun r row c x h => by simp at h) hsrc.val
        have hext : nc * sz ≤ ([] ++ us ++ zs).toArray.size := by
          simp [hsrc.size, hzs, hzl, Nat.sub_mul]
          have := Nat.mul_le_mul_right sz hle
          simp at this; omega
        rw [Nat.zero_add] at hrun
        refine .inr ⟨ys, rfl, _, _, e', sz, hrun, by simpa using q1, by simpa using q2, fun v hv => by simp at hv; rcases hv with hv | hv; exact hsrc.one v hv; exact hz1 v hv, by simpa using q3, fun K' hK => ?_⟩
        refine .arr _ _ _ _ _ _ _ _ _ hK (Nat.zero_le _) (fun _ => ⟨ad w.heap.size 0, nc, rfl, fun _ => by simp, by omega, Nat.le_refl _, fun h => (by cases h), by simpa using hext⟩) ⟨_, _, rfl⟩
      · cases h

theorem rows_get {rows : List (List IV)} {off len : Nat} {r : Nat} {row : List IV} (h : ((rows.drop off).take len)[r]? = some row) : rows[off + r]? = some row ∧ r < len := by
  rw [List.getElem?_take] at h
  split at h
  · rw [List.getElem?_drop] at h; exact ⟨h, ‹_›⟩
  · cases h

theorem sim_app {ro : Nat} {H H' : Hp} (hR : Rel K ro H w) {t u ty : TypeId} {ats : Array TypeId} {e' : TypeId} {sz bytes : Nat} {X Y Z : IV} {x y : Value} {z : List IV} (h0 : ats[0]? = some t) (h1 : ats[1]? = some u) (ht : P.underlying t = some (.slice e')) (hu : (∃ d, P.underlying u = some (.slice d)) ∨ P.underlying u = some .string) (hs : szT P e' = some sz) (hb : byT P e' = some bytes) (hz : zT P e' = some z) (hzl : z.length = sz) (hbp : 0 < bytes)
    (hx : VR K X x) (hy : VR K Y y) (h : appV ro H sz bytes X Y = some (Z, H')) : ∃ v w', (Builtin.append_ ats ty #[x, y]).run P w = .ok v w' ∧ Step K ro H w H' w' Z v := by
  simp only [appV, Option.bind_eq_some_iff] at h
  obtain ⟨ys, hys, h⟩ := h
  split at h
  · cases h
  · rename_i hsz
    have hsz : szOk sz ys = true := by simpa using hsz
    obtain ⟨us, hsrc⟩ := src_of (P := P) hR hy hys hsz
    cases X <;> simp only [reduceCtorEq] at h
    case nsl =>
      have hxv := hx.nsl_inv
      by_cases hn : ys.length = 0
      · rw [if_pos hn] at h; cases h
        refine ⟨_, w, run_append_fits (base := none) h0 h1 ht hu hs hxv hsrc (by omega) (.inl ⟨rfl, rfl⟩), ?_⟩
        rw [hn]
        exact Step.here hR (.nsl _)
      · rw [if_neg hn] at h
        simp only [newArr] at h
        split at h
        · rename_i hroom
          cases h
          obtain ⟨nc, zs, hle, hzs, hz1, hrun⟩ := run_append_grows (ty := ty) h0 h1 ht hu hs hb hz hxv hsrc (by omega) hbp (by simpa [room] using hroom) (xs := []) (fun w' _ => by rw [hxv]; rfl)
          refine ⟨_, _, hrun, ?_⟩
          obtain ⟨q1, q2, q3⟩ := rows_append (K := K) (xs := []) (us := []) (zs := zs) (by simp) hsrc.size (fun r row h => by simp at h) hsrc.row (fun r row c x h => by simp at h) hsrc.val
          have := new_drew hR (elem := e') (rows := ys) (arr := ([] ++ us ++ zs).toArray) (by simpa using q1) (by simpa using q2) (fun v hv => by simp at hv; rcases hv with hv | hv; exact hsrc.one v hv; exact hz1 v hv) (by simpa using q3) (n := ys.length) (cap := nc) (by omega) (by
            simp [hsrc.size, hzs, hzl, Nat.sub_mul]
            have := Nat.mul_le_mul_right sz hle
            simp at this; omega)
          simpa using this
        · cases h
    case imm rows full =>
      obtain ⟨A, cap, b, q, sz', vs, hxv, hA, hcap, hf, hcl⟩ := hx.imm_inv
      by_cases hn : ys.length = 0
      · rw [if_pos hn] at h; cases h
        have hu0 : us = [] := by have := hsrc.size; rw [hn] at this; simpa using this
        refine ⟨_, w, run_append_fits (base := some A) h0 h1 ht hu hs hxv hsrc (by omega) (.inr ⟨A, rfl, by rw [hu0]; rfl⟩), ?_⟩
        rw [hn, Nat.add_zero, ← hxv]
        exact Step.here hR hx
      · rw [if_neg hn] at h
        split at h
        · rename_i hfs
          obtain ⟨hfull, hrsz⟩ := hfs
          have hcr := hf hfull
          simp only [newArr] at h
          split at h
          · rename_i hroom
            cases h
            obtain ⟨us0, hsrc0⟩ := src_of (P := P) hR hx (ys := rows) rfl hrsz
            have hl0 := hsrc0.load
            rw [hxv] at hl0
            obtain ⟨nc, zs, hle, hzs, hz1, hrun⟩ := run_append_grows (ty := ty) h0 h1 ht hu hs hb hz hxv hsrc (by omega) hbp (by simpa [room] using hroom) (xs := us0) (fun w' hw' => by rw [hxv]; exact hl0 w' hw')
            refine ⟨_, _, hrun, ?_⟩
            obtain ⟨q1, q2, q3⟩ := rows_append (K := K) (zs := zs) hsrc0.size hsrc.size hsrc0.row hsrc.row hsrc0.val hsrc.val
            have := new_drew hR (elem := e') q1 q2 (fun v hv => by simp at hv; rcases hv with hv | hv | hv; exact hsrc0.one v hv; exact hsrc.one v hv; exact hz1 v hv) q3 (n := rows.length + ys.length) (cap := nc) (by omega) (by
              simp [hsrc.size, hsrc0.size, hzs, hzl, Nat.sub_mul, Nat.add_mul]
              have := Nat.mul_le_mul_right sz hle
              simp [Nat.add_mul] at this; omega)
            simpa using this
          · cases h
        · cases h
    case arr b g off len cap ex =>
      simp only [Option.bind_eq_some_iff] at h
      obtain ⟨B, hB, h⟩ := h
      split at h
      · cases h
      · rename_i hcond
        have hBsz : szOk sz B.rows = true := by
          by_cases h : szOk sz B.rows = true
          · exact h
          · exact absurd (Or.inl (by simpa using h)) hcond
        have hBl : off + len ≤ B.rows.length := by
          rcases Nat.lt_or_ge B.rows.length (off + len) with h | h
          · exact absurd (Or.inr h) hcond
          · exact h
        obtain ⟨hB', hgen⟩ := blkAt_some hB
        obtain ⟨L, hL, hgL, hcur, _⟩ := hx.arr_inv
        obtain ⟨B', hB'', ok⟩ := hR.blk b L hL
        obtain rfl : B = B' := by rw [hB'] at hB''; exact Option.some.inj hB''
        have hLg : L.gen = g := by rw [← ok.gen]; exact hgen
        obtain ⟨A, cap', hxv, hA, hcc, hlc, hex, hext⟩ := hcur hLg
        by_cases hn : ys.length = 0
        · rw [if_pos hn] at h; cases h
          have hu0 : us = [] := by have := hsrc.size; rw [hn] at this; simpa using this
          refine ⟨_, w, run_append_fits (base := some A) h0 h1 ht hu hs hxv hsrc (by omega) (.inr ⟨A, rfl, by rw [hu0]; rfl⟩), ?_⟩
          rw [hn, Nat.add_zero, ← hxv]
          exact Step.here hR hx
        · rw [if_neg hn] at h
          -- the size of a row in memory
          have hLsz : B.rows ≠ [] → sz = L.sz := fun hne => szOk_len hBsz ok.len hne
          have hold : ∃ us0 : List Value, us0.length = len * sz ∧ (∀ w', w'.heap = w.heap → (Builtin.firstCells sz len x).run P w' = .ok us0.toArray w') ∧ (∀ u ∈ us0, u.oneCell' = true) ∧
              (∀ (r : Nat) (row : List IV), ((B.rows.drop off).take len)[r]? = some row → row.length = sz) ∧
              (∀ (r : Nat) (row : List IV) (c : Nat) (x : IV), ((B.rows.drop off).take len)[r]? = some row → row[c]? = some x → ∃ u, us0[r * sz + c]? = some u ∧ VR K x u) := by
            have hrw : rowsOf H (.arr b g off len cap ex) = some ((B.rows.drop off).take len) := by simp [rowsOf, hB, hBl]
            have hso : szOk sz ((B.rows.drop off).take len) = true := by
              cases hq : (B.rows.drop off).take len with
              | nil => rfl
              | cons r0 rest =>
                have hr0 : ((B.rows.drop off).take len)[0]? = some r0 := by rw [hq]; rfl
                have hg0 := rows_get hr0
                have := ok.len _ _ hg0.1
                have hne : B.rows ≠ [] := by intro h; rw [h] at hg0; simp at hg0
                simp [szOk, this, hLsz hne]
            obtain ⟨us0, hsrc0⟩ := src_of (P := P) hR hx hrw hso
            have hll : ((B.rows.drop off).take len).length = len := by simp; omega
            refine ⟨us0, by rw [hsrc0.size, hll], fun w' hw' => ?_, hsrc0.one, hsrc0.row, hsrc0.val⟩
            have := hsrc0.load w' hw'
            rw [hll] at this; exact this
          obtain ⟨us0, hus0, hld0, hone0, hrow0, hval0⟩ := hold
          -- the values that move
          have hgrow : cap' < len + ys.length → (len + ys.length) * bytes ≤ room → ∃ nc zs, len + ys.length ≤ nc ∧ zs.length = (nc - (len + ys.length)) * sz ∧ (∀ u ∈ zs, u.oneCell' = true) ∧
              (Builtin.append_ ats ty #[x, y]).run P w = .ok (.slice (some (ad w.heap.size 0)) (len + ys.length) nc) (w.drew.alloc (.cells (us0 ++ us ++ zs).toArray e')) := fun hg hroom => by
            obtain ⟨nc, zs, hle, hzs, hz1, hrun⟩ := run_append_grows (ty := ty) h0 h1 ht hu hs hb hz hxv hsrc hg hbp (by simpa [room] using hroom) (xs := us0) hld0
            exact ⟨nc, zs, hle, by rw [hzs, hzl], hz1, hrun⟩
          have hnewrows : ∀ zs : List Value, (∀ u ∈ zs, u.oneCell' = true) → _ := fun zs hz1 => rows_append (K := K) (zs := zs) (xs := (B.rows.drop off).take len) (by rw [hus0]; congr 1; simp; omega) hsrc.size hrow0 hsrc.row hval0 hsrc.val
          have hll : ((B.rows.drop off).take len).length = len := by simp; omega
          -- the write in place
          have hput : B.rows ≠ [] → len + ys.length ≤ cap' → ro ≤ b → B.frz = false → ∀ rows : List (List IV), (∀ (r : Nat) (row : List IV), rows[r]? = some row → (r < off + len ∧ B.rows[r]? = some row) ∨ (off + len ≤ r ∧ r < off + len + ys.length ∧ ys[r - (off + len)]? = some row) ∨ (off + len + ys.length ≤ r ∧ B.rows[r]? = some row)) → rows.length ≤ max B.rows.length (off + len + ys.length) →
              ∃ w', (Builtin.append_ ats ty #[x, y]).run P w = .ok (.slice (some A) (len + ys.length) cap') w' ∧ Rel K ro (H.set b { B with rows := rows }) w' ∧ Fr K K ro H.length (H.set b { B with rows := rows }).length w w' := by
            intro hne hfit hro hfz rows hrows hrl
            have hAe := hA (Nat.lt_of_lt_of_le (Nat.lt_of_lt_of_le (Nat.pos_of_ne_zero hn) (Nat.le_add_left _ _)) hfit)
            have hw : sz = L.sz := hLsz hne
            have hmul : (off + len + ys.length) * L.sz ≤ L.ext := Nat.le_trans (Nat.mul_le_mul_right _ (by omega)) hext
            have hmax : rows.length * L.sz ≤ L.ext := by
              refine Nat.le_trans (Nat.mul_le_mul_right _ hrl) ?_
              rcases Nat.le_total B.rows.length (off + len + ys.length) with h | h
              · rw [Nat.max_eq_right h]; exact hmul
              · rw [Nat.max_eq_left h]; exact ok.fit
            rw [Nat.add_mul] at hmul
            obtain ⟨hR', hF⟩ := hR.setCells hL hB' hro hfz (rows := rows) (fun r row hr => by
                rcases hrows r row hr with ⟨_, h⟩ | ⟨_, _, h⟩ | ⟨_, h⟩
                · exact ok.len r row h
                · rw [← hw]; exact hsrc.row _ row h
                · exact ok.len r row h) hmax (p := (off + len) * L.sz) (us := us) (by rw [hsrc.size, hw]; exact hmul) hsrc.one (fun r row c x' hr hx' => by
                rcases hrows r row hr with ⟨hlt, h⟩ | ⟨hge, hlt, h⟩ | ⟨hge, h⟩
                · have hc : c < L.sz := by rw [← ok.len r row h]; exact (List.getElem?_eq_some_iff.1 hx').1
                  refine .inr ⟨.inl ?_, row, h, hx'⟩
                  have := Nat.mul_le_mul_right L.sz hlt
                  simp only [Nat.succ_eq_add_one, Nat.add_mul, Nat.one_mul] at this ⊢; omega
                · obtain ⟨u, hu, hv⟩ := hsrc.val _ row c x' h hx'
                  refine .inl ⟨_, u, hu, ?_, hv⟩
                  rw [hw, Nat.sub_mul]
                  have := Nat.mul_le_mul_right L.sz hge
                  omega
                · refine .inr ⟨.inr ?_, row, h, hx'⟩
                  rw [hsrc.size, hw]
                  have := Nat.mul_le_mul_right L.sz hge
                  simp only [Nat.add_mul] at this ⊢; omega)
            refine ⟨_, run_append_fits (base := some A) h0 h1 ht hu hs hxv hsrc hfit (.inr ⟨A, rfl, ?_⟩), hR', hF⟩
            rw [hAe, ad_add, show L.org + off * L.sz + len * sz = L.org + (off + len) * L.sz by rw [hw, Nat.add_mul]; omega]
            have hst := run_storeCells_cells (P := P) L.blk (L.org + (off + len) * L.sz) us 0 w (fun q hq => by
              rw [hsrc.size, hw] at hq
              obtain ⟨u, hu, _⟩ := ok.there ((off + len) * L.sz + q) (by omega)
              rw [show (⟨L.blk, L.org + (off + len) * L.sz + 0 + q, none⟩ : Addr) = ad L.blk (L.org + ((off + len) * L.sz + q)) by simp [ad]; omega, hu]; rfl) (fun q hq => by
              rw [hsrc.size, hw] at hq
              rw [show (⟨L.blk, L.org + (off + len) * L.sz + 0 + q, none⟩ : Addr) = ad L.blk (L.org + ((off + len) * L.sz + q)) by simp [ad]; omega]
              exact ok.soft (by omega) _) hsrc.one
            exact hst
          have hllr : (xs : Nat) → True := fun _ => trivial
          split at h
          · -- there is room for sure
            rename_i hfit
            split at h
            · rename_i hc
              obtain ⟨hro, hfz, hle⟩ := hc
              cases h
              obtain ⟨w', hrun, hR', hF⟩ := hput (by intro h; rw [h, List.length_nil] at hle; omega) (Nat.le_trans hfit hcc) hro hfz (B.rows.take (off + len) ++ ys ++ B.rows.drop (off + len + ys.length)) (fun r row hr => by
                  by_cases h1 : r < off + len
                  · left; refine ⟨h1, ?_⟩
                    rw [List.append_assoc, List.getElem?_append_left (by simp; omega), List.getElem?_take, if_pos h1] at hr; exact hr
                  · by_cases h2 : r < off + len + ys.length
                    · right; left; refine ⟨by omega, h2, ?_⟩
                      rw [List.append_assoc, List.getElem?_append_right (by simp; omega), List.length_take, Nat.min_eq_left hBl, List.getElem?_append_left (by omega)] at hr; exact hr
                    · right; right; refine ⟨by omega, ?_⟩
                      rw [List.append_assoc, List.getElem?_append_right (by simp; omega), List.length_take, Nat.min_eq_left hBl, List.getElem?_append_right (by omega), List.getElem?_drop] at hr
                      rw [← hr]; congr 1; omega) (by simp; omega)
              refine ⟨_, w', hrun, K, K.le_refl, hR', ?_, hF⟩
              exact .arr _ _ _ _ _ _ _ _ L hL hgL (fun _ => ⟨_, cap', rfl, hA, hcc, hfit, hex, hext⟩) ⟨_, _, rfl⟩
            · cases h
          · rename_i hnf
            by_cases hexx : ex = true
            · -- it moves for sure
              rw [if_pos hexx] at h
              simp only [newArr] at h
              split at h
              · rename_i hroom
                cases h
                have hce := hex hexx
                obtain ⟨nc, zs, hle, hzs, hz1, hrun⟩ := hgrow (by omega) (by simpa [hll] using hroom)
                obtain ⟨q1, q2, q3⟩ := hnewrows zs hz1
                refine ⟨_, _, hrun, ?_⟩
                have := new_drew hR (elem := e') q1 q2 (fun v hv => by simp at hv; rcases hv with hv | hv | hv; exact hone0 v hv; exact hsrc.one v hv; exact hz1 v hv) q3 (n := len + ys.length) (cap := nc) hle (by
                  simp [hsrc.size, hus0, hzs, Nat.sub_mul, Nat.add_mul]
                  have := Nat.mul_le_mul_right sz hle
                  simp [Nat.add_mul] at this; omega)
                have hlen2 : ((B.rows.drop off).take len ++ ys).length = len + ys.length := by rw [List.length_append, hll]
                rw [hlen2]
                exact this
              · cases h
            · rw [if_neg hexx] at h
              split at h
              · rename_i hc
                obtain ⟨hro, hfz, hpos, hroom⟩ := hc
                cases h
                have hne : B.rows ≠ [] := by intro h; rw [h] at hpos; simp at hpos
                have hw := hLsz hne
                by_cases hfit : len + ys.length ≤ cap'
                · -- there was room
                  obtain ⟨w', hrun, hR', hF⟩ := hput hne hfit hro hfz (B.rows.take (off + len) ++ ys) (fun r row hr => by
                      by_cases h1 : r < off + len
                      · left; refine ⟨h1, ?_⟩
                        rw [List.getElem?_append_left (by simp; omega), List.getElem?_take, if_pos h1] at hr; exact hr
                      · right; left
                        rw [List.getElem?_append_right (by simp; omega), List.length_take, Nat.min_eq_left hBl] at hr
                        have := (List.getElem?_eq_some_iff.1 hr).1
                        exact ⟨by omega, by omega, hr⟩) (by simp; omega)
                  have hblt : b < H.length := (List.getElem?_eq_some_iff.1 hB').1
                  obtain ⟨hle2, hR2, hF2⟩ := hR'.cutHead hL (B := { B with rows := B.rows.take (off + len) ++ ys }) (by simp [hblt]) hro hfz (off := off) (by simp; omega)
                  refine ⟨_, w', hrun, _, hle2, ?_, ?_, ?_⟩
                  · have : (H.set b { B with rows := B.rows.take (off + len) ++ ys }).set b ({ rows := (B.rows.take (off + len) ++ ys).drop off, gen := L.gen + 1 } : Bk) = H.set b ({ rows := (B.rows.drop off).take len ++ ys, gen := g + 1 } : Bk) := by
                      rw [List.set_set, hLg, List.drop_append_of_le_length (by simp; omega), List.drop_take]
                      congr 4; omega
                    rw [← this]
                    exact hR2
                  · refine .arr _ _ _ _ _ _ _ _ ⟨L.gen + 1, L.blk, L.org + off * L.sz, L.sz, L.ext - off * L.sz⟩ (by simp [Kp.set]) (by simp; omega) (fun _ => ⟨_, cap', rfl, fun hp => ?_, hfit, Nat.le_refl _, fun h => (by cases h), ?_⟩) ⟨_, _, rfl⟩
                    · rw [hA hp]; simp
                    · rw [Nat.add_mul] at hext; simp; omega
                  · have := hF.trans hF2
                    simpa using this
                · -- it moved
                  obtain ⟨nc, zs, hle, hzs, hz1, hrun⟩ := hgrow (by omega) hroom
                  obtain ⟨q1, q2, q3⟩ := hnewrows zs hz1
                  have hblt : b < H.length := (List.getElem?_eq_some_iff.1 hB').1
                  obtain ⟨hle2, hR2, hF2⟩ := hR.drew.place (b := b) (g := g + 1) (sz := sz) (n := H.length) (n' := (H.set b ({ rows := (B.rows.drop off).take len ++ ys, gen := g + 1 } : Bk)).length) (by simp) (H' := H.set b ({ rows := (B.rows.drop off).take len ++ ys, gen := g + 1 } : Bk)) (elem := e') (arr := (us0 ++ us ++ zs).toArray)
                    (fun L0 h => by rw [hL] at h; cases h; omega) hro (fun x hx _ => List.getElem?_set_ne (Ne.symm hx)) (by simp [hblt]) (by simp) (.inr ⟨L, hL⟩) q1 q2
                    (fun v hv => by simp at hv; rcases hv with hv | hv | hv; exact hone0 v hv; exact hsrc.one v hv; exact hz1 v hv) q3
                  refine ⟨_, _, hrun, _, hle2, hR2, ?_, (Fr.drew K ro H.length w).trans hF2⟩
                  refine .arr _ _ _ _ _ _ _ _ ⟨g + 1, w.drew.heap.size, 0, sz, (us0 ++ us ++ zs).toArray.size⟩ (by simp [Kp.set]) (Nat.le_refl _) (fun _ => ⟨_, nc, rfl, fun _ => by simp, hle, Nat.le_refl _, fun h => (by cases h), ?_⟩) ⟨_, _, rfl⟩
                  simp [hsrc.size, hus0, hzs, Nat.sub_mul, Nat.add_mul]
                  have := Nat.mul_le_mul_right sz hle
                  simp [Nat.add_mul] at this; omega
              · cases h

end Go.Vs
/- copy, clear, make, texts to bytes, sums with carry: their simulation. -/
namespace Go.Vs
open Go Go.RowKit

variable {P : Program} {K : Kp} {e : Env} {a : Act} {o : Oper} {w : World}

/-- Rows of a block of one's own, from a place on, written anew. -/
theorem put_rows {ro : Nat} {H : Hp} (hR : Rel K ro H w) {b g : Nat} {L : Loc} {B : Bk} (hL : K.ρ b = some L) (hB : wbl ro H b g = some B) {off sz : Nat} (hw : L.sz = sz) {ys : List (List IV)} {us : List Value} (hle : off + ys.length ≤ B.rows.length) (hus : us.length = ys.length * sz) (hrow : ∀ (r : Nat) (row : List IV), ys[r]? = some row → row.length = sz) (hone : ∀ u ∈ us, u.oneCell' = true)
    (hval : ∀ (r : Nat) (row : List IV) (c : Nat) (x : IV), ys[r]? = some row → row[c]? = some x → ∃ u, us[r * sz + c]? = some u ∧ VR K x u) :
    ∃ w', (storeCells (ad L.blk (L.org + off * L.sz)) us).run P w = .ok () w' ∧ Rel K ro (H.set b { B with rows := B.rows.take off ++ ys ++ B.rows.drop (off + ys.length) }) w' ∧ Fr K K ro H.length (H.set b { B with rows := B.rows.take off ++ ys ++ B.rows.drop (off + ys.length) }).length w w' := by
  obtain ⟨hB, hgen, hro, hfz⟩ := wbl_some hB
  obtain ⟨B', hB', ok⟩ := hR.blk b L hL
  obtain rfl : B = B' := by rw [hB] at hB'; exact Option.some.inj hB'
  subst hw
  have hmul : (off + ys.length) * L.sz ≤ L.ext := Nat.le_trans (Nat.mul_le_mul_right _ hle) ok.fit
  rw [Nat.add_mul] at hmul
  have hget : ∀ (r : Nat) (row : List IV), (B.rows.take off ++ ys ++ B.rows.drop (off + ys.length))[r]? = some row → (r < off ∧ B.rows[r]? = some row) ∨ (off ≤ r ∧ ys[r - off]? = some row) ∨ (off + ys.length ≤ r ∧ B.rows[r]? = some row) := by
    intro r row hr
    by_cases h1 : r < off
    · left; refine ⟨h1, ?_⟩
      rw [List.append_assoc, List.getElem?_append_left (by simp; omega), List.getElem?_take, if_pos h1] at hr; exact hr
    · by_cases h2 : r < off + ys.length
      · right; left; refine ⟨by omega, ?_⟩
        rw [List.append_assoc, List.getElem?_append_right (by simp; omega), List.length_take, Nat.min_eq_left (by omega), List.getElem?_append_left (by omega)] at hr; exact hr
      · right; right; refine ⟨by omega, ?_⟩
        rw [List.append_assoc, List.getElem?_append_right (by simp; omega), List.length_take, Nat.min_eq_left (by omega), List.getElem?_append_right (by omega), List.getElem?_drop] at hr
        rw [← hr]; congr 1; omega
  obtain ⟨hR', hF⟩ := hR.setCells hL hB hro hfz (rows := B.rows.take off ++ ys ++ B.rows.drop (off + ys.length)) (fun r row hr => by
      rcases hget r row hr with ⟨_, h⟩ | ⟨_, h⟩ | ⟨_, h⟩
      · exact ok.len r row h
      · exact hrow _ row h
      · exact ok.len r row h) (by
      have : (B.rows.take off ++ ys ++ B.rows.drop (off + ys.length)).length = B.rows.length := by simp; omega
      rw [this]; exact ok.fit) (p := off * L.sz) (us := us) (by rw [hus]; exact hmul) hone (fun r row c x hr hx => by
      rcases hget r row hr with ⟨hlt, h⟩ | ⟨hge, h⟩ | ⟨hge, h⟩
      · have hc : c < L.sz := by rw [← ok.len r row h]; exact (List.getElem?_eq_some_iff.1 hx).1
        refine .inr ⟨.inl ?_, row, h, hx⟩
        have := Nat.mul_le_mul_right L.sz hlt
        simp only [Nat.succ_eq_add_one, Nat.add_mul, Nat.one_mul] at this; omega
      · obtain ⟨u, hu, hv⟩ := hval _ row c x h hx
        refine .inl ⟨_, u, hu, ?_, hv⟩
        rw [Nat.sub_mul]
        have := Nat.mul_le_mul_right L.sz hge
        omega
      · refine .inr ⟨.inr ?_, row, h, hx⟩
        rw [hus]
        have := Nat.mul_le_mul_right L.sz hge
        simp only [Nat.add_mul] at this; omega)
  refine ⟨_, ?_, hR', hF⟩
  exact run_storeCells_cells (P := P) L.blk (L.org + off * L.sz) us 0 w (fun q hq => by
    rw [hus] at hq
    obtain ⟨u, hu, _⟩ := ok.there (off * L.sz + q) (by omega)
    rw [show (⟨L.blk, L.org + off * L.sz + 0 + q, none⟩ : Addr) = ad L.blk (L.org + (off * L.sz + q)) by simp [ad]; omega, hu]; rfl) (fun q hq => by
    rw [hus] at hq
    rw [show (⟨L.blk, L.org + off * L.sz + 0 + q, none⟩ : Addr) = ad L.blk (L.org + (off * L.sz + q)) by simp [ad]; omega]
    exact ok.soft (by omega) _) hone

theorem rowsOf_len {H : Hp} {Y : IV} {ys : List (List IV)} (h : rowsOf H Y = some ys) {y : Value} (hy : VR K Y y) : (Builtin.lenOf y).run P w = .ok ys.length w := by
  cases Y <;> simp only [rowsOf, reduceCtorEq, Option.some.injEq] at h
  case str s => subst h; rw [hy.str_inv]; simp [Builtin.lenOf]
  case nsl => subst h; rw [hy.nsl_inv]; rfl
  case imm rows full => subst h; obtain ⟨_, _, _, _, _, _, hv, _⟩ := hy.imm_inv; rw [hv]; rfl
  case arr b g off len cap ex =>
    simp only [Option.bind_eq_some_iff] at h
    obtain ⟨B, hB, h⟩ := h
    split at h
    · simp at h; subst h
      obtain ⟨_, _, _, _, _, _, hv⟩ := hy.arr_inv
      rw [hv]
      have : ((B.rows.drop off).take len).length = len := by simp; omega
      rw [this]; rfl
    · cases h

theorem sim_copy {ro : Nat} {H H' : Hp} (hR : Rel K ro H w) {t ty : TypeId} {ats : Array TypeId} {e' : TypeId} {sz : Nat} {X Y Z : IV} {x y : Value} (h0 : ats[0]? = some t) (ht : P.underlying t = some (.slice e')) (hs : szT P e' = some sz)
    (hx : VR K X x) (hy : VR K Y y) (h : copyV ro H sz X Y = some (Z, H')) : ∃ v w', (Builtin.copy_ ats ty #[x, y]).run P w = .ok v w' ∧ Step K ro H w H' w' Z v := by
  simp only [copyV, Option.bind_eq_some_iff] at h
  obtain ⟨ys, hys, h⟩ := h
  split at h
  · cases h
  · rename_i hsz
    have hsz : szOk sz ys = true := by simpa using hsz
    obtain ⟨us, hsrc⟩ := src_of (P := P) hR hy hys hsz
    cases X <;> simp only [reduceCtorEq] at h
    case nsl =>
      cases h
      refine ⟨goInt 0, w, ?_, Step.here hR (.int _ _ _)⟩
      have hl := hsrc.loadN 0 (Nat.zero_le _) w rfl
      simp [Builtin.copy_, h0, run_underlying ht, run_sizeOf' hs, hx.nsl_inv, hsrc.len, hl]
    case arr b g off len cap ex =>
      simp only [Option.bind_eq_some_iff] at h
      obtain ⟨B, hB, h⟩ := h
      split at h
      · cases h
      · rename_i hcond
        have hBsz : szOk sz B.rows = true := by
          by_cases h : szOk sz B.rows = true
          · exact h
          · exact absurd (Or.inl (by simpa using h)) hcond
        have hBl : off + min ys.length len ≤ B.rows.length := by
          rcases Nat.lt_or_ge B.rows.length (off + min ys.length len) with h | h
          · exact absurd (Or.inr h) hcond
          · exact h
        obtain ⟨hB', hgen, hro, hfz⟩ := wbl_some hB
        obtain ⟨L, hL, hgL, hcur, _⟩ := hx.arr_inv
        obtain ⟨B', hB'', ok⟩ := hR.blk b L hL
        obtain rfl : B = B' := by rw [hB'] at hB''; exact Option.some.inj hB''
        obtain ⟨A, cap', hxv, hA, hcc, hlc, hex, hext⟩ := hcur (by rw [← ok.gen]; exact hgen)
        generalize hn : min ys.length len = n at *
        cases h
        have hl := hsrc.loadN n (by omega) w rfl
        have hnl : (ys.take n).length = n := by simp; omega
        have hmin : ys.length.min len = n := hn
        by_cases h00 : n = 0
        · subst h00
          simp at hl
          refine ⟨goInt 0, w, ?_, K, K.le_refl, ?_, .int _ _ _, ?_⟩
          · simp [Builtin.copy_, h0, run_underlying ht, run_sizeOf' hs, hxv, hsrc.len, hmin, hl, storeCells]
          · have hself : H.set b { B with rows := B.rows.take off ++ ys.take 0 ++ B.rows.drop (off + 0) } = H := by
              apply List.ext_getElem?
              intro i
              rw [List.getElem?_set]
              split
              · subst_vars; simp at hB' ⊢; rw [hB']; simp [(List.getElem?_eq_some_iff.1 hB').1]
              · rfl
            rw [hself]; exact hR
          · have : (H.set b { B with rows := B.rows.take off ++ ys.take 0 ++ B.rows.drop (off + 0) }).length = H.length := by simp
            rw [this]; exact Fr.refl _ _ _ _
        · have hne : B.rows ≠ [] := by intro h; rw [h, List.length_nil] at hBl; omega
          have hw := szOk_len hBsz ok.len hne
          obtain ⟨w', hst, hR', hF⟩ := put_rows (P := P) hR hL hB hw.symm (off := off) (ys := ys.take n) (us := us.take (n * sz)) (by rw [hnl]; exact hBl) (by rw [hnl, List.length_take, hsrc.size, Nat.min_eq_left (Nat.mul_le_mul_right _ (by omega))])
            (fun r row hr => by rw [List.getElem?_take] at hr; split at hr; exact hsrc.row r row hr; cases hr) (fun u hu => hsrc.one u (List.mem_of_mem_take hu)) (fun r row c x' hr hx' => by
              rw [List.getElem?_take] at hr
              split at hr
              · rename_i hrn
                obtain ⟨u, hu, hv⟩ := hsrc.val r row c x' hr hx'
                refine ⟨u, ?_, hv⟩
                have hc : c < sz := by rw [← hsrc.row r row hr]; exact (List.getElem?_eq_some_iff.1 hx').1
                have := Nat.mul_le_mul_right sz hrn
                simp only [Nat.succ_eq_add_one, Nat.add_mul, Nat.one_mul] at this
                rw [List.getElem?_take, if_pos (by omega)]; exact hu
              · cases hr)
          rw [hnl] at hR' hF
          refine ⟨goInt n, w', ?_, K, K.le_refl, hR', .int _ _ _, hF⟩
          have hAe := hA (by omega)
          rw [← hAe] at hst
          simp [Builtin.copy_, h0, run_underlying ht, run_sizeOf' hs, hxv, hsrc.len, hmin, hl, hst]

theorem sim_clear {ro : Nat} {H H' : Hp} (hR : Rel K ro H w) {t ty : TypeId} {ats : Array TypeId} {e' : TypeId} {X Z : IV} {x : Value} {z : List IV} (h0 : ats[0]? = some t) (ht : P.underlying t = some (.slice e')) (hz : zT P e' = some z)
    (hx : VR K X x) (h : clearV ro H z.length z X = some (Z, H')) : ∃ v w', (Builtin.clear_ ats ty #[x]).run P w = .ok v w' ∧ Step K ro H w H' w' Z v := by
  have htup : VR K (.tup []) (.tuple #[]) := .tup _ _ _ rfl (fun i x y h => by simp at h)
  cases X <;> simp only [clearV, reduceCtorEq] at h
  case nsl =>
    cases h
    exact ⟨_, w, by simp [Builtin.clear_, h0, run_underlying ht, hx.nsl_inv], Step.here hR htup⟩
  case arr b g off len cap ex =>
    split at h
    · rename_i hl0
      cases h
      subst hl0
      obtain ⟨_, _, _, _, A, c, hv⟩ := hx.arr_inv
      exact ⟨_, w, by simp [Builtin.clear_, h0, run_underlying ht, hv], Step.here hR htup⟩
    · rename_i hl0
      simp only [Option.bind_eq_some_iff] at h
      obtain ⟨B, hB, h⟩ := h
      split at h
      · cases h
      · rename_i hcond
        cases h
        obtain ⟨hB', hgen, hro, hfz⟩ := wbl_some hB
        obtain ⟨L, hL, hgL, hcur, _⟩ := hx.arr_inv
        obtain ⟨B', hB'', ok⟩ := hR.blk b L hL
        obtain rfl : B = B' := by rw [hB'] at hB''; exact Option.some.inj hB''
        obtain ⟨A, cap', hxv, hA, hcc, hlc, hex, hext⟩ := hcur (by rw [← ok.gen]; exact hgen)
        have hBsz : szOk z.length B.rows = true := by
          by_cases h : szOk z.length B.rows = true
          · exact h
          · exact absurd (Or.inl (by simpa using h)) hcond
        have hBl : off + len ≤ B.rows.length := by
          rcases Nat.lt_or_ge B.rows.length (off + len) with h | h
          · exact absurd (Or.inr (Or.inr h)) hcond
          · exact h
        have hne : B.rows ≠ [] := by clear hcur; intro h; rw [h, List.length_nil] at hBl; omega
        have hw := szOk_len hBsz ok.len hne
        obtain ⟨zv, hzr, hzs, hz1, hzv⟩ := zT_some (K := K) hz
        have hget : ∀ r c u, r < len → zv.cells[c]? = some u → (Builtin.zeroCells zv.cells len).toList[r * z.length + c]? = some u := by
          intro r c u hr hu
          have hc : c < z.length := by rw [← hzs]; exact (Array.getElem?_eq_some_iff.1 hu).1
          have hmul : (r + 1) * z.length ≤ len * z.length := Nat.mul_le_mul_right _ hr
          rw [Nat.add_mul, Nat.one_mul] at hmul
          have hm : (r * z.length + c) % zv.cells.size = c := by rw [hzs, Nat.mul_comm, Nat.mul_add_mod, Nat.mod_eq_of_lt hc]
          have hlt : r * z.length + c < len * zv.cells.size := by rw [hzs]; omega
          obtain ⟨h1, h2⟩ := Array.getElem?_eq_some_iff.1 hu
          rw [Array.getElem?_toList]
          simp only [Builtin.zeroCells]
          rw [Array.getElem?_map, Array.getElem?_range, if_pos hlt]
          simp only [Option.map_some, hm]
          rw [getElem!_pos zv.cells c h1, h2]
        obtain ⟨w', hst, hR', hF⟩ := put_rows (P := P) hR hL hB hw.symm (off := off) (ys := List.replicate len z) (us := (Builtin.zeroCells zv.cells len).toList) (by simpa using hBl) (by simp [Builtin.zeroCells, hzs])
          (fun r row hr => by
            rw [List.getElem?_replicate] at hr
            split at hr
            · simp at hr; rw [← hr]
            · cases hr) (fun u hu => by
            simp only [Builtin.zeroCells, Array.mem_toList_iff, Array.mem_map, Array.mem_range] at hu
            obtain ⟨j, hj, rfl⟩ := hu
            have hp : 0 < zv.cells.size := by
              rcases Nat.eq_zero_or_pos zv.cells.size with h | h
              · rw [h] at hj; omega
              · exact h
            have hm : j % zv.cells.size < zv.cells.size := Nat.mod_lt _ hp
            rw [getElem!_pos zv.cells _ hm]
            exact hz1 _ (Array.getElem_mem hm)) (fun r row c x' hr hx' => by
            rw [List.getElem?_replicate] at hr
            split at hr
            · rename_i hrl
              simp at hr; subst hr
              have hc : c < zv.cells.size := by rw [hzs]; exact (List.getElem?_eq_some_iff.1 hx').1
              exact ⟨_, hget r c _ hrl (Array.getElem?_eq_getElem hc), hzv c x' _ hx' (Array.getElem?_eq_getElem hc)⟩
            · cases hr)
        rw [List.length_replicate] at hR' hF
        refine ⟨_, w', ?_, K, K.le_refl, hR', htup, hF⟩
        have hAe := hA (Nat.lt_of_lt_of_le (Nat.pos_of_ne_zero hl0) (Nat.le_trans hlc hcc))
        rw [← hAe] at hst
        cases len with
        | zero => exact absurd rfl hl0
        | succ len => simp [Builtin.clear_, h0, run_underlying ht, hxv, hzr, hst]

theorem prOf_name {n : String} {p : Pr} (h : prOf n = some p) : (p = .add64 ∧ n = "math/bits.Add64") ∨ (p = .ixb ∧ n = "internal/bytealg.IndexByteString") ∨ (p = .cmps ∧ n = "internal/bytealg.abigen_runtime_cmpstring") ∨ (p = .noe ∧ n = "internal/abi.NoEscape") := by
  unfold prOf at h
  split at h
  · rename_i e; cases h; exact .inl ⟨rfl, by simpa using e⟩
  · split at h
    · rename_i e; cases h; exact .inr (.inl ⟨rfl, by simpa using e⟩)
    · split at h
      · rename_i e; cases h; exact .inr (.inr (.inl ⟨rfl, by simpa using e⟩))
      · split at h
        · rename_i e; cases h; exact .inr (.inr (.inr ⟨rfl, by simpa using e⟩))
        · cases h

theorem find_range (l : List UInt8) (p : UInt8 → Bool) (q : Nat → Bool) (h : ∀ i (hi : i < l.length), q i = p l[i]) : (List.range l.length).find? q = l.findIdx? p := by
  cases hf : l.findIdx? p with
  | none =>
    rw [List.findIdx?_eq_none_iff] at hf
    rw [List.find?_eq_none]
    intro i hi
    have hi := List.mem_range.1 hi
    rw [h i hi, hf _ (List.getElem_mem hi)]; simp
  | some i =>
    obtain ⟨hi, hp, hn⟩ := List.findIdx?_eq_some_iff_getElem.1 hf
    rw [List.find?_range_eq_some]
    refine ⟨by rw [h i hi]; exact hp, List.mem_range.2 hi, fun j hj => ?_⟩
    have := hn j hj
    rw [h j (by omega)]; simpa using this

theorem run_ixb (s : ByteArray) (c : Int) (w : World) : (Extern.BytealgIndexByte.indexByte #[.string s, .int .u8 c]).run P w = .ok (.int .i64 (ixB s c)) w := by
  have hf : (List.range s.size).find? (fun i => s[i]! == c.toNat.toUInt8) = s.data.toList.findIdx? (· == c.toNat.toUInt8) := by
    have := find_range s.data.toList (· == c.toNat.toUInt8) (fun i => s[i]! == c.toNat.toUInt8) fun i hi => by
      have hi2 : i < s.size := by simpa using hi
      rw [getElem!_pos s i hi2]; rfl
    simpa using this
  unfold ixB
  show (match (List.range s.size).find? (fun i => s[i]! == c.toNat.toUInt8) with | some i => (pure (goInt i) : Sem Value) | none => pure (goInt (-1))).run P w = _
  rw [hf]
  cases s.data.toList.findIdx? (· == c.toNat.toUInt8) <;> rfl

theorem run_cmps (a b : ByteArray) (w : World) : (Extern.BytealgCompare.compare #[.string a, .string b]).run P w = .ok (.int .i64 (Extern.BytealgCompare.cmp a b)) w := rfl

theorem sim_pr (hpr : PrOk P) (he : EnvOk K e a) {f : Nat} {fn : Func} {p : Pr} {xs : Array Operand} {ats : Array TypeId} {ys : List Opd} {z : IV} (ho : o.op = .call { callee := .value (.func f), args := xs, argTypes := ats }) (hf : P.funcs[f]? = some fn) (hnm : prOf fn.name = some p) (hor : fn.origin = "") (hb : fn.body = none) (hxs : cOpds xs.toList = some ys) (hz : prV p (ys.map (ev e)) = some z) : Gives P a o w K z := by
  obtain ⟨hl, hv⟩ := evs_ok he hxs
  obtain ⟨hn, hfd⟩ := hpr.at_ f fn p hf hnm hor hb
  have hne : (fn.name == "runtime.NumGoroutine") = false := by
    rcases prOf_name hnm with ⟨_, h⟩ | ⟨_, h⟩ | ⟨_, h⟩ | ⟨_, h⟩ <;> rw [h] <;> decide
  have hrun : ∀ w', (execOp a.eval o).run P w' = ((prEntry p (xs.map a.eval)).run P w').andThen fun v w'' => .ok (.value v) w'' := by
    intro w'
    have := run_callFunc_extern hf hne (by rw [hb]; rfl) hn hfd (xs.map a.eval) w'
    simpa [execOp, ho, resolve, Act.eval, Deferred.ofValue, invoke] using this
  refine gives_of hrun ?_
  unfold prV at hz
  split at hz
  · rename_i s c heq
    cases hz
    have h3 : ∃ p q, xs.toList.map a.eval = [p, q] := by
      rw [heq] at hl
      match xs.toList.map a.eval, hl with
      | [p, q], _ => exact ⟨p, q, rfl⟩
    obtain ⟨p, q, hpq⟩ := h3
    rw [heq, hpq] at hv
    have e1 := (hv 0 _ _ rfl rfl).str_inv
    have e2 := (hv 1 _ _ rfl rfl).int_inv
    have hx : xs.map a.eval = #[.string s, .int .u8 c] := by
      apply Array.ext'
      rw [Array.toList_map, hpq, e1, e2]
    rw [hx]
    exact ⟨_, run_ixb s c w, .int _ _ _⟩
  · rename_i s c heq
    cases hz
    have h3 : ∃ p q, xs.toList.map a.eval = [p, q] := by
      rw [heq] at hl
      match xs.toList.map a.eval, hl with
      | [p, q], _ => exact ⟨p, q, rfl⟩
    obtain ⟨p, q, hpq⟩ := h3
    rw [heq, hpq] at hv
    have e1 := (hv 0 _ _ rfl rfl).str_inv
    have e2 := (hv 1 _ _ rfl rfl).str_inv
    have hx : xs.map a.eval = #[.string s, .string c] := by
      apply Array.ext'
      rw [Array.toList_map, hpq, e1, e2]
    rw [hx]
    exact ⟨_, run_cmps s c w, .int _ _ _⟩
  · rename_i X Y C heq
    split at hz
    · rename_i hc
      simp at hz; subst hz
      have h3 : ∃ p q r, xs.toList.map a.eval = [p, q, r] := by
        rw [heq] at hl
        match xs.toList.map a.eval, hl with
        | [p, q, r], _ => exact ⟨p, q, r, rfl⟩
      obtain ⟨p, q, r, hpq⟩ := h3
      rw [heq, hpq] at hv
      have e1 := (hv 0 _ _ rfl rfl).int_inv
      have e2 := (hv 1 _ _ rfl rfl).int_inv
      have e3 := (hv 2 _ _ rfl rfl).int_inv
      have hx : xs.map a.eval = #[.int .u64 X, .int .u64 Y, .int .u64 C] := by
        apply Array.ext'
        rw [Array.toList_map, hpq, e1, e2, e3]
      rw [hx]
      refine ⟨_, run_add64 X Y C hc.1 hc.2.1 hc.2.2.1 hc.2.2.2 w, .tup K _ _ rfl (fun i x y h1 h2 => ?_)⟩
      match i, h1, h2 with
      | 0, h1, h2 => simp at h1 h2; subst h1 h2; exact .int _ _ _
      | 1, h1, h2 => simp at h1 h2; subst h1 h2; exact .int _ _ _
      | i + 2, h1, h2 => simp at h1
    · cases hz
  · rename_i y heq
    cases hz
    have h3 : ∃ p, xs.toList.map a.eval = [p] := by
      rw [heq] at hl
      match xs.toList.map a.eval, hl with
      | [p], _ => exact ⟨p, rfl⟩
    obtain ⟨p, hpq⟩ := h3
    rw [heq, hpq] at hv
    have hx : xs.map a.eval = #[p] := by
      apply Array.ext'
      rw [Array.toList_map, hpq]
    rw [hx]
    exact ⟨p, rfl, hv 0 _ _ rfl rfl⟩
  · cases hz

end Go.Vs
/- make, the room of a slice: their simulation. -/
namespace Go.Vs
open Go Go.RowKit

variable {P : Program} {K : Kp} {e : Env} {a : Act} {o : Oper} {w : World}

theorem wrap_nat {n : Int} (h0 : 0 ≤ n) (h : n ≤ 9223372036854775807) : IntKind.i64.wrap n = n := by
  simp only [IntKind.wrap, IntKind.bits, IntKind.signed]
  have : n % 2 ^ 64 = n := Int.emod_eq_of_lt h0 (by omega)
  simp
  omega

theorem asNat_some {x : IV} {n : Nat} (h : asNat x = some n) : ∃ k, x = .int k n := by
  cases x <;> simp only [asNat, reduceCtorEq] at h
  split at h
  · simp at h; subst h
    exact ⟨_, by congr 1; omega⟩
  · cases h

theorem sim_mksl (he : EnvOk K e a) {t u : TypeId} {sz bytes n c : Nat} {x y : Operand} {x' y' : Opd} {z : List IV} (hl : Nat) (ho : o.op = .makeSlice t x y) (ht : P.underlying t = some (.slice u)) (hs : szT P u = some sz) (hb : byT P u = some bytes) (hz : zT P u = some z) (hx : cOpd x = some x') (hy : cOpd y = some y')
    (hn : asNat (ev e x') = some n) (hc : asNat (ev e y') = some c) (hle : n ≤ c) (hroom : c * bytes ≤ room) (hzl : z.length = sz) (hsp : 0 < sz) (hbp : 0 < bytes) : Makes P a o w K hl (.arr hl 0 0 n c true) (List.replicate c z) := by
  obtain ⟨v, hrun, hsz, h1, hv⟩ := zT_some (K := K) hz
  have hz0 := zeros_at (K := K) c (by omega) hsz h1 hv
  rw [hzl] at hz0
  obtain ⟨k1, e1⟩ := asNat_some hn
  obtain ⟨k2, e2⟩ := asNat_some hc
  have hx1 := he.ev hx
  have hy1 := he.ev hy
  rw [e1] at hx1; rw [e2] at hy1
  obtain ⟨i, hi, hib⟩ : ∃ i, P.info? u = some i ∧ i.bytes = bytes := by
    unfold byT at hb
    cases h : P.info? u with
    | none => simp [h] at hb
    | some i => simp [h] at hb; exact ⟨i, rfl, hb⟩
  have hc47 : c ≤ 2 ^ 47 := by
    have : c * 1 ≤ c * bytes := Nat.mul_le_mul_left _ hbp
    simp only [room] at hroom; omega
  have w1 : IntKind.i64.wrap (n : Int) = n := wrap_nat (by omega) (by omega)
  have w2 : IntKind.i64.wrap (c : Int) = c := wrap_nat (by omega) (by omega)
  have hbc : ¬ ((i.bytes : Int) * (c : Int) > 2 ^ 48) := by
    rw [hib, ← Int.natCast_mul, Nat.mul_comm]
    simp only [room] at hroom; omega
  refine ⟨.slice (some ⟨w.heap.size, 0, none⟩) n c, _, u, sz, ?_, hz0.len, by rw [hz0.size]; exact Nat.le_refl _, hz0.one, hz0.val, fun K' h => ?_⟩
  · by_cases hc0 : c = 0
    · subst hc0
      have hn0 : n = 0 := by omega
      subst hn0
      have e0 : Array.range 0 = #[] := rfl
      simp at w1
      simp [execOp, ho, Instr.makeSlice, run_underlying ht, hx1.int_inv, hy1.int_inv, asInt, asIntOf, typeInfo, hi, w1, run_sizeOf' hs, newRow_run, e0]
    · have hne : ¬ c * sz = 0 := by
        intro h; rcases Nat.mul_eq_zero.1 h with h | h <;> omega
      have h2 : ¬ ((c : Int) < 0) := by omega
      have h3 : ¬ ((n : Int) < 0) := by omega
      have h4 : ¬ ((n : Int) > (c : Int)) := by omega
      simp only [execOp, ho, Instr.makeSlice, Sem.run_bind, run_underlying ht, Result.andThen_ok, hx1.int_inv, hy1.int_inv, asInt, asIntOf, Sem.run_pure, typeInfo, run_program, hi, w1, w2, h2, h3, h4, hbc, decide_false, Bool.or_self, Bool.false_eq_true, if_false, run_askRoom, Int.toNat_natCast, run_sizeOf' hs, hne, hrun, newRow_run]
  · refine .arr _ _ _ _ _ _ _ _ _ h (Nat.zero_le _) (fun _ => ⟨_, c, rfl, fun _ => by simp [ad], Nat.le_refl _, hle, fun _ => rfl, ?_⟩) ⟨_, _, rfl⟩
    rw [Nat.zero_add, hz0.size, List.length_replicate]
    exact Nat.le_refl _

theorem sim_capo {ro : Nat} {H : Hp} (hR : Rel K ro H w) (he : EnvOk K e a) {t u : TypeId} {x : Operand} {x' : Opd} {ats : Array TypeId} {n : Nat} (hat : ats[0]? = some t) (ht : P.underlying t = some (.slice u)) (hx : cOpd x = some x') (ho : o.op = .call { callee := .builtin .cap, args := #[x], argTypes := ats })
    (hz : ev e x' = .nsl ∧ n = 0 ∨ (∃ rows, ev e x' = .imm rows true ∧ n = rows.length) ∨ ∃ b g off len B, ev e x' = .arr b g off len n true ∧ blkAt H b g = some B) : Gives P a o w K (.int .i64 n) := by
  have h1 := he.ev hx
  refine gives_of (s := Builtin.cap_ ats o.type #[a.eval x]) (fun w' => by simp [execOp, ho, resolve, invoke, builtin]) ⟨_, ?_, .int _ _ _⟩
  rcases hz with ⟨h, rfl⟩ | ⟨rows, h, rfl⟩ | ⟨b, g, off, len, B, h, hB⟩
  · rw [h] at h1
    simp [Builtin.cap_, hat, run_underlying ht, h1.nsl_inv, goInt]
  · rw [h] at h1
    obtain ⟨A, cap, b, q', sz, us, hv, _, _, hf, _⟩ := h1.imm_inv
    simp [Builtin.cap_, hat, run_underlying ht, hv, goInt, hf rfl]
  · rw [h] at h1
    obtain ⟨hB, hgen⟩ := blkAt_some hB
    obtain ⟨L, hL, hgL, hcur, _⟩ := h1.arr_inv
    obtain ⟨B', hB', ok⟩ := hR.blk b L hL
    obtain rfl : B = B' := by rw [hB] at hB'; exact Option.some.inj hB'
    obtain ⟨A, cap', hv, _, _, _, hex, _⟩ := hcur (by rw [← ok.gen]; exact hgen)
    simp [Builtin.cap_, hat, run_underlying ht, hv, goInt, hex rfl]

end Go.Vs
