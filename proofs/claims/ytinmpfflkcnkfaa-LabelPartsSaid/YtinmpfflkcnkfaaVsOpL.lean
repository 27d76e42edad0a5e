/- Texts built up in a row of bytes: places turned and held against themselves, rows whose type is known. -/
import Derived.Test.YtinmpfflkcnkfaaVsOpK
namespace Go.Vs
open Go Go.RowKit

variable {P : Program} {K : Kp} {e : Env} {a : Act} {o : Oper} {w : World}

theorem shape_of_cell {b q : Nat} {u : Value} (h : w.cell? (ad b q) = some u) : ∃ t n, w.shape? b = some (t, n) ∧ q < n := by
  simp only [World.cell?, ad] at h
  split at h
  · rename_i c t fr hb
    simp at h
    refine ⟨t, c.size, by simp [World.shape?, hb], (Array.getElem?_eq_some_iff.1 h).1⟩
  · cases h

theorem sim_alt {ro : Nat} {H : Hp} (hR : Rel K ro H w) {t : TypeId} {z : List IV} (ho : o.op = .alloc t) (hz : zT P t = some z) :
    ∃ v w', (execOp a.eval o).run P w = .ok (.value v) w' ∧ Step K ro H w (H ++ [({ rows := [z], ty := some t } : Bk)]) w' (.ptr H.length 0 0 0) v := by
  obtain ⟨v, hrun, hsz, h1, hv⟩ := zT_some (K := K) hz
  obtain ⟨q1, q2, q3⟩ := one_row (K := K) (cs := z) (arr := v.cells) ⟨hsz, hv⟩
  obtain ⟨hle, hR', hF⟩ := hR.newT (elem := t) q1 q2 h1 q3
  refine ⟨.pointer (some ⟨w.heap.size, 0, none⟩), _, ?_, _, hle, hR', ?_, hF⟩
  · simp [execOp, ho, Instr.alloc, hrun, newVar, newRow_run]
  · exact .ptr _ _ _ _ _ _ ⟨0, w.heap.size, 0, z.length, v.cells.size⟩ (by simp [Kp.set]) (fun _ => by simp [ad]) (Nat.zero_le _) ⟨_, rfl⟩

theorem szT_info {t : TypeId} {n : Nat} (h : szT P t = some n) : ∃ j, P.info? t = some j ∧ j.size = n := by
  unfold szT at h
  cases hi : P.info? t with
  | none => simp [hi] at h
  | some j => simp [hi] at h; exact ⟨j, rfl, h⟩

theorem sim_tou {ro : Nat} {H : Hp} (hR : Rel K ro H w) (he : EnvOk K e a) {s d t : TypeId} {x : Operand} {x' : Opd} {n : Nat} {z : IV} (ho : o.op = .convert s d x) (hs : P.underlying s = some (.pointer t)) (hd : P.underlying d = some .unsafePointer) (ht : szT P t = some (n + 1)) (hx : cOpd x = some x') (hz : touV H (ev e x') = some z) : Gives P a o w K z := by
  have h1 := he.ev hx
  obtain ⟨j, hj, hjs⟩ := szT_info ht
  cases hv : ev e x' <;> rw [hv] at hz h1 <;> simp only [touV, reduceCtorEq, Option.bind_eq_some_iff, Option.some.injEq] at hz
  obtain ⟨cs, hr, rfl⟩ := hz
  obtain ⟨hl, b, q, us, hvp, hc⟩ := rd_sim hR h1 hr
  obtain ⟨u, hu⟩ : ∃ u, us[0]? = some u := ⟨_, List.getElem?_eq_getElem (by rw [hc.1, hl]; exact Nat.one_pos)⟩
  have hcell := (hc.2.1 0 u hu).1
  obtain ⟨t', n', hsh, hlt⟩ := shape_of_cell hcell
  refine gives_of (s := convert s d (a.eval x)) (fun w' => by simp [execOp, ho]) ⟨_, ?_, h1⟩
  rw [hvp]
  exact Lib.run_to_unsafe w (ad b q) hs hd hj (by omega) hsh hlt

theorem liesAt_self {t : TypeId} (h0 : P.cellsOf t ≠ 0) {count : Nat} (hn : 1 ≤ count) : liesAt P P.depth t count 0 t 1 = true := by
  have hd : P.depth = (2 * (P.types.size + Made.depth) + 1) + 1 := rfl
  rw [hd]
  simp only [liesAt, Bool.or_eq_true]
  left
  rw [hd]
  simp [rowAt, h0, hn, sameLayout]

theorem sim_fru {ro : Nat} {H : Hp} (hR : Rel K ro H w) (he : EnvOk K e a) {s d t : TypeId} {x : Operand} {x' : Opd} {n : Nat} {z : IV} (ho : o.op = .convert s d x) (hs : P.underlying s = some .unsafePointer) (hd : P.underlying d = some (.pointer t)) (ht : szT P t = some (n + 1)) (hx : cOpd x = some x') (hz : fruV H t (n + 1) (ev e x') = some z) : Gives P a o w K z := by
  have h1 := he.ev hx
  obtain ⟨j, hj, hjs⟩ := szT_info ht
  have hct : P.cellsOf t = n + 1 := by unfold Program.cellsOf; rw [hj]; exact hjs
  unfold fruV at hz
  split at hz
  · rename_i b g heq
    rw [heq] at h1
    simp only [Option.bind_eq_some_iff] at hz
    obtain ⟨B, hB, row, hrow, hz⟩ := hz
    split at hz
    · rename_i hc
      cases hz
      obtain ⟨hB', hgen⟩ := blkAt_some hB
      obtain ⟨L, hL, e1, hg, _⟩ := h1.ptr_inv
      obtain ⟨B', hB'', ok⟩ := hR.blk b L hL
      obtain rfl : B = B' := by rw [hB'] at hB''; exact Option.some.inj hB''
      obtain ⟨h0, c, fr, hcell⟩ := ok.ety t hc.1
      have hv := e1 (by rw [← ok.gen]; exact hgen)
      have hsz : L.sz = n + 1 := by rw [← ok.len 0 row hrow]; exact hc.2
      have hext : n + 1 ≤ c.size := by
        have h3 := ok.fit
        have h4 : 1 ≤ B.rows.length := (List.getElem?_eq_some_iff.1 hrow).1
        have h5 := Nat.mul_le_mul_right L.sz h4
        obtain ⟨u, hu, _⟩ := ok.there n (by omega)
        obtain ⟨t', n', hsh, hlt⟩ := shape_of_cell hu
        simp only [World.shape?, hcell] at hsh
        cases hsh
        omega
      refine gives_of (s := convert s d (a.eval x)) (fun w' => by simp [execOp, ho]) ⟨_, ?_, h1⟩
      rw [hv, h0]
      refine Lib.run_from_unsafe w _ hs hd hj (e := t) (cells := c.size) (by simp [World.shape?, ad, hcell]) ?_
      simp only [ad, Nat.zero_mul, Nat.add_zero]
      refine liesAt_self (by omega) ?_
      rw [hct]
      exact (Nat.le_div_iff_mul_le (by omega)).2 (by omega)
    · cases hz
  · cases hz

theorem sim_nep {ro : Nat} {H : Hp} (hR : Rel K ro H w) (he : EnvOk K e a) {t te u : TypeId} {x y : Operand} {x' y' : Opd} {z : IV} (ho : o.op = .binOp .neq t x y u) (ht : P.underlying t = some (.pointer te)) (hte : (P.info? te).isSome = true) (hx : cOpd x = some x') (hy : cOpd y = some y') (hz : nepV H (ev e x') (ev e y') = some z) : Gives P a o w K z := by
  have h1 := he.ev hx
  have h2 := he.ev hy
  obtain ⟨j, hj⟩ := Option.isSome_iff_exists.1 hte
  unfold nepV at hz
  split at hz
  · rename_i b g i jj b' g' i' jj' e1 e2
    rw [e1] at h1
    rw [e2] at h2
    simp only [Option.bind_eq_some_iff] at hz
    obtain ⟨B, hB, hz⟩ := hz
    split at hz
    · rename_i hc
      obtain ⟨rfl, rfl, rfl, rfl⟩ := hc
      cases hz
      obtain ⟨hB', hgen⟩ := blkAt_some hB
      obtain ⟨L, hL, v1, _, _⟩ := h1.ptr_inv
      obtain ⟨L', hL', v2, _, _⟩ := h2.ptr_inv
      rw [hL] at hL'; cases hL'
      obtain ⟨B', hB'', ok⟩ := hR.blk b L hL
      obtain rfl : B = B' := by rw [hB'] at hB''; exact Option.some.inj hB''
      have hg : L.gen = g := by rw [← ok.gen]; exact hgen
      refine gives_of (s := do eqGuard .neq t x y (a.eval x) (a.eval y); binOp .neq t (a.eval x) (a.eval y)) (fun w' => by simp [execOp, ho, andThen_assoc]) ⟨_, ?_, .bool _ _⟩
      rw [v1 hg, v2 hg]
      have := Lib.run_neq_ptr_same (P := P) w (ad L.blk (L.org + i * L.sz + jj)) ht hj
      simp [eqGuard, this]
    · cases hz
  · cases hz

theorem sim_usd {ro : Nat} {H : Hp} (hR : Rel K ro H w) (he : EnvOk K e a) {ats : Array TypeId} {x : Operand} {x' : Opd} {z : IV} (ho : o.op = .call { callee := .builtin .unsafeSliceData, args := #[x], argTypes := ats }) (hx : cOpd x = some x') (hz : usdV H (ev e x') = some z) : Gives P a o w K z := by
  have h1 := he.ev hx
  refine gives_of (s := Builtin.unsafeSliceData_ ats o.type #[a.eval x]) (fun w' => by simp [execOp, ho, resolve, invoke, builtin]) ?_
  cases hv : ev e x' <;> rw [hv] at hz h1 <;> simp only [usdV, reduceCtorEq, Option.bind_eq_some_iff, Option.some.injEq] at hz
  case nsl =>
    subst hz
    rw [h1.nsl_inv]
    exact ⟨_, rfl, .nptr _⟩
  case arr b g off len cap ex =>
    obtain ⟨B, hB, hz⟩ := hz
    split at hz
    · rename_i hc
      cases hz
      obtain ⟨hB', hgen⟩ := blkAt_some hB
      obtain ⟨L, hL, hgL, hcur, _⟩ := h1.arr_inv
      obtain ⟨B', hB'', ok⟩ := hR.blk b L hL
      obtain rfl : B = B' := by rw [hB'] at hB''; exact Option.some.inj hB''
      obtain ⟨A, cap', hxv, hA, hcc, hlc, hex, hext⟩ := hcur (by rw [← ok.gen]; exact hgen)
      have hAe := hA (by omega)
      rw [hxv]
      refine ⟨_, Lib.run_unsafeSliceData_row w _ _ A len cap' (by omega), ?_⟩
      rw [hAe]
      exact .ptr _ _ _ _ _ _ L hL (fun _ => by simp) hgL ⟨_, rfl⟩
    · cases hz

theorem bytesX_some : ∀ {rows : List (List IV)} {bs : List UInt8}, bytesX rows = some bs → bs.length = rows.length ∧ ∀ (i : Nat) (x : UInt8), bs[i]? = some x → rows[i]? = some [.int .u8 x.toNat]
  | [], bs, h => by
    simp only [bytesX, Option.some.injEq] at h
    subst h
    exact ⟨rfl, by simp⟩
  | r :: rs, bs, h => by
    simp only [bytesX, Option.bind_eq_some_iff, Option.some.injEq] at h
    obtain ⟨b, hb, bs', hbs, rfl⟩ := h
    obtain ⟨h1, h2⟩ := bytesX_some hbs
    refine ⟨by simp [h1], fun i x hx => ?_⟩
    cases i with
    | zero =>
      simp at hx; subst hx
      unfold byteX at hb
      split at hb
      · split at hb
        · rename_i n hn
          cases hb
          simp only [List.getElem?_cons_zero, Option.some.injEq, List.cons.injEq, IV.int.injEq, true_and, and_true]
          have : (UInt8.ofNat n.toNat).toNat = n.toNat := by rw [UInt8.toNat_ofNat']; omega
          rw [this]; omega
        · cases hb
      · cases hb
    | succ i => simp at hx ⊢; exact h2 i x hx

theorem sim_ust {ro : Nat} {H H' : Hp} (hR : Rel K ro H w) (he : EnvOk K e a) {ats : Array TypeId} {pt it t : TypeId} {x y : Operand} {x' y' : Opd} {z : IV} (ho : o.op = .call { callee := .builtin .unsafeString, args := #[x, y], argTypes := ats }) (hat : ats.toList = [pt, it]) (hpt : P.underlying pt = some (.pointer t)) (hc1 : P.cellsOf t = 1) (hx : cOpd x = some x') (hy : cOpd y = some y')
    (hz : ustV ro H t (ev e x') (ev e y') = some (z, H')) : ∃ v w', (execOp a.eval o).run P w = .ok (.value v) w' ∧ Step K ro H w H' w' z v := by
  have h1 := he.ev hx
  have h2 := he.ev hy
  have hats : ats = #[pt, it] := Array.ext' hat
  have hrun : ∀ v w', (Builtin.unsafeString_ #[pt, it] o.type #[a.eval x, a.eval y]).run P w = .ok v w' → (execOp a.eval o).run P w = .ok (.value v) w' := by
    intro v w' h
    subst hats
    simp [execOp, ho, resolve, invoke, builtin, h]
  unfold ustV at hz
  split at hz
  · rename_i e1 e2
    cases hz
    rw [e1] at h1; rw [e2] at h2
    refine ⟨_, w, hrun _ _ ?_, Step.here hR (.str _ _)⟩
    rw [h1.nptr_inv, h2.int_inv]
    exact Lib.run_unsafeString_none (P := P) w pt it o.type none
  · rename_i b g m e1 e2
    rw [e1] at h1; rw [e2] at h2
    simp only [Option.bind_eq_some_iff] at hz
    obtain ⟨B, hB, hz⟩ := hz
    split at hz
    · rename_i hc
      obtain ⟨hty, rfl, hpos, hroom⟩ := hc
      simp only [Option.bind_eq_some_iff] at hz
      obtain ⟨bs, hbs, hz⟩ := hz
      cases hz
      obtain ⟨hB', hgen, hro, hfz⟩ := wbl_some hB
      obtain ⟨L, hL, hv, _, _⟩ := h1.ptr_inv
      obtain ⟨B', hB'', ok⟩ := hR.blk b L hL
      obtain rfl : B = B' := by rw [hB'] at hB''; exact Option.some.inj hB''
      have hLg : L.gen = g := by rw [← ok.gen]; exact hgen
      obtain ⟨h0, c, fr, hcell⟩ := ok.ety t hty
      obtain ⟨hbl, hbi⟩ := bytesX_some hbs
      have hbs0 : bs ≠ [] := by intro h; rw [h] at hbl; simp at hbl; omega
      have hr0 := hbi 0 bs[0] (List.getElem?_eq_getElem (by omega))
      have hsz : L.sz = 1 := by rw [← ok.len 0 _ hr0]; rfl
      have hcells : ∀ (j : Nat) (x : UInt8), bs[j]? = some x → w.cell? (ad L.blk j) = some (.int .u8 x.toNat) := by
        intro j x hj
        obtain ⟨u, hu, hvu⟩ := ok.cell j _ 0 _ (hbi j x hj) rfl
        rw [h0, hsz] at hu
        rw [hvu.int_inv] at hu
        simpa using hu
      have hlen : bs.length ≤ c.size := by
        have h3 := hcells (bs.length - 1) _ (List.getElem?_eq_getElem (by omega))
        obtain ⟨t', n', hsh, hlt⟩ := shape_of_cell h3
        simp only [World.shape?, hcell] at hsh
        cases hsh
        omega
      obtain ⟨hle, hR', hF⟩ := hR.dead hL hB' hro hfz 0 bs.length
      refine ⟨.string ⟨bs.toArray⟩, w.freeze (ad L.blk 0) bs.length, hrun _ _ ?_, _, hle, by rw [← hLg]; exact hR', .str _ _, by rw [← hLg]; exact hF⟩
      rw [hv hLg, h2.int_inv, ← hbl, h0]
      have := Lib.run_unsafeString_row (P := P) w pt it o.type t hpt hc1 L.blk c.size (by simp [World.shape?, hcell]) bs hbs0 hlen (by simp only [room] at hroom; omega) (fun j x hj => by
        have e : ((⟨L.blk, 0, none⟩ : Addr).add j) = ad L.blk j := by rw [show (⟨L.blk, 0, none⟩ : Addr) = ad L.blk 0 from rfl, ad_add, Nat.zero_add]
        rw [e]; exact hcells j x hj)
      simpa [ad] using this
    · cases hz
  · cases hz

theorem setB_ty {w : World} {b q : Nat} {us : List Value} {c : Array Value} {t : TypeId} {fr : Nat × Nat} (h : w.heap[b]? = some (.cells c t fr)) : ∃ c', (w.setCells b q us).heap[b]? = some (.cells c' t fr) := heap_setCells_ty b us q w b c fr h

/-- append of bytes. -/
theorem sim_apb {ro : Nat} {H H' : Hp} (hR : Rel K ro H w) {t u ty : TypeId} {ats : Array TypeId} {e' : TypeId} {X Y Z : IV} {x y : Value} {z : List IV} (h0 : ats[0]? = some t) (h1 : ats[1]? = some u) (ht : P.underlying t = some (.slice e')) (hu : (∃ d, P.underlying u = some (.slice d)) ∨ P.underlying u = some .string) (hs : szT P e' = some 1) (hb : byT P e' = some 1) (hz : zT P e' = some z) (hzl : z.length = 1)
    (hx : VR K X x) (hy : VR K Y y) (h : appB e' ro H X Y = some (Z, H')) : ∃ v w', (Builtin.append_ ats ty #[x, y]).run P w = .ok v w' ∧ Step K ro H w H' w' Z v := by
  unfold appB at h
  split at h
  · simp only [Option.bind_eq_some_iff] at h
    obtain ⟨ys, hys, h⟩ := h
    split at h
    · cases h
    · rename_i hsz
      have hsz : szOk 1 ys = true := by simpa using hsz
      obtain ⟨us, hsrc⟩ := src_of (P := P) hR hy hys hsz
      have hxv := hx.nsl_inv
      by_cases hn : ys.length = 0
      · rw [if_pos hn] at h; cases h
        refine ⟨_, w, run_append_fits (base := none) h0 h1 ht hu hs hxv hsrc (by omega) (.inl ⟨rfl, rfl⟩), ?_⟩
        rw [hn]
        exact Step.here hR (.nsl _)
      · rw [if_neg hn] at h
        split at h
        · rename_i hroom
          cases h
          obtain ⟨nc, zs, hle, hzs, hz1, hrun⟩ := run_append_grows (ty := ty) h0 h1 ht hu hs hb hz hxv hsrc (by omega) (by omega) (by simpa [room] using hroom) (xs := []) (fun w' _ => by rw [hxv]; rfl)
          refine ⟨_, _, hrun, ?_⟩
          obtain ⟨q1, q2, q3⟩ := rows_append (K := K) (xs := []) (us := []) (zs := zs) (by simp) hsrc.size (fun r row h => by simp at h) hsrc.row (fun r row c x h => by simp at h) hsrc.val
          obtain ⟨hle', hR', hF⟩ := hR.drew.newT (elem := e') (rows := ys) (arr := ([] ++ us ++ zs).toArray) (sz := 1) (by simpa using q1) (by simpa using q2) (fun v hv => by simp at hv; rcases hv with hv | hv; exact hsrc.one v hv; exact hz1 v hv) (by simpa using q3)
          refine ⟨_, hle', hR', ?_, (Fr.drew K ro H.length w).trans hF⟩
          rw [Nat.zero_add]
          refine .arr _ _ _ _ _ _ _ _ ⟨0, w.heap.size, 0, 1, ([] ++ us ++ zs).toArray.size⟩ (by simp [Kp.set]) (Nat.zero_le _) (fun _ => ⟨_, nc, rfl, fun _ => by simp, by omega, Nat.le_refl _, fun h => (by cases h), ?_⟩) ⟨_, _, rfl⟩
          simp [hsrc.size, hzs, hzl]
          omega
        · cases h
  · rename_i b g off len cap ex
    simp only [Option.bind_eq_some_iff] at h
    obtain ⟨B, hB, h⟩ := h
    split at h
    · rename_i hty
      simp only [Option.bind_eq_some_iff] at h
      obtain ⟨ys, hys, h⟩ := h
      split at h
      · cases h
      · rename_i hcond
        simp only [not_or, Bool.not_eq_false, Nat.not_lt, Decidable.not_not, ne_eq] at hcond
        obtain ⟨hsz, hBsz, hBl, rfl⟩ := hcond
        obtain ⟨us, hsrc⟩ := src_of (P := P) hR hy hys hsz
        obtain ⟨hB', hgen⟩ := blkAt_some hB
        obtain ⟨L, hL, hgL, hcur, _⟩ := hx.arr_inv
        obtain ⟨B', hB'', ok⟩ := hR.blk b L hL
        obtain rfl : B = B' := by rw [hB'] at hB''; exact Option.some.inj hB''
        have hLg : L.gen = g := by rw [← ok.gen]; exact hgen
        obtain ⟨A, cap', hxv, hA, hcc, hlc, hex, hext⟩ := hcur hLg
        by_cases hn : ys.length = 0
        · rw [if_pos hn] at h; cases h
          have hu0 : us = [] := by have := hsrc.size; rw [hn] at this; simpa using this
          refine ⟨_, w, run_append_fits (base := some A) h0 h1 ht hu hs hxv hsrc (by omega) (.inr ⟨A, rfl, by rw [hu0]; rfl⟩), ?_⟩
          rw [hn, Nat.add_zero, ← hxv]
          exact Step.here hR hx
        · rw [if_neg hn] at h
          split at h
          · rename_i hc
            obtain ⟨hro, hfz, hpos, hroom⟩ := hc
            cases h
            have hne : B.rows ≠ [] := by intro h; rw [h] at hpos; simp at hpos
            have hw : 1 = L.sz := szOk_len hBsz ok.len hne
            have hblt : b < H.length := (List.getElem?_eq_some_iff.1 hB').1
            have hrw : rowsOf H (.arr b g 0 len cap ex) = some ((B.rows.drop 0).take len) := by simp [rowsOf, hB, hBl]
            rw [List.drop_zero] at hrw
            have hso : szOk 1 (B.rows.take len) = true := by
              cases hq : B.rows.take len with
              | nil => rfl
              | cons r0 rest =>
                have hr0 : (B.rows.take len)[0]? = some r0 := by rw [hq]; rfl
                rw [List.getElem?_take] at hr0
                split at hr0
                · have := ok.len _ _ hr0
                  simp [szOk, this, ← hw]
                · cases hr0
            obtain ⟨us0, hsrc0⟩ := src_of (P := P) hR hx hrw hso
            have hll : (B.rows.take len).length = len := by simp; omega
            have hus0 : us0.length = len := by rw [hsrc0.size, hll]; omega
            have husl : us.length = ys.length := by rw [hsrc.size]; omega
            by_cases hfit : len + ys.length ≤ cap'
            · -- there was room
              have hAe := hA (by omega)
              rw [Nat.zero_mul, Nat.add_zero] at hAe
              rw [Nat.zero_add, ← hw, Nat.mul_one] at hext
              obtain ⟨hR', hF⟩ := hR.setCells hL hB' hro hfz (rows := B.rows.take len ++ ys) (fun r row hr => by
                  rw [List.getElem?_append] at hr
                  split at hr
                  · rw [List.getElem?_take] at hr
                    split at hr
                    · exact ok.len r row hr
                    · cases hr
                  · rw [← hw]; exact hsrc.row _ row hr) (by simp [← hw]; omega) (p := len) (us := us) (by omega) hsrc.one (fun r row c x' hr hx' => by
                  rw [List.getElem?_append] at hr
                  split at hr
                  · rename_i hlt
                    rw [hll] at hlt
                    rw [List.getElem?_take, if_pos hlt] at hr
                    have hcl : c < L.sz := by rw [← ok.len r row hr]; exact (List.getElem?_eq_some_iff.1 hx').1
                    refine .inr ⟨.inl ?_, row, hr, hx'⟩
                    rw [← hw] at hcl ⊢; omega
                  · rename_i hge
                    rw [hll] at hr hge
                    obtain ⟨u, hu, hv⟩ := hsrc.val _ row c x' hr hx'
                    refine .inl ⟨_, u, hu, ?_, hv⟩
                    rw [← hw]; omega)
              obtain ⟨hle2, hR2, hF2⟩ := hR'.cutHeadT hL (B := { B with rows := B.rows.take len ++ ys }) (by simp [hblt]) hro hfz (off := 0) (Nat.zero_le _) (ty := some e') (fun t h => ⟨by cases h; exact hty, rfl⟩)
              have hst := run_storeCells_cells (P := P) L.blk (L.org + len) us 0 w (fun q hq => by
                obtain ⟨u, hu, _⟩ := ok.there (len + q) (by omega)
                rw [show (⟨L.blk, L.org + len + 0 + q, none⟩ : Addr) = ad L.blk (L.org + (len + q)) by simp [ad]; omega, hu]; rfl) (fun q hq => by
                rw [show (⟨L.blk, L.org + len + 0 + q, none⟩ : Addr) = ad L.blk (L.org + (len + q)) by simp [ad]; omega]
                exact ok.soft _ (by omega)) hsrc.one
              have hrun := run_append_fits (ty := ty) (base := some A) (w' := w.setCells L.blk (L.org + len) us) h0 h1 ht hu hs hxv hsrc hfit (.inr ⟨A, rfl, by rw [hAe, ad_add, Nat.mul_one]; exact hst⟩)
              refine ⟨_, _, hrun, _, hle2, ?_, ?_, ?_⟩
              · have : (H.set b { B with rows := B.rows.take len ++ ys }).set b ({ rows := (B.rows.take len ++ ys).drop 0, gen := L.gen + 1, ty := some e' } : Bk) = H.set b ({ rows := B.rows.take len ++ ys, gen := g + 1, ty := some e' } : Bk) := by
                  rw [List.set_set, hLg, List.drop_zero]
                rw [← this]
                exact hR2
              · refine .arr _ _ _ _ _ _ _ _ ⟨L.gen + 1, L.blk, L.org + 0 * L.sz, L.sz, L.ext - 0 * L.sz⟩ (by simp [Kp.set]) (by simp; omega) (fun _ => ⟨_, cap', rfl, fun hp => ?_, hfit, Nat.le_refl _, fun h => (by cases h), ?_⟩) ⟨_, _, rfl⟩
                · rw [hAe]; simp
                · simp [← hw]; omega
              · have := hF.trans hF2
                simpa using this
            · -- it moved
              have hl0 : ∀ w', w'.heap = w.heap → (Builtin.firstCells 1 len x).run P w' = .ok us0.toArray w' := fun w' hw' => by
                have := hsrc0.load w' hw'
                rw [hll] at this; exact this
              obtain ⟨nc, zs, hle, hzs, hz1, hrun⟩ := run_append_grows (ty := ty) h0 h1 ht hu hs hb hz hxv hsrc (by omega) (by omega) (by rw [Nat.mul_one]; simpa [room] using hroom) (xs := us0) hl0
              obtain ⟨q1, q2, q3⟩ := rows_append (K := K) (zs := zs) hsrc0.size hsrc.size hsrc0.row hsrc.row hsrc0.val hsrc.val
              obtain ⟨hle2, hR2, hF2⟩ := hR.drew.placeT (b := b) (g := g + 1) (sz := 1) (n := H.length) (n' := (H.set b ({ rows := B.rows.take len ++ ys, gen := g + 1, ty := some e' } : Bk)).length) (by simp) (H' := H.set b ({ rows := B.rows.take len ++ ys, gen := g + 1, ty := some e' } : Bk)) (elem := e') (arr := (us0 ++ us ++ zs).toArray) (ty := some e') (fun t h => by cases h; rfl)
                (fun L0 h => by rw [hL] at h; cases h; omega) hro (fun x hx _ => List.getElem?_set_ne (Ne.symm hx)) (by simp [hblt]) (by simp) (.inr ⟨L, hL⟩) q1 q2
                (fun v hv => by simp at hv; rcases hv with hv | hv | hv; exact hsrc0.one v hv; exact hsrc.one v hv; exact hz1 v hv) q3
              refine ⟨_, _, hrun, _, hle2, hR2, ?_, (Fr.drew K ro H.length w).trans hF2⟩
              refine .arr _ _ _ _ _ _ _ _ ⟨g + 1, w.drew.heap.size, 0, 1, (us0 ++ us ++ zs).toArray.size⟩ (by simp [Kp.set]) (Nat.le_refl _) (fun _ => ⟨_, nc, rfl, fun _ => by simp, hle, Nat.le_refl _, fun h => (by cases h), ?_⟩) ⟨_, _, rfl⟩
              simp [husl, hus0, hzs, hzl]
              omega
          · cases h
    · exact sim_app hR h0 h1 ht hu hs hb hz hzl (by omega) hx hy h
  · exact sim_app hR h0 h1 ht hu hs hb hz hzl (by omega) hx hy h

end Go.Vs
