import Derived.Test.YtnfddeiegbifhaaDoorVsOpK
import Derived.Laws.Externs
/- Texts built up in a row of bytes: places turned and held against themselves, rows whose type is known. -/
namespace Go.Vs
open Go Go.RowKit

variable {P : Program} {K : Kp} {e : Env} {a : Act} {o : Oper} {w : World}

theorem shape_of_cell {b q : Nat} {u : Value} (h : w.cell? (ad b q) = some u) : ∃ t n, w.shape? b = some (t, n) ∧ q < n := by
  simp only [World.cell?, ad] at h
  split at h
  · rename_i c t fr hb
    simp at h
    refine ⟨t, c.size, by simp [World.shape?, hb], (Array.getElem?_eq_some_iff.1 h).1⟩
  · cases h

theorem sim_alt {ro : Nat} {H : Hp} (hR : Rel K ro H w) {t : TypeId} {z : List IV} (ho : o.op = .alloc t) (hz : zT P t = some z) :
    ∃ v w', (execOp a.eval o).run P w = .ok (.value v) w' ∧ Step K ro H w (H ++ [({ rows := [z], ty := some t } : Bk)]) w' (.ptr H.length 0 0 0) v := by
  obtain ⟨v, hrun, hsz, h1, hv⟩ := zT_some (K := K) hz
  obtain ⟨q1, q2, q3⟩ := one_row (K := K) (cs := z) (arr := v.cells) ⟨hsz, hv⟩
  obtain ⟨hle, hR', hF⟩ := hR.newT (elem := t) q1 q2 h1 q3
  refine ⟨.pointer (some ⟨w.heap.size, 0, none⟩), _, ?_, _, hle, hR', ?_, hF⟩
  · simp [execOp, ho, Instr.alloc, hrun, newVar, newRow_run]
  · exact .ptr _ _ _ _ _ _ ⟨0, w.heap.size, 0, z.length, v.cells.size⟩ (by simp [Kp.set]) (fun _ => by simp [ad]) (Nat.zero_le _) ⟨_, rfl⟩

theorem szT_info {t : TypeId} {n : Nat} (h : szT P t = some n) : ∃ j, P.info? t = some j ∧ j.size = n := by
  unfold szT at h
  cases hi : P.info? t with
  | none => simp [hi] at h
  | some j => simp [hi] at h; exact ⟨j, rfl, h⟩

theorem sim_tou {ro : Nat} {H : Hp} (hR : Rel K ro H w) (he : EnvOk K e a) {s d t : TypeId} {x : Operand} {x' : Opd} {n : Nat} {z : IV} (ho : o.op = .convert s d x) (hs : P.underlying s = some (.pointer t)) (hd : P.underlying d = some .unsafePointer) (ht : szT P t = some (n + 1)) (hx : cOpd x = some x') (hz : touV H (ev e x') = some z) : Gives P a o w K z := by
  have h1 := he.ev hx
  obtain ⟨j, hj, hjs⟩ := szT_info ht
  cases hv : ev e x' <;> rw [hv] at hz h1 <;> simp only [touV, reduceCtorEq, Option.bind_eq_some_iff, Option.some.injEq] at hz
  obtain ⟨cs, hr, rfl⟩ := hz
  obtain ⟨hl, b, q, us, hvp, hc⟩ := rd_sim hR h1 hr
  obtain ⟨u, hu⟩ : ∃ u, us[0]? = some u := ⟨_, List.getElem?_eq_getElem (by rw [hc.1, hl]; exact Nat.one_pos)⟩
  have hcell := (hc.2.1 0 u hu).1
  obtain ⟨t', n', hsh, hlt⟩ := shape_of_cell hcell
  refine gives_of (s := convert s d (a.eval x)) (fun w' => by simp [execOp, ho]) ⟨_, ?_, h1⟩
  rw [hvp]
  exact Lib.run_to_unsafe w (ad b q) hs hd hj (by omega) hsh hlt

theorem liesAt_self {t : TypeId} (h0 : P.cellsOf t ≠ 0) {count : Nat} (hn : 1 ≤ count) : liesAt P P.depth t count 0 t 1 = true := by
  have hd : P.depth = (2 * (P.types.size + Made.depth) + 1) + 1 := rfl
  rw [hd]
  simp only [liesAt, Bool.or_eq_true]
  left
  rw [hd]
  simp [rowAt, h0, hn, sameLayout]

theorem sim_fru {ro : Nat} {H : Hp} (hR : Rel K ro H w) (he : EnvOk K e a) {s d t : TypeId} {x : Operand} {x' : Opd} {n : Nat} {z : IV} (ho : o.op = .convert s d x) (hs : P.underlying s = some .unsafePointer) (hd : P.underlying d = some (.pointer t)) (ht : szT P t = some (n + 1)) (hx : cOpd x = some x') (hz : fruV H t (n + 1) (ev e x') = some z) : Gives P a o w K z := by
  have h1 := he.ev hx
  obtain ⟨j, hj, hjs⟩ := szT_info ht
  have hct : P.cellsOf t = n + 1 := by unfold Program.cellsOf; rw [hj]; exact hjs
  unfold fruV at hz
  split at hz
  · rename_i b g heq
    rw [heq] at h1
    simp only [Option.bind_eq_some_iff] at hz
    obtain ⟨B, hB, row, hrow, hz⟩ := hz
    split at hz
    · rename_i hc
      cases hz
      obtain ⟨hB', hgen⟩ := blkAt_some hB
      obtain ⟨L, hL, e1, hg, _⟩ := h1.ptr_inv
      obtain ⟨B', hB'', ok⟩ := hR.blk b L hL
      obtain rfl : B = B' := by rw [hB'] at hB''; exact Option.some.inj hB''
      obtain ⟨h0, c, fr, hcell⟩ := ok.ety t hc.1
      have hv := e1 (by rw [← ok.gen]; exact hgen)
      have hsz : L.sz = n + 1 := by rw [← ok.len 0 row hrow]; exact hc.2
      have hext : n + 1 ≤ c.size := by
        have h3 := ok.fit
        have h4 : 1 ≤ B.rows.length := (List.getElem?_eq_some_iff.1 hrow).1
        have h5 := Nat.mul_le_mul_right L.sz h4
        obtain ⟨u, hu, _⟩ := ok.there n (by omega)
        obtain ⟨t', n', hsh, hlt⟩ := shape_of_cell hu
        simp only [World.shape?, hcell] at hsh
        cases hsh
        omega
      refine gives_of (s := convert s d (a.eval x)) (fun w' => by simp [execOp, ho]) ⟨_, ?_, h1⟩
      rw [hv, h0]
      refine Lib.run_from_unsafe w _ hs hd hj (e := t) (cells := c.size) (by simp [World.shape?, ad, hcell]) ?_
      simp only [ad, Nat.zero_mul, Nat.add_zero]
      refine liesAt_self (by omega) ?_
      rw [hct]
      exact (Nat.le_div_iff_mul_le (by omega)).2 (by omega)
    · cases hz
  · cases hz

theorem sim_nep {ro : Nat} {H : Hp} (hR : Rel K ro H w) (he : EnvOk K e a) {t te u : TypeId} {x y : Operand} {x' y' : Opd} {z : IV} (ho : o.op = .binOp .neq t x y u) (ht : P.underlying t = some (.pointer te)) (hte : (P.info? te).isSome = true) (hx : cOpd x = some x') (hy : cOpd y = some y') (hz : nepV H (ev e x') (ev e y') = some z) : Gives P a o w K z := by
  have h1 := he.ev hx
  have h2 := he.ev hy
  obtain ⟨j, hj⟩ := Option.isSome_iff_exists.1 hte
  unfold nepV at hz
  split at hz
  · rename_i b g i jj b' g' i' jj' e1 e2
    rw [e1] at h1
    rw [e2] at h2
    simp only [Option.bind_eq_some_iff] at hz
    obtain ⟨B, hB, hz⟩ := hz
    split at hz
    · rename_i hc
      obtain ⟨rfl, rfl, rfl, rfl⟩ := hc
      cases hz
      obtain ⟨hB', hgen⟩ := blkAt_some hB
      obtain ⟨L, hL, v1, _, _⟩ := h1.ptr_inv
      obtain ⟨L', hL', v2, _, _⟩ := h2.ptr_inv
      rw [hL] at hL'; cases hL'
      obtain ⟨B', hB'', ok⟩ := hR.blk b L hL
      obtain rfl : B = B' := by rw [hB'] at hB''; exact Option.some.inj hB''
      have hg : L.gen = g := by rw [← ok.gen]; exact hgen
      refine gives_of (s := do eqGuard .neq t x y (a.eval x) (a.eval y); binOp .neq t (a.eval x) (a.eval y)) (fun w' => by simp [execOp, ho, andThen_assoc]) ⟨_, ?_, .bool _ _⟩
      rw [v1 hg, v2 hg]
      have := Lib.run_neq_ptr_same (P := P) w (ad L.blk (L.org + i * L.sz + jj)) ht hj
      simp [eqGuard, this]
    · cases hz
  · cases hz

theorem sim_usd {ro : Nat} {H : Hp} (hR : Rel K ro H w) (he : EnvOk K e a) {ats : Array TypeId} {x : Operand} {x' : Opd} {z : IV} (ho : o.op = .call { callee := .builtin .unsafeSliceData, args := #[x], argTypes := ats }) (hx : cOpd x = some x') (hz : usdV H (ev e x') = some z) : Gives P a o w K z := by
  have h1 := he.ev hx
  refine gives_of (s := Builtin.unsafeSliceData_ ats o.type #[a.eval x]) (fun w' => by simp [execOp, ho, resolve, invoke, builtin]) ?_
  cases hv : ev e x' <;> rw [hv] at hz h1 <;> simp only [usdV, reduceCtorEq, Option.bind_eq_some_iff, Option.some.injEq] at hz
  case nsl =>
    subst hz
    rw [h1.nsl_inv]
    exact ⟨_, rfl, .nptr _⟩
  case arr b g off len cap ex =>
    obtain ⟨B, hB, hz⟩ := hz
    split at hz
    · rename_i hc
      cases hz
      obtain ⟨hB', hgen⟩ := blkAt_some hB
      obtain ⟨L, hL, hgL, hcur, _⟩ := h1.arr_inv
      obtain ⟨B', hB'', ok⟩ := hR.blk b L hL
      obtain rfl : B = B' := by rw [hB'] at hB''; exact Option.some.inj hB''
      obtain ⟨A, cap', hxv, hA, hcc, hlc, hex, hext⟩ := hcur (by rw [← ok.gen]; exact hgen)
      have hAe := hA (by omega)
      rw [hxv]
      refine ⟨_, Lib.run_unsafeSliceData_row w _ _ A len cap' (by omega), ?_⟩
      rw [hAe]
      exact .ptr _ _ _ _ _ _ L hL (fun _ => by simp) hgL ⟨_, rfl⟩
    · cases hz

theorem bytesX_some : ∀ {rows : List (List IV)} {bs : List UInt8}, bytesX rows = some bs → bs.length = rows.length ∧ ∀ (i : Nat) (x : UInt8), bs[i]? = some x → rows[i]? = some [.int .u8 x.toNat]
  | [], bs, h => by
    simp only [bytesX, Option.some.injEq] at h
    subst h
    exact ⟨rfl, by simp⟩
  | r :: rs, bs, h => by
    simp only [bytesX, Option.bind_eq_some_iff, Option.some.injEq] at h
    obtain ⟨b, hb, bs', hbs, rfl⟩ := h
    obtain ⟨h1, h2⟩ := bytesX_some hbs
    refine ⟨by simp [h1], fun i x hx => ?_⟩
    cases i with
    | zero =>
      simp at hx; subst hx
      unfold byteX at hb
      split at hb
      · split at hb
        · rename_i n hn
          cases hb
          simp only [List.getElem?_cons_zero, Option.some.injEq, List.cons.injEq, IV.int.injEq, true_and, and_true]
          have : (UInt8.ofNat n.toNat).toNat = n.toNat := by rw [UInt8.toNat_ofNat']; omega
          rw [this]; omega
        · cases hb
      · cases hb
    | succ i => simp at hx ⊢; exact h2 i x hx

theorem sim_ust {ro : Nat} {H H' : Hp} (hR : Rel K ro H w) (he : EnvOk K e a) {ats : Array TypeId} {pt it t : TypeId} {x y : Operand} {x' y' : Opd} {z : IV} (ho : o.op = .call { callee := .builtin .unsafeString, args := #[x, y], argTypes := ats }) (hat : ats.toList = [pt, it]) (hpt : P.underlying pt = some (.pointer t)) (hc1 : P.cellsOf t = 1) (hx : cOpd x = some x') (hy : cOpd y = some y')
    (hz : ustV ro H t (ev e x') (ev e y') = some (z, H')) : ∃ v w', (execOp a.eval o).run P w = .ok (.value v) w' ∧ Step K ro H w H' w' z v := by
  have h1 := he.ev hx
  have h2 := he.ev hy
  have hats : ats = #[pt, it] := Array.ext' hat
  have hrun : ∀ v w', (Builtin.unsafeString_ #[pt, it] o.type #[a.eval x, a.eval y]).run P w = .ok v w' → (execOp a.eval o).run P w = .ok (.value v) w' := by
    intro v w' h
    subst hats
    simp [execOp, ho, resolve, invoke, builtin, h]
  unfold ustV at hz
  split at hz
  · rename_i e1 e2
    cases hz
    rw [e1] at h1; rw [e2] at h2
    refine ⟨_, w, hrun _ _ ?_, Step.here hR (.str _ _)⟩
    rw [h1.nptr_inv, h2.int_inv]
    exact Lib.run_unsafeString_none (P := P) w pt it o.type none
  · rename_i b g m e1 e2
    rw [e1] at h1; rw [e2] at h2
    simp only [Option.bind_eq_some_iff] at hz
    obtain ⟨B, hB, hz⟩ := hz
    split at hz
    · rename_i hc
      obtain ⟨hty, rfl, hpos, hroom⟩ := hc
      simp only [Option.bind_eq_some_iff] at hz
      obtain ⟨bs, hbs, hz⟩ := hz
      cases hz
      obtain ⟨hB', hgen, hro, hfz⟩ := wbl_some hB
      obtain ⟨L, hL, hv, _, _⟩ := h1.ptr_inv
      obtain ⟨B', hB'', ok⟩ := hR.blk b L hL
      obtain rfl : B = B' := by rw [hB'] at hB''; exact Option.some.inj hB''
      have hLg : L.gen = g := by rw [← ok.gen]; exact hgen
      obtain ⟨h0, c, fr, hcell⟩ := ok.ety t hty
      obtain ⟨hbl, hbi⟩ := bytesX_some hbs
      have hbs0 : bs ≠ [] := by intro h; rw [h] at hbl; simp at hbl; omega
      have hr0 := hbi 0 bs[0] (List.getElem?_eq_getElem (by omega))
      have hsz : L.sz = 1 := by rw [← ok.len 0 _ hr0]; rfl
      have hcells : ∀ (j : Nat) (x : UInt8), bs[j]? = some x → w.cell? (ad L.blk j) = some (.int .u8 x.toNat) := by
        intro j x hj
        obtain ⟨u, hu, hvu⟩ := ok.cell j _ 0 _ (hbi j x hj) rfl
        rw [h0, hsz] at hu
        rw [hvu.int_inv] at hu
        simpa using hu
      have hlen : bs.length ≤ c.size := by
        have h3 := hcells (bs.length - 1) _ (List.getElem?_eq_getElem (by omega))
        obtain ⟨t', n', hsh, hlt⟩ := shape_of_cell h3
        simp only [World.shape?, hcell] at hsh
        cases hsh
        omega
      obtain ⟨hle, hR', hF⟩ := hR.dead hL hB' hro hfz 0 bs.length
      refine ⟨.string ⟨bs.toArray⟩, w.freeze (ad L.blk 0) bs.length, hrun _ _ ?_, _, hle, by rw [← hLg]; exact hR', .str _ _, by rw [← hLg]; exact hF⟩
      rw [hv hLg, h2.int_inv, ← hbl, h0]
      have := Lib.run_unsafeString_row (P := P) w pt it o.type t hpt hc1 L.blk c.size (by simp [World.shape?, hcell]) bs hbs0 hlen (by simp only [room] at hroom; omega) (fun j x hj => by
        have e : ((⟨L.blk, 0, none⟩ : Addr).add j) = ad L.blk j := by rw [show (⟨L.blk, 0, none⟩ : Addr) = ad L.blk 0 from rfl, ad_add, Nat.zero_add]
        rw [e]; exact hcells j x hj)
      simpa [ad] using this
    · cases hz
  · cases hz

theorem setB_ty {w : World} {b q : Nat} {us : List Value} {c : Array Value} {t : TypeId} {fr : Nat × Nat} (h : w.heap[b]? = some (.cells c t fr)) : ∃ c', (w.setCells b q us).heap[b]? = some (.cells c' t fr) := heap_setCells_ty b us q w b c fr h

/-- append of bytes. -/
theorem sim_apb {ro : Nat} {H H' : Hp} (hR : Rel K ro H w) {t u ty : TypeId} {ats : Array TypeId} {e' : TypeId} {X Y Z : IV} {x y : Value} {z : List IV} (h0 : ats[0]? = some t) (h1 : ats[1]? = some u) (ht : P.underlying t = some (.slice e')) (hu : (∃ d, P.underlying u = some (.slice d)) ∨ P.underlying u = some .string) (hs : szT P e' = some 1) (hb : byT P e' = some 1) (hz : zT P e' = some z) (hzl : z.length = 1)
    (hx : VR K X x) (hy : VR K Y y) (h : appB e' ro H X Y = some (Z, H')) : ∃ v w', (Builtin.append_ ats ty #[x, y]).run P w = .ok v w' ∧ Step K ro H w H' w' Z v := by
  unfold appB at h
  split at h
  · simp only [Option.bind_eq_some_iff] at h
    obtain ⟨ys, hys, h⟩ := h
    split at h
    · cases h
    · rename_i hsz
      have hsz : szOk 1 ys = true := by simpa using hsz
      obtain ⟨us, hsrc⟩ := src_of (P := P) hR hy hys hsz
      have hxv := hx.nsl_inv
      by_cases hn : ys.length = 0
      · rw [if_pos hn] at h; cases h
        refine ⟨_, w, run_append_fits (base := none) h0 h1 ht hu hs hxv hsrc (by omega) (.inl ⟨rfl, rfl⟩), ?_⟩
        rw [hn]
        exact Step.here hR (.nsl _)
      · rw [if_neg hn] at h
        split at h
        · rename_i hroom
          cases h
          obtain ⟨nc, zs, hle, hzs, hz1, hrun⟩ := run_append_grows (ty := ty) h0 h1 ht hu hs hb hz hxv hsrc (by omega) (by omega) (by simpa [room] using hroom) (xs := []) (fun w' _ => by rw [hxv]; rfl)
          refine ⟨_, _, hrun, ?_⟩
          obtain ⟨q1, q2, q3⟩ := rows_append (K := K) (xs := []) (us := []) (zs := zs) (by simp) hsrc.size (fun r row h => by simp at h) hsrc.row (fun r row c x h => by simp at h) hsrc.val
          obtain ⟨hle', hR', hF⟩ := hR.drew.newT (elem := e') (rows := ys) (arr := ([] ++ us ++ zs).toArray) (sz := 1) (by simpa using q1) (by simpa using q2) (fun v hv => by simp at hv; rcases hv with hv | hv; exact hsrc.one v hv; exact hz1 v hv) (by simpa using q3)
          refine ⟨_, hle', hR', ?_, (Fr.drew K ro H.length w).trans hF⟩
          rw [Nat.zero_add]
          refine .arr _ _ _ _ _ _ _ _ ⟨0, w.heap.size, 0, 1, ([] ++ us ++ zs).toArray.size⟩ (by simp [Kp.set]) (Nat.zero_le _) (fun _ => ⟨_, nc, rfl, fun _ => by simp, by omega, Nat.le_refl _, fun h => (by cases h), ?_⟩) ⟨_, _, rfl⟩
          simp [hsrc.size, hzs, hzl]
          omega
        · cases h
  · rename_i b g off len cap ex
    simp only [Option.bind_eq_some_iff] at h
    obtain ⟨B, hB, h⟩ := h
    split at h
    · rename_i hty
      simp only [Option.bind_eq_some_iff] at h
      obtain ⟨ys, hys, h⟩ := h
      split at h
      · cases h
      · rename_i hcond
        simp only [not_or, Bool.not_eq_false, Nat.not_lt, Decidable.not_not, ne_eq] at hcond
        obtain ⟨hsz, hBsz, hBl, rfl⟩ := hcond
        obtain ⟨us, hsrc⟩ := src_of (P := P) hR hy hys hsz
        obtain ⟨hB', hgen⟩ := blkAt_some hB
        obtain ⟨L, hL, hgL, hcur, _⟩ := hx.arr_inv
        obtain ⟨B', hB'', ok⟩ := hR.blk b L hL
        obtain rfl : B = B' := by rw [hB'] at hB''; exact Option.some.inj hB''
        have hLg : L.gen = g := by rw [← ok.gen]; exact hgen
        obtain ⟨A, cap', hxv, hA, hcc, hlc, hex, hext⟩ := hcur hLg
        by_cases hn : ys.length = 0
        · rw [if_pos hn] at h; cases h
          have hu0 : us = [] := by have := hsrc.size; rw [hn] at this; simpa using this
          refine ⟨_, w, run_append_fits (base := some A) h0 h1 ht hu hs hxv hsrc (by omega) (.inr ⟨A, rfl, by rw [hu0]; rfl⟩), ?_⟩
          rw [hn, Nat.add_zero, ← hxv]
          exact Step.here hR hx
        · rw [if_neg hn] at h
          split at h
          · rename_i hc
            obtain ⟨hro, hfz, hpos, hroom⟩ := hc
            cases h
            have hne : B.rows ≠ [] := by intro h; rw [h] at hpos; simp at hpos
            have hw : 1 = L.sz := szOk_len hBsz ok.len hne
            have hblt : b < H.length := (List.getElem?_eq_some_iff.1 hB').1
            have hrw : rowsOf H (.arr b g 0 len cap ex) = some ((B.rows.drop 0).take len) := by simp [rowsOf, hB, hBl]
            rw [List.drop_zero] at hrw
            have hso : szOk 1 (B.rows.take len) = true := by
              cases hq : B.rows.take len with
              | nil => rfl
              | cons r0 rest =>
                have hr0 : (B.rows.take len)[0]? = some r0 := by rw [hq]; rfl
                rw [List.getElem?_take] at hr0
                split at hr0
                · have := ok.len _ _ hr0
                  simp [szOk, this, ← hw]
                · cases hr0
            obtain ⟨us0, hsrc0⟩ := src_of (P := P) hR hx hrw hso
            have hll : (B.rows.take len).length = len := by simp; omega
            have hus0 : us0.length = len := by rw [hsrc0.size, hll]; omega
            have husl : us.length = ys.length := by rw [hsrc.size]; omega
            by_cases hfit : len + ys.length ≤ cap'
            · -- there was room
              have hAe := hA (by omega)
              rw [Nat.zero_mul, Nat.add_zero] at hAe
              rw [Nat.zero_add, ← hw, Nat.mul_one] at hext
              obtain ⟨hR', hF⟩ := hR.setCells hL hB' hro hfz (rows := B.rows.take len ++ ys) (fun r row hr => by
                  rw [List.getElem?_append] at hr
                  split at hr
                  · rw [List.getElem?_take] at hr
                    split at hr
                    · exact ok.len r row hr
                    · cases hr
                  · rw [← hw]; exact hsrc.row _ row hr) (by simp [← hw]; omega) (p := len) (us := us) (by omega) hsrc.one (fun r row c x' hr hx' => by
                  rw [List.getElem?_append] at hr
                  split at hr
                  · rename_i hlt
                    rw [hll] at hlt
                    rw [List.getElem?_take, if_pos hlt] at hr
                    have hcl : c < L.sz := by rw [← ok.len r row hr]; exact (List.getElem?_eq_some_iff.1 hx').1
                    refine .inr ⟨.inl ?_, row, hr, hx'⟩
                    rw [← hw] at hcl ⊢; omega
                  · rename_i hge
                    rw [hll] at hr hge
                    obtain ⟨u, hu, hv⟩ := hsrc.val _ row c x' hr hx'
                    refine .inl ⟨_, u, hu, ?_, hv⟩
                    rw [← hw]; omega)
              obtain ⟨hle2, hR2, hF2⟩ := hR'.cutHeadT hL (B := { B with rows := B.rows.take len ++ ys }) (by simp [hblt]) hro hfz (off := 0) (Nat.zero_le _) (ty := some e') (fun t h => ⟨by cases h; exact hty, rfl⟩)
              have hst := run_storeCells_cells (P := P) L.blk (L.org + len) us 0 w (fun q hq => by
                obtain ⟨u, hu, _⟩ := ok.there (len + q) (by omega)
                rw [show (⟨L.blk, L.org + len + 0 + q, none⟩ : Addr) = ad L.blk (L.org + (len + q)) by simp [ad]; omega, hu]; rfl) (fun q hq => by
                rw [show (⟨L.blk, L.org + len + 0 + q, none⟩ : Addr) = ad L.blk (L.org + (len + q)) by simp [ad]; omega]
                exact ok.soft (by omega) _) hsrc.one
              have hrun := run_append_fits (ty := ty) (base := some A) (w' := w.setCells L.blk (L.org + len) us) h0 h1 ht hu hs hxv hsrc hfit (.inr ⟨A, rfl, by rw [hAe, ad_add, Nat.mul_one]; exact hst⟩)
              refine ⟨_, _, hrun, _, hle2, ?_, ?_, ?_⟩
              · have : (H.set b { B with rows := B.rows.take len ++ ys }).set b ({ rows := (B.rows.take len ++ ys).drop 0, gen := L.gen + 1, ty := some e' } : Bk) = H.set b ({ rows := B.rows.take len ++ ys, gen := g + 1, ty := some e' } : Bk) := by
                  rw [List.set_set, hLg, List.drop_zero]
                rw [← this]
                exact hR2
              · refine .arr _ _ _ _ _ _ _ _ ⟨L.gen + 1, L.blk, L.org + 0 * L.sz, L.sz, L.ext - 0 * L.sz⟩ (by simp [Kp.set]) (by simp; omega) (fun _ => ⟨_, cap', rfl, fun hp => ?_, hfit, Nat.le_refl _, fun h => (by cases h), ?_⟩) ⟨_, _, rfl⟩
                · rw [hAe]; simp
                · simp [← hw]; omega
              · have := hF.trans hF2
                simpa using this
            · -- it moved
              have hl0 : ∀ w', w'.heap = w.heap → (Builtin.firstCells 1 len x).run P w' = .ok us0.toArray w' := fun w' hw' => by
                have := hsrc0.load w' hw'
                rw [hll] at this; exact this
              obtain ⟨nc, zs, hle, hzs, hz1, hrun⟩ := run_append_grows (ty := ty) h0 h1 ht hu hs hb hz hxv hsrc (by omega) (by omega) (by rw [Nat.mul_one]; simpa [room] using hroom) (xs := us0) hl0
              obtain ⟨q1, q2, q3⟩ := rows_append (K := K) (zs := zs) hsrc0.size hsrc.size hsrc0.row hsrc.row hsrc0.val hsrc.val
              obtain ⟨hle2, hR2, hF2⟩ := hR.drew.placeT (b := b) (g := g + 1) (sz := 1) (n := H.length) (n' := (H.set b ({ rows := B.rows.take len ++ ys, gen := g + 1, ty := some e' } : Bk)).length) (by simp) (H' := H.set b ({ rows := B.rows.take len ++ ys, gen := g + 1, ty := some e' } : Bk)) (elem := e') (arr := (us0 ++ us ++ zs).toArray) (ty := some e') (fun t h => by cases h; rfl)
                (fun L0 h => by rw [hL] at h; cases h; omega) hro (fun x hx _ => List.getElem?_set_ne (Ne.symm hx)) (by simp [hblt]) (by simp) (.inr ⟨L, hL⟩) q1 q2
                (fun v hv => by simp at hv; rcases hv with hv | hv | hv; exact hsrc0.one v hv; exact hsrc.one v hv; exact hz1 v hv) q3
              refine ⟨_, _, hrun, _, hle2, hR2, ?_, (Fr.drew K ro H.length w).trans hF2⟩
              refine .arr _ _ _ _ _ _ _ _ ⟨g + 1, w.drew.heap.size, 0, 1, (us0 ++ us ++ zs).toArray.size⟩ (by simp [Kp.set]) (Nat.le_refl _) (fun _ => ⟨_, nc, rfl, fun _ => by simp, hle, Nat.le_refl _, fun h => (by cases h), ?_⟩) ⟨_, _, rfl⟩
              simp [husl, hus0, hzs, hzl]
              omega
          · cases h
    · exact sim_app hR h0 h1 ht hu hs hb hz hzl (by omega) hx hy h
  · exact sim_app hR h0 h1 ht hu hs hb hz hzl (by omega) hx hy h

end Go.Vs
/- Rows lengthened by zeros; rows of two blocks share no memory. -/
namespace Go.Vs
open Go Go.RowKit

variable {P : Program} {K : Kp} {e : Env} {a : Act} {o : Oper} {w : World}

theorem zeros_get {z : List IV} {cs : Array Value} (hs : cs.size = z.length) (hv : ∀ (i : Nat) (x : IV) (u : Value), z[i]? = some x → cs[i]? = some u → VR K x u) {n r c : Nat} (hr : r < n) {x : IV} (hx : z[c]? = some x) :
    ∃ u, (Builtin.zeroCells cs n).toList[r * z.length + c]? = some u ∧ VR K x u := by
  have hc : c < z.length := (List.getElem?_eq_some_iff.1 hx).1
  have hlt : r * z.length + c < n * z.length := by
    have := Nat.mul_le_mul_right z.length (show r + 1 ≤ n from hr)
    rw [Nat.add_mul] at this; omega
  have hm : (r * z.length + c) % z.length = c := by rw [Nat.mul_comm, Nat.mul_add_mod]; exact Nat.mod_eq_of_lt hc
  refine ⟨cs[c]'(by omega), ?_, hv c x _ hx (Array.getElem?_eq_getElem (by omega))⟩
  simp only [Builtin.zeroCells, Array.toList_map, Array.toList_range, List.getElem?_map, List.getElem?_range (show r * z.length + c < n * cs.size by rw [hs]; exact hlt), Option.map_some]
  have e : (r * z.length + c) % cs.size = c := by rw [hs, hm]
  rw [e, getElem!_pos cs c (by omega)]

theorem zeros_one {cs : Array Value} (h1 : ∀ u ∈ cs, u.oneCell' = true) (n : Nat) : ∀ u ∈ (Builtin.zeroCells cs n).toList, u.oneCell' = true := by
  intro u hu
  simp only [Builtin.zeroCells, Array.mem_toList_iff, Array.mem_map, Array.mem_range] at hu
  obtain ⟨j, hj, rfl⟩ := hu
  have hp : 0 < cs.size := by
    rcases Nat.eq_zero_or_pos cs.size with h | h
    · rw [h] at hj; omega
    · exact h
  have hm : j % cs.size < cs.size := Nat.mod_lt _ hp
  rw [getElem!_pos cs _ hm]
  exact h1 _ (Array.getElem_mem hm)

/-- append(x, make(.., n)...) that moves: the world, the value. -/
theorem run_append_zeros {t u : TypeId} {ty : TypeId} {ats : Array TypeId} {e' : TypeId} {sz bytes : Nat} {x : Value} {zv : Value} {kn k' : IntKind} {n : Nat} (h0 : ats[0]? = some t) (h1 : ats[1]? = some u) (ht : P.underlying t = some (.slice e')) (hu : P.underlying u = some (.int kn)) (hs : szT P e' = some sz) (hb : byT P e' = some bytes)
    {base : Option Addr} {len cap : Nat} (hx : x = .slice base len cap) (hn : 0 < n) (hszp : 0 < sz) (hgrow : cap < len + n) (hbp : 0 < bytes) (hroom : (len + n) * bytes ≤ 2 ^ 47) {xs : List Value} (hold : ∀ w', w'.heap = w.heap → (Builtin.firstCells sz len x).run P w' = .ok xs.toArray w')
    (hzr : ∀ w : World, (zeroValue e').run P w = .ok zv w) :
    ∃ newCap, len + n ≤ newCap ∧
      (Builtin.append_ ats ty #[x, .int k' n]).run P w = .ok (.slice (some (ad w.heap.size 0)) (len + n) newCap) (w.drew.alloc (.cells (xs ++ (Builtin.zeroCells zv.cells n).toList ++ (Builtin.zeroCells zv.cells (newCap - (len + n))).toList).toArray e')) := by
  subst hx
  obtain ⟨i, hi, hib⟩ : ∃ i, P.info? e' = some i ∧ i.bytes = bytes := by
    unfold byT at hb
    cases h : P.info? e' with
    | none => simp [h] at hb
    | some i => simp [h] at hb; exact ⟨i, rfl, hb⟩
  have hnb : n * bytes ≤ 2 ^ 47 := Nat.le_trans (Nat.mul_le_mul_right _ (by omega)) hroom
  have hn47 : len + n ≤ 2 ^ 47 := Nat.le_trans (Nat.le_mul_of_pos_right _ hbp) hroom
  have hw : IntKind.i64.wrap (n : Int) = n := by rw [IntKind.wrap_i64]; omega
  have h48i : ¬ (281474976710656 < (n : Int) * (i.bytes : Int)) := by
    rw [← Int.natCast_mul, hib]
    omega
  have hneg : ¬ ((n : Int) < 0) := by omega
  have hns : ¬ (n * sz = 0) := by
    have := Nat.mul_pos hn hszp
    omega
  generalize hneed : len + n = need at *
  have h63 : ¬ (9223372036854775807 < (need : Int)) := by omega
  have h63' : ¬ (9223372036854775807 < (len : Int) + n) := by omega
  have hnc : (Question.appendCap need cap e').cut (w.tape w.drawn (.appendCap need cap e')) = need + w.tape w.drawn (.appendCap need cap e') % (2 ^ 63 - need) := rfl
  generalize hN : need + w.tape w.drawn (.appendCap need cap e') % (2 ^ 63 - need) = newCap at *
  have hle : need ≤ newCap := by omega
  refine ⟨newCap, hle, ?_⟩
  have hnx : ¬ (Builtin.nextslicecap need cap * i.bytes > 2 ^ 48) := by
    have h1 := next_le hgrow
    have h2 : Builtin.nextslicecap need cap * i.bytes ≤ 2 * need * i.bytes := Nat.mul_le_mul_right _ h1
    rw [hib] at h2 ⊢
    rw [Nat.mul_assoc] at h2
    omega
  have hgr : ¬ need ≤ cap := by omega
  have hforced : (Question.appendCap need cap e').forced = false := rfl
  have hl1 := hold w.drew rfl
  simp [Builtin.append_, h0, h1, run_underlying ht, run_sizeOf' hs, run_underlying hu, asInt, asIntOf, hw, hneg, h48i, hneed, hgr, typeInfo, hi, hnx, hforced, hnc, hzr, newRow_run]
  rw [if_neg h63', hl1, Result.andThen_ok, if_neg hns]
  simp [ad]
  congr 2
  apply Array.ext'
  simp

theorem sim_apz {ro : Nat} {H H' : Hp} (hR : Rel K ro H w) {t u ty : TypeId} {ats : Array TypeId} {e' : TypeId} {sz bytes : Nat} {X Z : IV} {x y : Value} {z : List IV} {kn k' : IntKind} {n : Int} (h0 : ats[0]? = some t) (h1 : ats[1]? = some u) (ht : P.underlying t = some (.slice e')) (hu : P.underlying u = some (.int kn)) (hs : szT P e' = some sz) (hb : byT P e' = some bytes) (hz : zT P e' = some z) (hzl : z.length = sz) (hbp : 0 < bytes) (hszp : 0 < sz)
    (hx : VR K X x) (hy : VR K (.int k' n) y) (hn : 0 ≤ n) (h : apzV H sz bytes z X n.toNat = some (Z, H')) : ∃ v w', (Builtin.append_ ats ty #[x, y]).run P w = .ok v w' ∧ Step K ro H w H' w' Z v := by
  have hyv := hy.int_inv
  obtain ⟨m, rfl⟩ : ∃ m : Nat, n = m := ⟨n.toNat, by omega⟩
  rw [Int.toNat_natCast] at h
  unfold apzV at h
  split at h
  · rename_i b g off len cap
    simp only [Option.bind_eq_some_iff] at h
    obtain ⟨B, hB, h⟩ := h
    split at h
    · rename_i hcond
      obtain ⟨hBsz, hBl, hm, hgr⟩ := hcond
      simp only [newArr] at h
      split at h
      · rename_i hroom
        cases h
        obtain ⟨hB', hgen⟩ := blkAt_some hB
        obtain ⟨L, hL, hgL, hcur, _⟩ := hx.arr_inv
        obtain ⟨B', hB'', ok⟩ := hR.blk b L hL
        obtain rfl : B = B' := by rw [hB'] at hB''; exact Option.some.inj hB''
        have hLg : L.gen = g := by rw [← ok.gen]; exact hgen
        obtain ⟨A, cap', hxv, hA, hcc, hlc, hex, hext⟩ := hcur hLg
        have hce := hex rfl
        have hll : ((B.rows.drop off).take len).length = len := by simp; omega
        have hrw : rowsOf H (.arr b g off len cap true) = some ((B.rows.drop off).take len) := by simp [rowsOf, hB, hBl]
        have hso : szOk sz ((B.rows.drop off).take len) = true := by
          cases hq : (B.rows.drop off).take len with
          | nil => rfl
          | cons r0 rest =>
            have hr0 : ((B.rows.drop off).take len)[0]? = some r0 := by rw [hq]; rfl
            have hg0 := rows_get hr0
            have := ok.len _ _ hg0.1
            have hne : B.rows ≠ [] := by intro h; rw [h] at hg0; simp at hg0
            simp [szOk, this, szOk_len hBsz ok.len hne]
        obtain ⟨us0, hsrc0⟩ := src_of (P := P) hR hx hrw hso
        obtain ⟨zv, hzr, hzs, hz1, hzv⟩ := zT_some (K := K) hz
        have hroom2 : (len + m) * bytes ≤ 2 ^ 47 := by
          rw [List.length_append, hll, List.length_replicate] at hroom
          simpa [room] using hroom
        obtain ⟨nc, hle, hrun⟩ := run_append_zeros (w := w) (ty := ty) (k' := k') (zv := zv) h0 h1 ht hu hs hb hxv hm hszp (by omega) hbp hroom2 (xs := us0) (fun w' hw' => by
          have := hsrc0.load w' hw'
          rw [hll] at this; exact this) hzr
        rw [hyv]
        refine ⟨_, _, hrun, ?_⟩
        have hzc : (Builtin.zeroCells zv.cells m).toList.length = (List.replicate m z).length * sz := by simp [Builtin.zeroCells, hzs, hzl]
        obtain ⟨q1, q2, q3⟩ := rows_append (K := K) (xs := (B.rows.drop off).take len) (ys := List.replicate m z) (us := us0) (vs := (Builtin.zeroCells zv.cells m).toList) (zs := (Builtin.zeroCells zv.cells (nc - (len + m))).toList) hsrc0.size hzc hsrc0.row (fun r row hr => by
            rw [List.getElem?_replicate] at hr
            split at hr
            · cases hr; exact hzl
            · cases hr) hsrc0.val (fun r row c y hr hy => by
            rw [List.getElem?_replicate] at hr
            split at hr
            · rename_i hlt
              cases hr
              obtain ⟨u, h1, h2⟩ := zeros_get (K := K) hzs hzv hlt hy
              rw [hzl] at h1
              exact ⟨u, h1, h2⟩
            · cases hr)
        have := new_drew hR (elem := e') q1 q2 (fun v hv => by simp only [List.mem_toArray, List.mem_append] at hv; rcases hv with (hv | hv) | hv; exact hsrc0.one v hv; exact zeros_one hz1 _ v hv; exact zeros_one hz1 _ v hv) q3 (n := len + m) (cap := nc) hle (by
          have e1 : us0.length = len * sz := by rw [hsrc0.size, hll]
          have e2 : (Builtin.zeroCells zv.cells (nc - (len + m))).toList.length = (nc - (len + m)) * sz := by simp [Builtin.zeroCells, hzs, hzl]
          rw [List.size_toArray, List.length_append, List.length_append, e1, hzc, e2, List.length_replicate, Nat.sub_mul, Nat.add_mul]
          have := Nat.mul_le_mul_right sz hle
          rw [Nat.add_mul] at this; omega)
        have hlen2 : ((B.rows.drop off).take len ++ List.replicate m z).length = len + m := by rw [List.length_append, hll, List.length_replicate]
        rw [hlen2]
        exact this
      · cases h
    · cases h
  · cases h

/-- The library's entry, of two rows in two blocks. -/
theorem run_ovl (w : World) {ps rs : Array TypeId} {tS e : TypeId} (hps : ps[0]? = some tS) (ht : P.underlying tS = some (.slice e)) {size : Nat} (hz : ∀ w, (Go.sizeOf e).run P w = .ok size w)
    (a b : Addr) (la ca lb cb : Nat) (hne : a.block ≠ b.block) (tA tB : TypeId) (kA kB : Nat)
    (hsa : w.shape? a.block = some (tA, kA)) (hsb : w.shape? b.block = some (tB, kB)) (hkB : kB ≠ 0)
    (hfa : w.frozen? a = false) (hfe : w.frozen? { block := a.block, off := kA } = false) :
    (Extern.SlicesOverlaps.overlaps ps rs #[.slice (some a) la ca, .slice (some b) lb cb]).run P w = .ok (.bool false) w := by
  have hnb : (a.block != b.block) = true := by simpa using hne
  have hnb' : (a.block == b.block) = false := by simpa using hne
  change Sem.run P (α := Value) (do
    let some t := ps[0]? | stuck "slices.overlaps: no parameter types"
    let .slice elem ← underlying t | stuck "slices.overlaps: slice type expected"
    let size ← sizeOf elem
    match (some a : Option Addr), (some b : Option Addr) with
    | some a, some b =>
      if la = 0 ∨ lb = 0 ∨ size = 0 then pure (Value.bool false)
      else if a.block != b.block && (← frozen a) && (← frozen b) then unsupported .addressObserved
      else do
        if a.block != b.block then do
          noView a; noView b
          if ← mayBeOne a b then return Value.bool ((← choose (.extern "sameAddr.stringBytes" 2)) == 1)
        pure (Value.bool (a.block == b.block && a.off < b.off + lb * size && b.off < a.off + la * size))
    | _, _ => pure (Value.bool false)) w = _
  by_cases h0 : la = 0 ∨ lb = 0 ∨ size = 0
  · simp [run_underlying ht, hz, hps, h0]
  · cases kB with
    | zero => exact absurd rfl hkB
    | succ kB =>
      simp [run_underlying ht, hz, hps, h0, hnb, hnb', frozen, noView, viewAt, mayBeOne, stringish, shape, Sem.run, hsa, hsb, hfa, hfe]

theorem find_ovl {fn : Func} (h : ovlNm fn = true) : Extern.findNext fn = none ∧ Extern.find fn = some (Extern.SlicesOverlaps.overlaps fn.params fn.resultTypes) := by
  simp only [ovlNm, Bool.and_eq_true, beq_iff_eq, Option.isNone_iff_eq_none] at h
  obtain ⟨⟨⟨⟨h1, h2⟩, h3⟩, h4⟩, h5⟩ := h
  have g1 : Extern.allNextRows.lookup "slices.overlaps" = none := by kernel_rfl
  have g2 : Extern.allGenericRows.lookup "slices.overlaps" = none := by kernel_rfl
  have g3 : Extern.allTypedRows.lookup "slices.overlaps" = some Extern.SlicesOverlaps.overlaps := by kernel_rfl
  constructor
  · simp only [Extern.findNext, h1, h5, g1]; rfl
  · simp only [Extern.find, h1, h2, h3, h4, g2, g3]; rfl

theorem sim_ovl {ro : Nat} {H : Hp} (hR : Rel K ro H w) (he : EnvOk K e a) {f : Nat} {fn : Func} {x y : Operand} {x' y' : Opd} {ats : Array TypeId} {z : IV} (ho : o.op = .call { callee := .value (.func f), args := #[x, y], argTypes := ats }) (hf : P.funcs[f]? = some fn) (hnm : ovlNm fn = true) (hT : ovlT P fn = true) (hb : fn.body = none) (hne : (fn.name == "runtime.NumGoroutine") = false)
    (hx : cOpd x = some x') (hy : cOpd y = some y') (hz : ovlV H (ev e x') (ev e y') = some z) : Gives P a o w K z := by
  obtain ⟨hn, hfd⟩ := find_ovl hnm
  have hrun : ∀ w', (execOp a.eval o).run P w' = ((Extern.SlicesOverlaps.overlaps fn.params fn.resultTypes #[a.eval x, a.eval y]).run P w').andThen fun v w'' => .ok (.value v) w'' := by
    intro w'
    have := run_callFunc_extern hf hne (by rw [hb]; rfl) hn hfd #[a.eval x, a.eval y] w'
    simpa [execOp, ho, resolve, Act.eval, Deferred.ofValue, invoke] using this
  refine gives_of hrun ?_
  have h1 := he.ev hx
  have h2 := he.ev hy
  obtain ⟨tS, e', hps, hu, size, hsz⟩ : ∃ tS e', fn.params[0]? = some tS ∧ P.underlying tS = some (.slice e') ∧ ∃ size, szT P e' = some size := by
    unfold ovlT at hT
    split at hT
    · rename_i t r hl
      split at hT
      · rename_i e' hu
        exact ⟨t, e', by rw [← Array.getElem?_toList, hl]; rfl, hu, Option.isSome_iff_exists.1 hT⟩
      · cases hT
    · cases hT
  unfold ovlV at hz
  split at hz
  · rename_i b g off len cap ex b' g' off' len' cap' ex' e1 e2
    rw [e1] at h1
    rw [e2] at h2
    simp only [Option.bind_eq_some_iff] at hz
    obtain ⟨B, hB, row, hrow, B', hB', row', hrow', hz⟩ := hz
    split at hz
    · rename_i hc
      obtain ⟨hbb, hl, hl', hr, hr'⟩ := hc
      cases hz
      obtain ⟨hB, hgen⟩ := blkAt_some hB
      obtain ⟨hB', hgen'⟩ := blkAt_some hB'
      obtain ⟨L, hL, _, hcur, _⟩ := h1.arr_inv
      obtain ⟨L', hL', _, hcur', _⟩ := h2.arr_inv
      obtain ⟨B0, hB0, ok⟩ := hR.blk b L hL
      obtain rfl : B = B0 := by rw [hB] at hB0; exact Option.some.inj hB0
      obtain ⟨B1, hB1, ok'⟩ := hR.blk b' L' hL'
      obtain rfl : B' = B1 := by rw [hB'] at hB1; exact Option.some.inj hB1
      obtain ⟨A, c, hxv, hA, hcc, hlc, _, hext⟩ := hcur (by rw [← ok.gen]; exact hgen)
      obtain ⟨A', c', hyv, hA', hcc', hlc', _, hext'⟩ := hcur' (by rw [← ok'.gen]; exact hgen')
      have hs1 : 0 < L.sz := by rw [← ok.len _ _ hrow]; exact hr
      have hs2 : 0 < L'.sz := by rw [← ok'.len _ _ hrow']; exact hr'
      have hx1 : 0 < L.ext := by
        have := Nat.mul_le_mul (show 1 ≤ off + c by omega) hs1
        omega
      have hx2 : 0 < L'.ext := by
        have := Nat.mul_le_mul (show 1 ≤ off' + c' by omega) hs2
        omega
      have hAe := hA (by omega)
      have hAe' := hA' (by omega)
      subst hAe
      subst hAe'
      obtain ⟨u1, hu1, _⟩ := ok.there 0 hx1
      obtain ⟨u2, hu2, _⟩ := ok'.there 0 hx2
      obtain ⟨tA, kA, hsa, hlA⟩ := shape_of_cell hu1
      obtain ⟨tB, kB, hsb, hlB⟩ := shape_of_cell hu2
      refine ⟨.bool false, ?_, .bool _ _⟩
      rw [hxv, hyv]
      refine run_ovl w hps hu (run_sizeOf' hsz) _ _ _ _ _ _ (fun h => hbb (hR.inj _ _ _ _ hL hL' h)) tA tB kA kB hsa hsb (by omega) ?_ ?_
      · rw [Nat.add_zero] at *
        exact ok.soft hx1 _
      · have := ok.soft hx1 (kA - L.org)
        rw [show L.org + (kA - L.org) = kA by omega] at this
        exact this
    · cases hz
  · cases hz
end Go.Vs
