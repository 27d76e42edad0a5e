/- copy, clear, make, texts to bytes, sums with carry: their simulation. -/
import Derived.Test.YtinmpfflkcnkfaaVsOpI
namespace Go.Vs
open Go Go.RowKit

variable {P : Program} {K : Kp} {e : Env} {a : Act} {o : Oper} {w : World}

/-- Rows of a block of one's own, from a place on, written anew. -/
theorem put_rows {ro : Nat} {H : Hp} (hR : Rel K ro H w) {b g : Nat} {L : Loc} {B : Bk} (hL : K.ρ b = some L) (hB : wbl ro H b g = some B) {off sz : Nat} (hw : L.sz = sz) {ys : List (List IV)} {us : List Value} (hle : off + ys.length ≤ B.rows.length) (hus : us.length = ys.length * sz) (hrow : ∀ (r : Nat) (row : List IV), ys[r]? = some row → row.length = sz) (hone : ∀ u ∈ us, u.oneCell' = true)
    (hval : ∀ (r : Nat) (row : List IV) (c : Nat) (x : IV), ys[r]? = some row → row[c]? = some x → ∃ u, us[r * sz + c]? = some u ∧ VR K x u) :
    ∃ w', (storeCells (ad L.blk (L.org + off * L.sz)) us).run P w = .ok () w' ∧ Rel K ro (H.set b { B with rows := B.rows.take off ++ ys ++ B.rows.drop (off + ys.length) }) w' ∧ Fr K K ro H.length (H.set b { B with rows := B.rows.take off ++ ys ++ B.rows.drop (off + ys.length) }).length w w' := by
  obtain ⟨hB, hgen, hro, hfz⟩ := wbl_some hB
  obtain ⟨B', hB', ok⟩ := hR.blk b L hL
  obtain rfl : B = B' := by rw [hB] at hB'; exact Option.some.inj hB'
  subst hw
  have hmul : (off + ys.length) * L.sz ≤ L.ext := Nat.le_trans (Nat.mul_le_mul_right _ hle) ok.fit
  rw [Nat.add_mul] at hmul
  have hget : ∀ (r : Nat) (row : List IV), (B.rows.take off ++ ys ++ B.rows.drop (off + ys.length))[r]? = some row → (r < off ∧ B.rows[r]? = some row) ∨ (off ≤ r ∧ ys[r - off]? = some row) ∨ (off + ys.length ≤ r ∧ B.rows[r]? = some row) := by
    intro r row hr
    by_cases h1 : r < off
    · left; refine ⟨h1, ?_⟩
      rw [List.append_assoc, List.getElem?_append_left (by simp; omega), List.getElem?_take, if_pos h1] at hr; exact hr
    · by_cases h2 : r < off + ys.length
      · right; left; refine ⟨by omega, ?_⟩
        rw [List.append_assoc, List.getElem?_append_right (by simp; omega), List.length_take, Nat.min_eq_left (by omega), List.getElem?_append_left (by omega)] at hr; exact hr
      · right; right; refine ⟨by omega, ?_⟩
        rw [List.append_assoc, List.getElem?_append_right (by simp; omega), List.length_take, Nat.min_eq_left (by omega), List.getElem?_append_right (by omega), List.getElem?_drop] at hr
        rw [← hr]; congr 1; omega
  obtain ⟨hR', hF⟩ := hR.setCells hL hB hro hfz (rows := B.rows.take off ++ ys ++ B.rows.drop (off + ys.length)) (fun r row hr => by
      rcases hget r row hr with ⟨_, h⟩ | ⟨_, h⟩ | ⟨_, h⟩
      · exact ok.len r row h
      · exact hrow _ row h
      · exact ok.len r row h) (by
      have : (B.rows.take off ++ ys ++ B.rows.drop (off + ys.length)).length = B.rows.length := by simp; omega
      rw [this]; exact ok.fit) (p := off * L.sz) (us := us) (by rw [hus]; exact hmul) hone (fun r row c x hr hx => by
      rcases hget r row hr with ⟨hlt, h⟩ | ⟨hge, h⟩ | ⟨hge, h⟩
      · have hc : c < L.sz := by rw [← ok.len r row h]; exact (List.getElem?_eq_some_iff.1 hx).1
        refine .inr ⟨.inl ?_, row, h, hx⟩
        have := Nat.mul_le_mul_right L.sz hlt
        simp only [Nat.succ_eq_add_one, Nat.add_mul, Nat.one_mul] at this; omega
      · obtain ⟨u, hu, hv⟩ := hval _ row c x h hx
        refine .inl ⟨_, u, hu, ?_, hv⟩
        rw [Nat.sub_mul]
        have := Nat.mul_le_mul_right L.sz hge
        omega
      · refine .inr ⟨.inr ?_, row, h, hx⟩
        rw [hus]
        have := Nat.mul_le_mul_right L.sz hge
        simp only [Nat.add_mul] at this; omega)
  refine ⟨_, ?_, hR', hF⟩
  exact run_storeCells_cells (P := P) L.blk (L.org + off * L.sz) us 0 w (fun q hq => by
    rw [hus] at hq
    obtain ⟨u, hu, _⟩ := ok.there (off * L.sz + q) (by omega)
    rw [show (⟨L.blk, L.org + off * L.sz + 0 + q, none⟩ : Addr) = ad L.blk (L.org + (off * L.sz + q)) by simp [ad]; omega, hu]; rfl) (fun q hq => by
    rw [hus] at hq
    rw [show (⟨L.blk, L.org + off * L.sz + 0 + q, none⟩ : Addr) = ad L.blk (L.org + (off * L.sz + q)) by simp [ad]; omega]
    exact ok.soft _ (by omega)) hone

theorem rowsOf_len {H : Hp} {Y : IV} {ys : List (List IV)} (h : rowsOf H Y = some ys) {y : Value} (hy : VR K Y y) : (Builtin.lenOf y).run P w = .ok ys.length w := by
  cases Y <;> simp only [rowsOf, reduceCtorEq, Option.some.injEq] at h
  case str s => subst h; rw [hy.str_inv]; simp [Builtin.lenOf]
  case nsl => subst h; rw [hy.nsl_inv]; rfl
  case imm rows full => subst h; obtain ⟨_, _, _, _, _, _, hv, _⟩ := hy.imm_inv; rw [hv]; rfl
  case arr b g off len cap ex =>
    simp only [Option.bind_eq_some_iff] at h
    obtain ⟨B, hB, h⟩ := h
    split at h
    · simp at h; subst h
      obtain ⟨_, _, _, _, _, _, hv⟩ := hy.arr_inv
      rw [hv]
      have : ((B.rows.drop off).take len).length = len := by simp; omega
      rw [this]; rfl
    · cases h

theorem sim_copy {ro : Nat} {H H' : Hp} (hR : Rel K ro H w) {t ty : TypeId} {ats : Array TypeId} {e' : TypeId} {sz : Nat} {X Y Z : IV} {x y : Value} (h0 : ats[0]? = some t) (ht : P.underlying t = some (.slice e')) (hs : szT P e' = some sz)
    (hx : VR K X x) (hy : VR K Y y) (h : copyV ro H sz X Y = some (Z, H')) : ∃ v w', (Builtin.copy_ ats ty #[x, y]).run P w = .ok v w' ∧ Step K ro H w H' w' Z v := by
  simp only [copyV, Option.bind_eq_some_iff] at h
  obtain ⟨ys, hys, h⟩ := h
  split at h
  · cases h
  · rename_i hsz
    have hsz : szOk sz ys = true := by simpa using hsz
    obtain ⟨us, hsrc⟩ := src_of (P := P) hR hy hys hsz
    cases X <;> simp only [reduceCtorEq] at h
    case nsl =>
      cases h
      refine ⟨goInt 0, w, ?_, Step.here hR (.int _ _ _)⟩
      have hl := hsrc.loadN 0 (Nat.zero_le _) w rfl
      simp [Builtin.copy_, h0, run_underlying ht, run_sizeOf' hs, hx.nsl_inv, hsrc.len, hl]
    case arr b g off len cap ex =>
      simp only [Option.bind_eq_some_iff] at h
      obtain ⟨B, hB, h⟩ := h
      split at h
      · cases h
      · rename_i hcond
        have hBsz : szOk sz B.rows = true := by
          by_cases h : szOk sz B.rows = true
          · exact h
          · exact absurd (Or.inl (by simpa using h)) hcond
        have hBl : off + min ys.length len ≤ B.rows.length := by
          rcases Nat.lt_or_ge B.rows.length (off + min ys.length len) with h | h
          · exact absurd (Or.inr h) hcond
          · exact h
        obtain ⟨hB', hgen, hro, hfz⟩ := wbl_some hB
        obtain ⟨L, hL, hgL, hcur, _⟩ := hx.arr_inv
        obtain ⟨B', hB'', ok⟩ := hR.blk b L hL
        obtain rfl : B = B' := by rw [hB'] at hB''; exact Option.some.inj hB''
        obtain ⟨A, cap', hxv, hA, hcc, hlc, hex, hext⟩ := hcur (by rw [← ok.gen]; exact hgen)
        generalize hn : min ys.length len = n at *
        cases h
        have hl := hsrc.loadN n (by omega) w rfl
        have hnl : (ys.take n).length = n := by simp; omega
        have hmin : ys.length.min len = n := hn
        by_cases h00 : n = 0
        · subst h00
          simp at hl
          refine ⟨goInt 0, w, ?_, K, K.le_refl, ?_, .int _ _ _, ?_⟩
          · simp [Builtin.copy_, h0, run_underlying ht, run_sizeOf' hs, hxv, hsrc.len, hmin, hl, storeCells]
          · have hself : H.set b { B with rows := B.rows.take off ++ ys.take 0 ++ B.rows.drop (off + 0) } = H := by
              apply List.ext_getElem?
              intro i
              rw [List.getElem?_set]
              split
              · subst_vars; simp at hB' ⊢; rw [hB']; simp [(List.getElem?_eq_some_iff.1 hB').1]
              · rfl
            rw [hself]; exact hR
          · have : (H.set b { B with rows := B.rows.take off ++ ys.take 0 ++ B.rows.drop (off + 0) }).length = H.length := by simp
            rw [this]; exact Fr.refl _ _ _ _
        · have hne : B.rows ≠ [] := by intro h; rw [h, List.length_nil] at hBl; omega
          have hw := szOk_len hBsz ok.len hne
          obtain ⟨w', hst, hR', hF⟩ := put_rows (P := P) hR hL hB hw.symm (off := off) (ys := ys.take n) (us := us.take (n * sz)) (by rw [hnl]; exact hBl) (by rw [hnl, List.length_take, hsrc.size, Nat.min_eq_left (Nat.mul_le_mul_right _ (by omega))])
            (fun r row hr => by rw [List.getElem?_take] at hr; split at hr; exact hsrc.row r row hr; cases hr) (fun u hu => hsrc.one u (List.mem_of_mem_take hu)) (fun r row c x' hr hx' => by
              rw [List.getElem?_take] at hr
              split at hr
              · rename_i hrn
                obtain ⟨u, hu, hv⟩ := hsrc.val r row c x' hr hx'
                refine ⟨u, ?_, hv⟩
                have hc : c < sz := by rw [← hsrc.row r row hr]; exact (List.getElem?_eq_some_iff.1 hx').1
                have := Nat.mul_le_mul_right sz hrn
                simp only [Nat.succ_eq_add_one, Nat.add_mul, Nat.one_mul] at this
                rw [List.getElem?_take, if_pos (by omega)]; exact hu
              · cases hr)
          rw [hnl] at hR' hF
          refine ⟨goInt n, w', ?_, K, K.le_refl, hR', .int _ _ _, hF⟩
          have hAe := hA (by omega)
          rw [← hAe] at hst
          simp [Builtin.copy_, h0, run_underlying ht, run_sizeOf' hs, hxv, hsrc.len, hmin, hl, hst]

theorem sim_clear {ro : Nat} {H H' : Hp} (hR : Rel K ro H w) {t ty : TypeId} {ats : Array TypeId} {e' : TypeId} {X Z : IV} {x : Value} {z : List IV} (h0 : ats[0]? = some t) (ht : P.underlying t = some (.slice e')) (hz : zT P e' = some z)
    (hx : VR K X x) (h : clearV ro H z.length z X = some (Z, H')) : ∃ v w', (Builtin.clear_ ats ty #[x]).run P w = .ok v w' ∧ Step K ro H w H' w' Z v := by
  have htup : VR K (.tup []) (.tuple #[]) := .tup _ _ _ rfl (fun i x y h => by simp at h)
  cases X <;> simp only [clearV, reduceCtorEq] at h
  case nsl =>
    cases h
    exact ⟨_, w, by simp [Builtin.clear_, h0, run_underlying ht, hx.nsl_inv], Step.here hR htup⟩
  case arr b g off len cap ex =>
    split at h
    · rename_i hl0
      cases h
      subst hl0
      obtain ⟨_, _, _, _, A, c, hv⟩ := hx.arr_inv
      exact ⟨_, w, by simp [Builtin.clear_, h0, run_underlying ht, hv], Step.here hR htup⟩
    · rename_i hl0
      simp only [Option.bind_eq_some_iff] at h
      obtain ⟨B, hB, h⟩ := h
      split at h
      · cases h
      · rename_i hcond
        cases h
        obtain ⟨hB', hgen, hro, hfz⟩ := wbl_some hB
        obtain ⟨L, hL, hgL, hcur, _⟩ := hx.arr_inv
        obtain ⟨B', hB'', ok⟩ := hR.blk b L hL
        obtain rfl : B = B' := by rw [hB'] at hB''; exact Option.some.inj hB''
        obtain ⟨A, cap', hxv, hA, hcc, hlc, hex, hext⟩ := hcur (by rw [← ok.gen]; exact hgen)
        have hBsz : szOk z.length B.rows = true := by
          by_cases h : szOk z.length B.rows = true
          · exact h
          · exact absurd (Or.inl (by simpa using h)) hcond
        have hBl : off + len ≤ B.rows.length := by
          rcases Nat.lt_or_ge B.rows.length (off + len) with h | h
          · exact absurd (Or.inr (Or.inr h)) hcond
          · exact h
        have hne : B.rows ≠ [] := by clear hcur; intro h; rw [h, List.length_nil] at hBl; omega
        have hw := szOk_len hBsz ok.len hne
        obtain ⟨zv, hzr, hzs, hz1, hzv⟩ := zT_some (K := K) hz
        have hget : ∀ r c u, r < len → zv.cells[c]? = some u → (Builtin.zeroCells zv.cells len).toList[r * z.length + c]? = some u := by
          intro r c u hr hu
          have hc : c < z.length := by rw [← hzs]; exact (Array.getElem?_eq_some_iff.1 hu).1
          have hmul : (r + 1) * z.length ≤ len * z.length := Nat.mul_le_mul_right _ hr
          rw [Nat.add_mul, Nat.one_mul] at hmul
          have hm : (r * z.length + c) % zv.cells.size = c := by rw [hzs, Nat.mul_comm, Nat.mul_add_mod, Nat.mod_eq_of_lt hc]
          have hlt : r * z.length + c < len * zv.cells.size := by rw [hzs]; omega
          obtain ⟨h1, h2⟩ := Array.getElem?_eq_some_iff.1 hu
          rw [Array.getElem?_toList]
          simp only [Builtin.zeroCells]
          rw [Array.getElem?_map, Array.getElem?_range, if_pos hlt]
          simp only [Option.map_some, hm]
          rw [getElem!_pos zv.cells c h1, h2]
        obtain ⟨w', hst, hR', hF⟩ := put_rows (P := P) hR hL hB hw.symm (off := off) (ys := List.replicate len z) (us := (Builtin.zeroCells zv.cells len).toList) (by simpa using hBl) (by simp [Builtin.zeroCells, hzs])
          (fun r row hr => by
            rw [List.getElem?_replicate] at hr
            split at hr
            · simp at hr; rw [← hr]
            · cases hr) (fun u hu => by
            simp only [Builtin.zeroCells, Array.mem_toList_iff, Array.mem_map, Array.mem_range] at hu
            obtain ⟨j, hj, rfl⟩ := hu
            have hp : 0 < zv.cells.size := by
              rcases Nat.eq_zero_or_pos zv.cells.size with h | h
              · rw [h] at hj; omega
              · exact h
            have hm : j % zv.cells.size < zv.cells.size := Nat.mod_lt _ hp
            rw [getElem!_pos zv.cells _ hm]
            exact hz1 _ (Array.getElem_mem hm)) (fun r row c x' hr hx' => by
            rw [List.getElem?_replicate] at hr
            split at hr
            · rename_i hrl
              simp at hr; subst hr
              have hc : c < zv.cells.size := by rw [hzs]; exact (List.getElem?_eq_some_iff.1 hx').1
              exact ⟨_, hget r c _ hrl (Array.getElem?_eq_getElem hc), hzv c x' _ hx' (Array.getElem?_eq_getElem hc)⟩
            · cases hr)
        rw [List.length_replicate] at hR' hF
        refine ⟨_, w', ?_, K, K.le_refl, hR', htup, hF⟩
        have hAe := hA (Nat.lt_of_lt_of_le (Nat.pos_of_ne_zero hl0) (Nat.le_trans hlc hcc))
        rw [← hAe] at hst
        cases len with
        | zero => exact absurd rfl hl0
        | succ len => simp [Builtin.clear_, h0, run_underlying ht, hxv, hzr, hst]

theorem prOf_name {n : String} {p : Pr} (h : prOf n = some p) : (p = .add64 ∧ n = "math/bits.Add64") ∨ (p = .ixb ∧ n = "internal/bytealg.IndexByteString") ∨ (p = .cmps ∧ n = "internal/bytealg.abigen_runtime_cmpstring") ∨ (p = .noe ∧ n = "internal/abi.NoEscape") := by
  unfold prOf at h
  split at h
  · rename_i e; cases h; exact .inl ⟨rfl, by simpa using e⟩
  · split at h
    · rename_i e; cases h; exact .inr (.inl ⟨rfl, by simpa using e⟩)
    · split at h
      · rename_i e; cases h; exact .inr (.inr (.inl ⟨rfl, by simpa using e⟩))
      · split at h
        · rename_i e; cases h; exact .inr (.inr (.inr ⟨rfl, by simpa using e⟩))
        · cases h

theorem find_range (l : List UInt8) (p : UInt8 → Bool) (q : Nat → Bool) (h : ∀ i (hi : i < l.length), q i = p l[i]) : (List.range l.length).find? q = l.findIdx? p := by
  cases hf : l.findIdx? p with
  | none =>
    rw [List.findIdx?_eq_none_iff] at hf
    rw [List.find?_eq_none]
    intro i hi
    have hi := List.mem_range.1 hi
    rw [h i hi, hf _ (List.getElem_mem hi)]; simp
  | some i =>
    obtain ⟨hi, hp, hn⟩ := List.findIdx?_eq_some_iff_getElem.1 hf
    rw [List.find?_range_eq_some]
    refine ⟨by rw [h i hi]; exact hp, List.mem_range.2 hi, fun j hj => ?_⟩
    have := hn j hj
    rw [h j (by omega)]; simpa using this

theorem run_ixb (s : ByteArray) (c : Int) (w : World) : (Extern.BytealgIndexByte.indexByte #[.string s, .int .u8 c]).run P w = .ok (.int .i64 (ixB s c)) w := by
  have hf : (List.range s.size).find? (fun i => s[i]! == c.toNat.toUInt8) = s.data.toList.findIdx? (· == c.toNat.toUInt8) := by
    have := find_range s.data.toList (· == c.toNat.toUInt8) (fun i => s[i]! == c.toNat.toUInt8) fun i hi => by
      have hi2 : i < s.size := by simpa using hi
      rw [getElem!_pos s i hi2]; rfl
    simpa using this
  unfold ixB
  show (match (List.range s.size).find? (fun i => s[i]! == c.toNat.toUInt8) with | some i => (pure (goInt i) : Sem Value) | none => pure (goInt (-1))).run P w = _
  rw [hf]
  cases s.data.toList.findIdx? (· == c.toNat.toUInt8) <;> rfl

theorem run_cmps (a b : ByteArray) (w : World) : (Extern.BytealgCompare.compare #[.string a, .string b]).run P w = .ok (.int .i64 (Extern.BytealgCompare.cmp a b)) w := rfl

theorem sim_pr (hpr : PrOk P) (he : EnvOk K e a) {f : Nat} {fn : Func} {p : Pr} {xs : Array Operand} {ats : Array TypeId} {ys : List Opd} {z : IV} (ho : o.op = .call { callee := .value (.func f), args := xs, argTypes := ats }) (hf : P.funcs[f]? = some fn) (hnm : prOf fn.name = some p) (hor : fn.origin = "") (hb : fn.body = none) (hxs : cOpds xs.toList = some ys) (hz : prV p (ys.map (ev e)) = some z) : Gives P a o w K z := by
  obtain ⟨hl, hv⟩ := evs_ok he hxs
  obtain ⟨hn, hfd⟩ := hpr.at_ f fn p hf hnm hor hb
  have hne : (fn.name == "runtime.NumGoroutine") = false := by
    rcases prOf_name hnm with ⟨_, h⟩ | ⟨_, h⟩ | ⟨_, h⟩ | ⟨_, h⟩ <;> rw [h] <;> decide
  have hrun : ∀ w', (execOp a.eval o).run P w' = ((prEntry p (xs.map a.eval)).run P w').andThen fun v w'' => .ok (.value v) w'' := by
    intro w'
    have := run_callFunc_extern hf hne (by rw [hb]; rfl) hn hfd (xs.map a.eval) w'
    simpa [execOp, ho, resolve, Act.eval, Deferred.ofValue, invoke] using this
  refine gives_of hrun ?_
  unfold prV at hz
  split at hz
  · rename_i s c heq
    cases hz
    have h3 : ∃ p q, xs.toList.map a.eval = [p, q] := by
      rw [heq] at hl
      match xs.toList.map a.eval, hl with
      | [p, q], _ => exact ⟨p, q, rfl⟩
    obtain ⟨p, q, hpq⟩ := h3
    rw [heq, hpq] at hv
    have e1 := (hv 0 _ _ rfl rfl).str_inv
    have e2 := (hv 1 _ _ rfl rfl).int_inv
    have hx : xs.map a.eval = #[.string s, .int .u8 c] := by
      apply Array.ext'
      rw [Array.toList_map, hpq, e1, e2]
    rw [hx]
    exact ⟨_, run_ixb s c w, .int _ _ _⟩
  · rename_i s c heq
    cases hz
    have h3 : ∃ p q, xs.toList.map a.eval = [p, q] := by
      rw [heq] at hl
      match xs.toList.map a.eval, hl with
      | [p, q], _ => exact ⟨p, q, rfl⟩
    obtain ⟨p, q, hpq⟩ := h3
    rw [heq, hpq] at hv
    have e1 := (hv 0 _ _ rfl rfl).str_inv
    have e2 := (hv 1 _ _ rfl rfl).str_inv
    have hx : xs.map a.eval = #[.string s, .string c] := by
      apply Array.ext'
      rw [Array.toList_map, hpq, e1, e2]
    rw [hx]
    exact ⟨_, run_cmps s c w, .int _ _ _⟩
  · rename_i X Y C heq
    split at hz
    · rename_i hc
      simp at hz; subst hz
      have h3 : ∃ p q r, xs.toList.map a.eval = [p, q, r] := by
        rw [heq] at hl
        match xs.toList.map a.eval, hl with
        | [p, q, r], _ => exact ⟨p, q, r, rfl⟩
      obtain ⟨p, q, r, hpq⟩ := h3
      rw [heq, hpq] at hv
      have e1 := (hv 0 _ _ rfl rfl).int_inv
      have e2 := (hv 1 _ _ rfl rfl).int_inv
      have e3 := (hv 2 _ _ rfl rfl).int_inv
      have hx : xs.map a.eval = #[.int .u64 X, .int .u64 Y, .int .u64 C] := by
        apply Array.ext'
        rw [Array.toList_map, hpq, e1, e2, e3]
      rw [hx]
      refine ⟨_, run_add64 X Y C hc.1 hc.2.1 hc.2.2.1 hc.2.2.2 w, .tup K _ _ rfl (fun i x y h1 h2 => ?_)⟩
      match i, h1, h2 with
      | 0, h1, h2 => simp at h1 h2; subst h1 h2; exact .int _ _ _
      | 1, h1, h2 => simp at h1 h2; subst h1 h2; exact .int _ _ _
      | i + 2, h1, h2 => simp at h1
    · cases hz
  · rename_i y heq
    cases hz
    have h3 : ∃ p, xs.toList.map a.eval = [p] := by
      rw [heq] at hl
      match xs.toList.map a.eval, hl with
      | [p], _ => exact ⟨p, rfl⟩
    obtain ⟨p, hpq⟩ := h3
    rw [heq, hpq] at hv
    have hx : xs.map a.eval = #[p] := by
      apply Array.ext'
      rw [Array.toList_map, hpq]
    rw [hx]
    exact ⟨p, rfl, hv 0 _ _ rfl rfl⟩
  · cases hz

end Go.Vs
