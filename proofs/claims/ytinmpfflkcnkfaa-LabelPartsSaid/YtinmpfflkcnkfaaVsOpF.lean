/- Bytes to text; the greatest and the least; sums with carry; room: their simulation. -/
import Derived.Test.YtinmpfflkcnkfaaVsOpE
namespace Go.Vs
open Go Go.RowKit

variable {P : Program} {K : Kp} {e : Env} {a : Act} {o : Oper} {w : World}

def prEntry : Pr → Array Value → Sem Value
  | .add64 => add64Entry
  | .ixb => Extern.BytealgIndexByte.indexByte
  | .cmps => Extern.BytealgCompare.compare
  | .noe => Extern.AbiNoEscape.same

/-- The functions without a text are what the kit says they are. -/
structure PrOk (P : Program) : Prop where
  at_ : ∀ (f : Nat) (fn : Func) (p : Pr), P.funcs[f]? = some fn → prOf fn.name = some p → fn.origin = "" → fn.body = none → Extern.findNext fn = none ∧ Extern.find fn = some (prEntry p)

/-- What a slice's rows are in memory: the cells from an address on. -/
def SliceAt (K : Kp) (w : World) (v : Value) (rows : List (List IV)) (sz : Nat) : Prop :=
  ∃ A n cap, v = .slice A n cap ∧ n = rows.length ∧ (rows = [] ∨ ∃ b q us, A = some (ad b q) ∧ (∀ row ∈ rows, row.length = sz) ∧ CellsAt K w b q rows.flatten us)

theorem flatten_get {sz : Nat} : ∀ {rows : List (List IV)}, (∀ row ∈ rows, row.length = sz) → ∀ (r c : Nat) (row : List IV) (x : IV), rows[r]? = some row → row[c]? = some x → rows.flatten[r * sz + c]? = some x
  | [], _, r, c, row, x, h, _ => by simp at h
  | y :: ys, hl, 0, c, row, x, h, hx => by
    simp at h; subst h
    simp only [Nat.zero_mul, Nat.zero_add, List.flatten_cons]
    rw [List.getElem?_append_left (List.getElem?_eq_some_iff.1 hx).1]; exact hx
  | y :: ys, hl, r + 1, c, row, x, h, hx => by
    simp at h
    have h0 := hl y (by simp)
    rw [List.flatten_cons, List.getElem?_append_right (by rw [h0, Nat.add_mul]; omega), h0, show (r + 1) * sz + c - sz = r * sz + c by rw [Nat.add_mul]; omega]
    exact flatten_get (fun row h => hl row (by simp [h])) r c row x h hx

theorem flatten_len {α : Type} {sz : Nat} : ∀ {rows : List (List α)}, (∀ row ∈ rows, row.length = sz) → rows.flatten.length = rows.length * sz
  | [], _ => by simp
  | y :: ys, hl => by
    rw [List.flatten_cons, List.length_append, hl y (by simp), flatten_len (fun row h => hl row (by simp [h])), List.length_cons, Nat.add_mul]; omega

theorem flatten_at {sz : Nat} {rows : List (List IV)} (hl : ∀ row ∈ rows, row.length = sz) {i : Nat} {x : IV} (h : rows.flatten[i]? = some x) : ∃ row, 0 < sz ∧ rows[i / sz]? = some row ∧ row[i % sz]? = some x := by
  have hi := (List.getElem?_eq_some_iff.1 h).1
  rw [flatten_len hl] at hi
  have hs : 0 < sz := by
    rcases Nat.eq_zero_or_pos sz with h0 | h0
    · subst h0; simp at hi
    · exact h0
  have hr : i / sz < rows.length := (Nat.div_lt_iff_lt_mul hs).2 hi
  have hrow := List.getElem?_eq_getElem hr
  have hlen := hl _ (List.getElem_mem hr)
  have hc : i % sz < rows[i / sz].length := by rw [hlen]; exact Nat.mod_lt _ hs
  refine ⟨_, hs, hrow, ?_⟩
  have := flatten_get hl (i / sz) (i % sz) _ _ hrow (List.getElem?_eq_getElem hc)
  rw [show i / sz * sz + i % sz = i by have := Nat.div_add_mod i sz; rw [Nat.mul_comm]; exact this, h] at this
  rw [this]
  exact List.getElem?_eq_getElem hc

theorem Claimed.cells {ro : Nat} {H : Hp} (hR : Rel K ro H w) {rows : List (List IV)} {b q sz : Nat} {us : Nat → Nat → Value} (hc : Claimed K rows b q sz us) : ∃ vs, CellsAt K w b q rows.flatten vs := by
  have hl : ∀ row ∈ rows, row.length = sz := fun row h => by
    obtain ⟨i, hi, rfl⟩ := List.mem_iff_getElem.1 h
    exact hc.len i _ (List.getElem?_eq_getElem hi)
  refine ⟨_, CellsAt.of (fun i => us (i / sz) (i % sz)) (fun i hi => ?_) (fun i x hx => ?_)⟩
  · obtain ⟨x, hx⟩ : ∃ x, rows.flatten[i]? = some x := ⟨_, List.getElem?_eq_getElem hi⟩
    obtain ⟨row, hs, hr, hx⟩ := flatten_at hl hx
    have := hR.claim _ _ _ (hc.cl _ row _ hr (Nat.mod_lt i hs))
    rw [show q + i / sz * sz + i % sz = q + i by have := Nat.div_add_mod i sz; rw [Nat.mul_comm (i / sz)]; omega] at this
    exact this
  · obtain ⟨row, hs, hr, hx⟩ := flatten_at hl hx
    exact (hc.val _ row _ x hr hx).mono K.bare_le

theorem blk_cells {ro : Nat} {H : Hp} (hR : Rel K ro H w) {b : Nat} {L : Loc} {B : Bk} (hL : K.ρ b = some L) (hB : H[b]? = some B) {off len : Nat} :
    (∀ row ∈ (B.rows.drop off).take len, row.length = L.sz) ∧ ∃ us, CellsAt K w L.blk (L.org + off * L.sz) ((B.rows.drop off).take len).flatten us := by
  obtain ⟨B', hB', ok⟩ := hR.blk b L hL
  obtain rfl : B = B' := by rw [hB] at hB'; exact Option.some.inj hB'
  have hget : ∀ r row, ((B.rows.drop off).take len)[r]? = some row → B.rows[off + r]? = some row := by
    intro r row hr
    rw [List.getElem?_take] at hr
    split at hr
    · rw [List.getElem?_drop] at hr; exact hr
    · cases hr
  have hl : ∀ row ∈ (B.rows.drop off).take len, row.length = L.sz := fun row h => by
    obtain ⟨i, hi, rfl⟩ := List.mem_iff_getElem.1 h
    exact ok.len _ _ (hget i _ (List.getElem?_eq_getElem hi))
  refine ⟨hl, ?_⟩
  have key : ∀ i, i < ((B.rows.drop off).take len).flatten.length → ∃ u, w.cell? (ad L.blk (L.org + off * L.sz + i)) = some u ∧ u.oneCell' = true ∧ ∀ x, ((B.rows.drop off).take len).flatten[i]? = some x → VR K x u := by
    intro i hi
    obtain ⟨x, hx⟩ : ∃ x, ((B.rows.drop off).take len).flatten[i]? = some x := ⟨_, List.getElem?_eq_getElem hi⟩
    obtain ⟨row, hs, hr, hx'⟩ := flatten_at hl hx
    have hr' := hget _ _ hr
    obtain ⟨u, hu, hv⟩ := ok.cell _ row _ x hr' hx'
    have hlt := (List.getElem?_eq_some_iff.1 hr').1
    have hm : (off + i / L.sz) * L.sz + i % L.sz = off * L.sz + i := by have := Nat.div_add_mod i L.sz; rw [Nat.add_mul, Nat.mul_comm (i / L.sz)]; omega
    obtain ⟨u', hu', h1⟩ := ok.there (off * L.sz + i) (by
      have := ok.fit
      have h2 := Nat.mul_le_mul_right L.sz (Nat.succ_le_of_lt hlt)
      have h3 : i % L.sz < L.sz := Nat.mod_lt _ hs
      simp only [Nat.succ_eq_add_one, Nat.add_mul, Nat.one_mul] at h2 hm ⊢
      omega)
    rw [show L.org + (off + i / L.sz) * L.sz + i % L.sz = L.org + (off * L.sz + i) by omega] at hu
    rw [hu] at hu'; cases hu'
    refine ⟨u, by rw [Nat.add_assoc]; exact hu, h1, fun y hy => ?_⟩
    rw [hx] at hy; cases hy; exact hv
  classical
  refine ⟨_, CellsAt.of (fun i => if h : i < _ then (key i h).choose else undef) (fun i hi => ?_) (fun i x hx => ?_)⟩
  · simp only [hi, dif_pos]
    exact ⟨(key i hi).choose_spec.1, (key i hi).choose_spec.2.1⟩
  · have hi := (List.getElem?_eq_some_iff.1 hx).1
    simp only [hi, dif_pos]
    exact (key i hi).choose_spec.2.2 x hx

/-- The rows of an ideal slice lie in memory. -/
theorem rowsOf_sim {ro : Nat} {H : Hp} (hR : Rel K ro H w) {x : IV} {v : Value} (hv : VR K x v) {rows : List (List IV)} (h : rowsOf H x = some rows) (hns : ∀ s, x ≠ .str s) : ∃ sz, SliceAt K w v rows sz := by
  cases x <;> simp only [rowsOf, reduceCtorEq, Option.some.injEq] at h
  case str s => exact absurd rfl (hns s)
  case nsl => subst h; exact ⟨0, none, 0, 0, hv.nsl_inv, rfl, .inl rfl⟩
  case imm rows' full =>
    subst h
    obtain ⟨A, cap, b, q, sz, us, hv, hA, hcap, hf, hc⟩ := hv.imm_inv
    refine ⟨sz, some A, _, cap, hv, rfl, ?_⟩
    by_cases hne : rows' = []
    · exact .inl hne
    · obtain ⟨vs, hcell⟩ := hc.cells hR
      refine .inr ⟨b, q, vs, by rw [hA hne], fun row h => ?_, hcell⟩
      obtain ⟨i, hi, rfl⟩ := List.mem_iff_getElem.1 h
      exact hc.len i _ (List.getElem?_eq_getElem hi)
  case arr b g off len cap ex =>
    simp only [Option.bind_eq_some_iff] at h
    obtain ⟨B, hB, h⟩ := h
    split at h
    · rename_i hle
      simp at h; subst h
      obtain ⟨hB, hgen⟩ := blkAt_some hB
      obtain ⟨L, hL, hg, hcur, _⟩ := hv.arr_inv
      obtain ⟨B', hB', ok⟩ := hR.blk b L hL
      obtain rfl : B = B' := by rw [hB] at hB'; exact Option.some.inj hB'
      obtain ⟨A, cap', hv, hA, hcc, hlc, hex, hext⟩ := hcur (by rw [← ok.gen]; exact hgen)
      obtain ⟨hl, us, hc⟩ := blk_cells (off := off) (len := len) hR hL hB
      refine ⟨L.sz, some A, len, cap', hv, by simp; omega, ?_⟩
      by_cases hlen : len = 0
      · left; subst hlen; simp
      · exact .inr ⟨L.blk, L.org + off * L.sz, us, by rw [hA (by omega)], hl, hc⟩
    · cases h

theorem bytesOf_some : ∀ {rows : List (List IV)} {bs : List UInt8}, bytesOf rows = some bs → bs.length = rows.length ∧ ∀ (i : Nat) (row : List IV) (c : UInt8), rows[i]? = some row → bs[i]? = some c → ∃ n, row = [.int .u8 n] ∧ c = UInt8.ofNat n.toNat
  | [], bs, h => by simp [bytesOf] at h; subst h; exact ⟨rfl, fun i row c h => by simp at h⟩
  | r :: rs, bs, h => by
    simp only [bytesOf, Option.bind_eq_some_iff, Option.some.injEq] at h
    obtain ⟨c, hc, cs, hcs, rfl⟩ := h
    obtain ⟨hl, hi⟩ := bytesOf_some hcs
    refine ⟨by simp [hl], fun i row d h1 h2 => ?_⟩
    cases i with
    | zero =>
      simp at h1 h2; subst h1 h2
      unfold byteOfRow at hc
      split at hc
      · simp at hc; exact ⟨_, rfl, hc.symm⟩
      · cases hc
    | succ i => simp at h1 h2; exact hi i row d h1 h2

theorem foldl_push (ns : List Int) : ∀ (s : ByteArray), ns.foldl (fun r n => r.push (UInt8.ofNat n.toNat)) s = ⟨s.data ++ (ns.map fun n => UInt8.ofNat n.toNat).toArray⟩ := by
  induction ns with
  | nil => intro s; simp
  | cons n ns ih =>
    intro s
    rw [List.foldl_cons, ih]
    apply ByteArray.ext
    simp [ByteArray.push]

theorem flat_one : ∀ ns : List Int, (ns.map (fun n => [IV.int .u8 n])).flatten = ns.map (IV.int .u8)
  | [] => rfl
  | n :: ns => by simp [flat_one ns]

theorem sim_cvbs {ro : Nat} {H : Hp} (hR : Rel K ro H w) (he : EnvOk K e a) {s d u : TypeId} {x : Operand} {x' : Opd} {rows : List (List IV)} {bs : List UInt8} (ho : o.op = .convert s d x) (hs : P.underlying s = some (.slice u)) (hu : P.underlying u = some (.int .u8)) (hd : P.underlying d = some .string) (hx : cOpd x = some x')
    (hns : ∀ t, ev e x' ≠ .str t) (hr : rowsOf H (ev e x') = some rows) (hb : bytesOf rows = some bs) : Gives P a o w K (.str ⟨bs.toArray⟩) := by
  obtain ⟨sz, A, n, cap, hv, hn, hmem⟩ := rowsOf_sim hR (he.ev hx) hr hns
  refine gives_of (s := convert s d (a.eval x)) (fun w' => by simp [execOp, ho]) ⟨_, ?_, .str _ _⟩
  rw [hv, run_convert_bytes_string w s d u A n cap hs hu hd]
  obtain ⟨hl, hi⟩ := bytesOf_some hb
  cases A with
  | none =>
    rcases hmem with h | ⟨b, q, us, h, _⟩
    · subst h
      simp at hl; subst hl
      rfl
    · cases h
  | some A =>
    -- the cells, as numbers
    have hns' : ∃ ns : List Int, ns.length = rows.length ∧ rows = ns.map (fun n => [IV.int .u8 n]) ∧ bs = ns.map (fun n => UInt8.ofNat n.toNat) := by
      clear hr hmem hn hns hv
      revert bs
      induction rows with
      | nil => intro bs hb hl hi; simp at hl; subst hl; exact ⟨[], rfl, rfl, rfl⟩
      | cons r rs ih =>
        intro bs hb hl hi
        cases bs with
        | nil => simp at hl
        | cons c cs =>
          simp only [bytesOf, Option.bind_eq_some_iff, Option.some.injEq] at hb
          obtain ⟨c', hc', cs', hcs, hh⟩ := hb
          cases hh
          obtain ⟨hl', hi'⟩ := bytesOf_some hcs
          obtain ⟨ns, l, h1, h2⟩ := ih hcs hl' hi'
          obtain ⟨n, hn, hc⟩ := hi 0 r _ rfl rfl
          exact ⟨n :: ns, by simp [l], by simp [hn, ← h1], by simp [hc, ← h2]⟩
    obtain ⟨ns, hnl, hrows, hbs⟩ := hns'
    have hload : (loadCells A n).run P w = .ok (ns.map (Value.int .u8)).toArray w := by
      rcases hmem with h | ⟨b, q, us, hA, hsz, hc⟩
      · subst h; simp at hn hnl; subst hn; subst hnl; rfl
      · cases hA
        have hfl : rows.flatten = ns.map (IV.int .u8) := by
          rw [hrows]; exact flat_one ns
        have := hc.load P
        rw [hfl, List.length_map, hnl, ← hn] at this
        rw [this]
        congr 2
        refine List.ext_getElem? fun i => ?_
        obtain ⟨hus, _, hval⟩ := hc
        rw [hfl] at hus hval
        by_cases hi : i < ns.length
        · obtain ⟨u, hu⟩ : ∃ u, us[i]? = some u := ⟨_, List.getElem?_eq_getElem (by simp at hus; omega)⟩
          have := (hval i _ u (by rw [List.getElem?_map, List.getElem?_eq_getElem hi]; rfl) hu).int_inv
          rw [hu, this, List.getElem?_map, List.getElem?_eq_getElem hi]; rfl
        · simp at hus
          rw [List.getElem?_eq_none (by omega), List.getElem?_eq_none (by simp; omega)]
    rw [run_bytesToString w A n cap ns hload, foldl_push]
    congr 2
    apply ByteArray.ext
    simp [hbs]

theorem run_max {K : Kp} : ∀ (xs : List IV) (us : List Value) (x : IV) (u : Value) (z : IV), us.length = xs.length → VR K x u → (∀ (i : Nat) (y : IV) (v : Value), xs[i]? = some y → us[i]? = some v → VR K y v) → mxF x xs = some z → ∃ v, (us.foldlM Builtin.max2 u).run P w = .ok v w ∧ VR K z v
  | [], us, x, u, z, hl, hx, _, h => by
    simp [mxF] at h; subst h
    simp at hl; subst hl
    exact ⟨u, rfl, hx⟩
  | y :: ys, us, x, u, z, hl, hx, hv, h => by
    cases us with
    | nil => simp at hl
    | cons v vs =>
      have hy := hv 0 y v rfl rfl
      cases x <;> cases y <;> simp only [mxF, reduceCtorEq] at h
      rw [hx.int_inv, hy.int_inv, List.foldlM_cons]
      obtain ⟨r, hr, hz⟩ := run_max ys vs _ _ z (by simpa using hl) (.int K _ _) (fun i y v h1 h2 => hv (i + 1) y v h1 h2) h
      exact ⟨r, by simpa [Builtin.max2] using hr, hz⟩

theorem run_min {K : Kp} : ∀ (xs : List IV) (us : List Value) (x : IV) (u : Value) (z : IV), us.length = xs.length → VR K x u → (∀ (i : Nat) (y : IV) (v : Value), xs[i]? = some y → us[i]? = some v → VR K y v) → mnF x xs = some z → ∃ v, (us.foldlM Builtin.min2 u).run P w = .ok v w ∧ VR K z v
  | [], us, x, u, z, hl, hx, _, h => by
    simp [mnF] at h; subst h
    simp at hl; subst hl
    exact ⟨u, rfl, hx⟩
  | y :: ys, us, x, u, z, hl, hx, hv, h => by
    cases us with
    | nil => simp at hl
    | cons v vs =>
      have hy := hv 0 y v rfl rfl
      cases x <;> cases y <;> simp only [mnF, reduceCtorEq] at h
      rw [hx.int_inv, hy.int_inv, List.foldlM_cons]
      obtain ⟨r, hr, hz⟩ := run_min ys vs _ _ z (by simpa using hl) (.int K _ _) (fun i y v h1 h2 => hv (i + 1) y v h1 h2) h
      exact ⟨r, by simpa [Builtin.min2] using hr, hz⟩

theorem sim_mx (he : EnvOk K e a) {xs : Array Operand} {ats : Array TypeId} {y : Opd} {ys : List Opd} {z : IV} (ho : o.op = .call { callee := .builtin .max, args := xs, argTypes := ats }) (hxs : cOpds xs.toList = some (y :: ys)) (hz : mxF (ev e y) (ys.map (ev e)) = some z) : Gives P a o w K z := by
  obtain ⟨hl, hv⟩ := evs_ok he hxs
  refine gives_of (s := Builtin.max_ ats o.type (xs.map a.eval)) (fun w' => by simp [execOp, ho, resolve, invoke, builtin]) ?_
  cases hxl : xs.toList with
  | nil => rw [hxl] at hl; simp at hl
  | cons x xs' =>
    rw [hxl] at hl hv
    obtain ⟨v, hr, hvr⟩ := run_max (P := P) (w := w) (ys.map (ev e)) (xs'.map a.eval) _ _ z (by simpa using hl) (hv 0 _ _ rfl rfl) (fun i p q h1 h2 => hv (i + 1) p q h1 h2) hz
    refine ⟨v, ?_, hvr⟩
    simpa [Builtin.max_, hxl] using hr

theorem sim_mn (he : EnvOk K e a) {xs : Array Operand} {ats : Array TypeId} {y : Opd} {ys : List Opd} {z : IV} (ho : o.op = .call { callee := .builtin .min, args := xs, argTypes := ats }) (hxs : cOpds xs.toList = some (y :: ys)) (hz : mnF (ev e y) (ys.map (ev e)) = some z) : Gives P a o w K z := by
  obtain ⟨hl, hv⟩ := evs_ok he hxs
  refine gives_of (s := Builtin.min_ ats o.type (xs.map a.eval)) (fun w' => by simp [execOp, ho, resolve, invoke, builtin]) ?_
  cases hxl : xs.toList with
  | nil => rw [hxl] at hl; simp at hl
  | cons x xs' =>
    rw [hxl] at hl hv
    obtain ⟨v, hr, hvr⟩ := run_min (P := P) (w := w) (ys.map (ev e)) (xs'.map a.eval) _ _ z (by simpa using hl) (hv 0 _ _ rfl rfl) (fun i p q h1 h2 => hv (i + 1) p q h1 h2) hz
    refine ⟨v, ?_, hvr⟩
    simpa [Builtin.min_, hxl] using hr

end Go.Vs
