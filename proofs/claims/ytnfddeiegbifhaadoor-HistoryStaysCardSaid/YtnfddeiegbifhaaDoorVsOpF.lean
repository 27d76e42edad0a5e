import Derived.Test.YtnfddeiegbifhaaDoorVsOpD
import Derived.Laws.StructEq
import Derived.Laws.BytesString
import Derived.Laws.Externs
/- '==' of structs, bytes to text, the greatest and the least, sums with carry. -/
namespace Go.Vs
open Go Go.RowKit

variable {P : Program} {K : Kp} {e : Env} {a : Act} {o : Oper} {w : World}

theorem isAg_of {t : TypeId} {d : TypeDesc} (h : P.underlying t = some d) (hn : (∀ fs, d ≠ .struct fs) ∧ ∀ n u, d ≠ .array n u) : isAg P t = some false := by
  unfold isAg
  rw [h]
  cases d <;> first | rfl | exact absurd rfl (hn.1 _) | exact absurd rfl (hn.2 _ _)

/-- Cells that stand, from a place on. -/
def At (K : Kp) (us : Array Value) (off : Nat) (cs : List IV) : Prop := off + cs.length ≤ us.size ∧ ∀ (i : Nat) (x : IV) (y : Value), cs[i]? = some x → us[off + i]? = some y → VR K x y

theorem At.split {K : Kp} {us : Array Value} {off : Nat} {cs ds : List IV} (h : At K us off (cs ++ ds)) : At K us off cs ∧ At K us (off + cs.length) ds := by
  obtain ⟨hl, hv⟩ := h
  simp only [List.length_append] at hl
  refine ⟨⟨by omega, fun i x y h1 h2 => hv i x y ?_ h2⟩, ⟨by omega, fun i x y h1 h2 => hv (cs.length + i) x y ?_ (by rw [← Nat.add_assoc]; exact h2)⟩⟩
  · rw [List.getElem?_append_left (List.getElem?_eq_some_iff.1 h1).1]; exact h1
  · rw [List.getElem?_append_right (by omega)]; simpa using h1

theorem eqL_split {ks ks' : List Nat} : ∀ {xs ys : List IV} {b : Bool}, eqL (ks ++ ks') xs ys = some b → ∃ x1 x2 y1 y2 b1 b2, xs = x1 ++ x2 ∧ ys = y1 ++ y2 ∧ x1.length = ks.length ∧ y1.length = ks.length ∧ eqL ks x1 y1 = some b1 ∧ eqL ks' x2 y2 = some b2 ∧ b = (b1 && b2) := by
  induction ks with
  | nil => intro xs ys b h; exact ⟨[], xs, [], ys, true, b, rfl, rfl, rfl, rfl, rfl, h, by simp⟩
  | cons k ks ih =>
    intro xs ys b h
    cases xs with
    | nil => cases ys <;> simp [eqL] at h
    | cons x xs =>
      cases ys with
      | nil => simp [eqL] at h
      | cons y ys =>
        simp only [List.cons_append, eqL, Option.bind_eq_some_iff, Option.some.injEq] at h
        obtain ⟨c, hc, d, hd, rfl⟩ := h
        obtain ⟨x1, x2, y1, y2, b1, b2, rfl, rfl, hx, hy, e1, e2, rfl⟩ := ih hd
        exact ⟨x :: x1, x2, y :: y1, y2, c && b1, b2, rfl, rfl, by simp [hx], by simp [hy], by simp [eqL, hc, e1], e2, by simp [Bool.and_assoc]⟩

theorem run_part_cell {t : TypeId} {us : Array Value} {off : Nat} (ha : isAg P t = some false) (h : off < us.size) : (part t us off).run P w = .ok us[off] w := by
  simp [part, run_isAgg ha, h]

/-- '==' at a type without addresses, on the parts of two values. -/
theorem run_eq_flat : ∀ (d : Nat) (t : TypeId) (ks : List Nat), flatS P d t = some ks → ∀ (D : Nat) (us vs : Array Value) (off : Nat) (xs ys : List IV) (b : Bool), eqL ks xs ys = some b → At K us off xs → At K vs off ys → (∀ n, szT P t = some n → n = ks.length) →
    (szT P t).isSome = true → ∃ p q, (part t us off).run P w = .ok p w ∧ (part t vs off).run P w = .ok q w ∧ (Op.equalIn (D + d) t p q).run P w = .ok b w := by
  intro d
  induction d with
  | zero => intro t ks h; simp [flatS] at h
  | succ d ih =>
    intro t ks h D us vs off xs ys b hb h1 h2 hsz hsome
    have scal : ∀ (k : Nat), ks = [k] → isAg P t = some false → (∀ x y b u v, eqC k x y = some b → VR K x u → VR K y v → (Op.equalIn (D + d + 1) t u v).run P w = .ok b w) →
        ∃ p q, (part t us off).run P w = .ok p w ∧ (part t vs off).run P w = .ok q w ∧ (Op.equalIn (D + (d + 1)) t p q).run P w = .ok b w := by
      intro k hk ha hs
      subst hk
      match xs, ys, hb with
      | [x], [y], hb =>
        simp only [eqL, Option.bind_eq_some_iff, Option.some.injEq] at hb
        obtain ⟨c, hc, d', hd, rfl⟩ := hb
        simp at hd; subst hd
        obtain ⟨l1, v1⟩ := h1
        obtain ⟨l2, v2⟩ := h2
        simp only [List.length_singleton] at l1 l2
        refine ⟨_, _, run_part_cell ha (by omega), run_part_cell ha (by omega), ?_⟩
        rw [Bool.and_true]
        exact hs x y c _ _ hc (v1 0 x _ rfl (by simp)) (v2 0 y _ rfl (by simp))
      | [], [], hb => simp [eqL] at hb
      | [], _ :: _, hb => simp [eqL] at hb
      | _ :: _, [], hb => simp [eqL] at hb
      | _ :: _ :: _, [_], hb => simp [eqL] at hb
      | [_], _ :: _ :: _, hb => simp [eqL] at hb
      | _ :: _ :: _, _ :: _ :: _, hb => simp [eqL] at hb
    simp only [flatS] at h
    split at h
    · rename_i hu
      simp at h
      refine scal 0 h.symm (isAg_of hu ⟨by simp, by simp⟩) (fun x y b u v hc hx hy => ?_)
      cases x <;> cases y <;> simp [eqC] at hc
      rw [hx.bool_inv, hy.bool_inv, Op.equalIn, Sem.run_bind, run_underlying hu, ← hc]; rfl
    · rename_i k hu
      simp at h
      refine scal 1 h.symm (isAg_of hu ⟨by simp, by simp⟩) (fun x y b u v hc hx hy => ?_)
      cases x <;> cases y <;> simp [eqC] at hc
      obtain ⟨rfl, hc⟩ := hc
      rw [hx.int_inv, hy.int_inv, Op.equalIn, Sem.run_bind, run_underlying hu, ← hc]
      simp
    · rename_i hu
      simp at h
      refine scal 2 h.symm (isAg_of hu ⟨by simp, by simp⟩) (fun x y b u v hc hx hy => ?_)
      cases x <;> cases y <;> simp [eqC] at hc
      rw [hx.str_inv, hy.str_inv, Op.equalIn, Sem.run_bind, run_underlying hu, ← hc]; rfl
    · rename_i fs hu
      split at h
      · rename_i hst
        obtain ⟨n, hn⟩ := Option.isSome_iff_exists.1 hsome
        have hnl := hsz n hn
        have hag : isAg P t = some true := by unfold isAg; rw [hu]
        have hxl : xs.length = ks.length ∧ ys.length = ks.length := by
          obtain ⟨x1, x2, y1, y2, b1, b2, rfl, rfl, e1, e2, _, e3, _⟩ := eqL_split (ks' := []) (by simpa using hb)
          cases x2 <;> cases y2 <;> simp [eqL] at e3
          exact ⟨by simpa using e1, by simpa using e2⟩
        -- the fields, one behind the other
        have fields : ∀ (l : List Field) (q : Nat) (js : List Nat) (as bs : List IV) (r : Bool), flatS.flatF P (flatS P d) l q = some js → eqL js as bs = some r →
            At K (us.extract off (off + n)) q as → At K (vs.extract off (off + n)) q bs → (Op.eqFields (D + d) (us.extract off (off + n)) (vs.extract off (off + n)) l).run P w = .ok r w := by
          intro l
          induction l with
          | nil =>
            intro q js as bs r hf he _ _
            simp [flatS.flatF] at hf; subst hf
            cases as <;> cases bs <;> simp [eqL] at he
            simp [Op.eqFields, he]
          | cons f l ihl =>
            intro q js as bs r hf he ha hb'
            simp only [flatS.flatF] at hf
            split at hf
            · rename_i hc
              simp only [Option.bind_eq_some_iff] at hf
              obtain ⟨k1, hk1, hf⟩ := hf
              split at hf
              · rename_i hsf
                simp only [Option.bind_eq_some_iff, Option.some.injEq] at hf
                obtain ⟨k2, hk2, rfl⟩ := hf
                obtain ⟨x1, x2, y1, y2, b1, b2, rfl, rfl, l1, l2, e1, e2, rfl⟩ := eqL_split he
                obtain ⟨ha1, ha2⟩ := ha.split
                obtain ⟨hb1, hb2⟩ := hb'.split
                obtain ⟨p, q', p1, p2, p3⟩ := ih f.type k1 hk1 D _ _ q x1 y1 b1 e1 ha1 hb1 (fun n hn => by rw [hsf] at hn; simpa using hn.symm) (by rw [hsf]; rfl)
                have := ihl (q + k1.length) k2 x2 y2 b2 hk2 e2 (by rw [← l1]; exact ha2) (by rw [← l2]; exact hb2)
                simp only [Op.eqFields, hc.2, ne_eq, not_false_eq_true, if_true, Sem.run_bind, hc.1, p1, p2, p3, Result.andThen_ok]
                cases b1
                · simp
                · simpa using this
              · cases hf
            · cases hf
        refine ⟨.agg (us.extract off (off + n)), .agg (vs.extract off (off + n)), by simp [part, run_isAgg hag, run_sizeOf' hn], by simp [part, run_isAgg hag, run_sizeOf' hn], ?_⟩
        have hfs : P.fieldsOf t = fs := by simp [Program.fieldsOf, hu]
        rw [show D + (d + 1) = D + d + 1 from rfl, run_equalIn_struct w (D + d) t _ _ (by rw [hfs]; exact hu) hst, hfs]
        refine fields fs.toList 0 ks xs ys b h hb ⟨?_, fun i x y h3 h4 => h1.2 i x y h3 ?_⟩ ⟨?_, fun i x y h3 h4 => h2.2 i x y h3 ?_⟩
        · have := h1.1; simp; omega
        · rw [Nat.zero_add, Array.getElem?_extract] at h4
          split at h4
          · exact h4
          · cases h4
        · have := h2.1; simp; omega
        · rw [Nat.zero_add, Array.getElem?_extract] at h4
          split at h4
          · exact h4
          · cases h4
      · cases h
    · cases h

theorem eqL_len {ks : List Nat} {xs ys : List IV} {b : Bool} (h : eqL ks xs ys = some b) : xs.length = ks.length ∧ ys.length = ks.length := by
  obtain ⟨x1, x2, y1, y2, b1, b2, rfl, rfl, e1, e2, _, e3, _⟩ := eqL_split (ks' := []) (by simpa using h)
  cases x2 <;> cases y2 <;> simp [eqL] at e3
  exact ⟨by simpa using e1, by simpa using e2⟩

theorem eqGuardType_agg {op : BinOp} {t : TypeId} {x y : Operand} {us vs : Array Value} (h : P.eqGuardType P.depth t = false) : (eqGuard op t x y (.agg us) (.agg vs)).run P w = .ok () w := by
  cases op <;> first | rfl | simp [eqGuard, h]

theorem sim_eqs (he : EnvOk K e a) {neg : Bool} {t u : TypeId} {x y : Operand} {x' y' : Opd} {ks : List Nat} {b : Bool} {fs : Array Field} (ho : o.op = .binOp (if neg then .neq else .eql) t x y u) (ht : P.underlying t = some (.struct fs)) (hg : P.eqGuardType P.depth t = false) (hk : flatS P 8 t = some ks)
    (hx : cOpd x = some x') (hy : cOpd y = some y') (hb : eqV ks (ev e x') (ev e y') = some b) : Gives P a o w K (.bool (neg ^^ b)) := by
  have h1 := he.ev hx
  have h2 := he.ev hy
  revert hb
  generalize ev e x' = X at h1
  generalize ev e y' = Y at h2
  intro hb
  cases X <;> cases Y <;> simp only [eqV, reduceCtorEq] at hb
  case agg.agg xs ys =>
    obtain ⟨us, hu, lu, vu⟩ := h1.agg_inv
    obtain ⟨vs, hv, lv, vv⟩ := h2.agg_inv
    obtain ⟨lx, ly⟩ := eqL_len hb
    refine ⟨_, ?_, .bool _ _⟩
    -- the struct's own fields: as the fields of a part that is all of it
    have hst : P.stoodInHeld t = false ∧ flatS.flatF P (flatS P 7) fs.toList 0 = some ks := by
      simp only [flatS, ht] at hk
      split at hk
      · exact ⟨‹_›, hk⟩
      · cases hk
    have fields : ∀ (l : List Field) (q : Nat) (js : List Nat) (as bs : List IV) (r : Bool), flatS.flatF P (flatS P 7) l q = some js → eqL js as bs = some r →
        At K us q as → At K vs q bs → (Op.eqFields 9999 us vs l).run P w = .ok r w := by
      intro l
      induction l with
      | nil =>
        intro q js as bs r hf he _ _
        simp [flatS.flatF] at hf; subst hf
        cases as <;> cases bs <;> simp [eqL] at he
        simp [Op.eqFields, he]
      | cons f l ihl =>
        intro q js as bs r hf he ha hb'
        simp only [flatS.flatF] at hf
        split at hf
        · rename_i hc
          simp only [Option.bind_eq_some_iff] at hf
          obtain ⟨k1, hk1, hf⟩ := hf
          split at hf
          · rename_i hsf
            simp only [Option.bind_eq_some_iff, Option.some.injEq] at hf
            obtain ⟨k2, hk2, rfl⟩ := hf
            obtain ⟨x1, x2, y1, y2, b1, b2, rfl, rfl, l1, l2, e1, e2, rfl⟩ := eqL_split he
            obtain ⟨ha1, ha2⟩ := ha.split
            obtain ⟨hb1, hb2⟩ := hb'.split
            obtain ⟨p, q', p1, p2, p3⟩ := run_eq_flat 7 f.type k1 hk1 9992 _ _ q x1 y1 b1 e1 ha1 hb1 (fun n hn => by rw [hsf] at hn; simpa using hn.symm) (by rw [hsf]; rfl)
            have p3' : (Op.equalIn 9999 f.type p q').run P w = .ok b1 w := p3
            have := ihl (q + k1.length) k2 x2 y2 b2 hk2 e2 (by rw [← l1]; exact ha2) (by rw [← l2]; exact hb2)
            simp only [Op.eqFields, hc.2, ne_eq, not_false_eq_true, if_true, Sem.run_bind, hc.1, p1, p2, p3', Result.andThen_ok]
            cases b1
            · simp
            · simpa using this
          · cases hf
        · cases hf
    have hfs : P.fieldsOf t = fs := by simp [Program.fieldsOf, ht]
    have heq : (Op.equal t (.agg us) (.agg vs)).run P w = .ok b w := by
      have hd : Op.equal t (.agg us) (.agg vs) = Op.equalIn (9999 + 1) t (.agg us) (.agg vs) := rfl
      rw [hd, run_equalIn_struct w 9999 t _ _ (by rw [hfs]; exact ht) hst.1, hfs]
      exact fields fs.toList 0 ks xs ys b hst.2 hb ⟨by omega, fun i x y h3 h4 => vu i x y h3 (by simpa using h4)⟩ ⟨by omega, fun i x y h3 h4 => vv i x y h3 (by simpa using h4)⟩
    have e1 : binOp .eql t (.agg us) (.agg vs) = (do pure (.bool (← Op.equal t (.agg us) (.agg vs)))) := rfl
    have e2 : binOp .neq t (.agg us) (.agg vs) = (do pure (.bool (!(← Op.equal t (.agg us) (.agg vs))))) := rfl
    cases neg <;> simp [execOp, ho, hu, hv, eqGuardType_agg hg, e1, e2, heq]

end Go.Vs
/- Bytes to text; the greatest and the least; sums with carry; room: their simulation. -/
namespace Go.Vs
open Go Go.RowKit

variable {P : Program} {K : Kp} {e : Env} {a : Act} {o : Oper} {w : World}

def prEntry : Pr → Array Value → Sem Value
  | .add64 => add64Entry
  | .ixb => Extern.BytealgIndexByte.indexByte
  | .cmps => Extern.BytealgCompare.compare
  | .noe => Extern.AbiNoEscape.same

/-- The functions without a text are what the kit says they are. -/
structure PrOk (P : Program) : Prop where
  at_ : ∀ (f : Nat) (fn : Func) (p : Pr), P.funcs[f]? = some fn → prOf fn.name = some p → fn.origin = "" → fn.body = none → Extern.findNext fn = none ∧ Extern.find fn = some (prEntry p)

/-- What a slice's rows are in memory: the cells from an address on. -/
def SliceAt (K : Kp) (w : World) (v : Value) (rows : List (List IV)) (sz : Nat) : Prop :=
  ∃ A n cap, v = .slice A n cap ∧ n = rows.length ∧ (rows = [] ∨ ∃ b q us, A = some (ad b q) ∧ (∀ row ∈ rows, row.length = sz) ∧ CellsAt K w b q rows.flatten us)

theorem flatten_get {sz : Nat} : ∀ {rows : List (List IV)}, (∀ row ∈ rows, row.length = sz) → ∀ (r c : Nat) (row : List IV) (x : IV), rows[r]? = some row → row[c]? = some x → rows.flatten[r * sz + c]? = some x
  | [], _, r, c, row, x, h, _ => by simp at h
  | y :: ys, hl, 0, c, row, x, h, hx => by
    simp at h; subst h
    simp only [Nat.zero_mul, Nat.zero_add, List.flatten_cons]
    rw [List.getElem?_append_left (List.getElem?_eq_some_iff.1 hx).1]; exact hx
  | y :: ys, hl, r + 1, c, row, x, h, hx => by
    simp at h
    have h0 := hl y (by simp)
    rw [List.flatten_cons, List.getElem?_append_right (by rw [h0, Nat.add_mul]; omega), h0, show (r + 1) * sz + c - sz = r * sz + c by rw [Nat.add_mul]; omega]
    exact flatten_get (fun row h => hl row (by simp [h])) r c row x h hx

theorem flatten_len {α : Type} {sz : Nat} : ∀ {rows : List (List α)}, (∀ row ∈ rows, row.length = sz) → rows.flatten.length = rows.length * sz
  | [], _ => by simp
  | y :: ys, hl => by
    rw [List.flatten_cons, List.length_append, hl y (by simp), flatten_len (fun row h => hl row (by simp [h])), List.length_cons, Nat.add_mul]; omega

theorem flatten_at {sz : Nat} {rows : List (List IV)} (hl : ∀ row ∈ rows, row.length = sz) {i : Nat} {x : IV} (h : rows.flatten[i]? = some x) : ∃ row, 0 < sz ∧ rows[i / sz]? = some row ∧ row[i % sz]? = some x := by
  have hi := (List.getElem?_eq_some_iff.1 h).1
  rw [flatten_len hl] at hi
  have hs : 0 < sz := by
    rcases Nat.eq_zero_or_pos sz with h0 | h0
    · subst h0; simp at hi
    · exact h0
  have hr : i / sz < rows.length := (Nat.div_lt_iff_lt_mul hs).2 hi
  have hrow := List.getElem?_eq_getElem hr
  have hlen := hl _ (List.getElem_mem hr)
  have hc : i % sz < rows[i / sz].length := by rw [hlen]; exact Nat.mod_lt _ hs
  refine ⟨_, hs, hrow, ?_⟩
  have := flatten_get hl (i / sz) (i % sz) _ _ hrow (List.getElem?_eq_getElem hc)
  rw [show i / sz * sz + i % sz = i by have := Nat.div_add_mod i sz; rw [Nat.mul_comm]; exact this, h] at this
  rw [this]
  exact List.getElem?_eq_getElem hc

theorem Claimed.cells {ro : Nat} {H : Hp} (hR : Rel K ro H w) {rows : List (List IV)} {b q sz : Nat} {us : Nat → Nat → Value} (hc : Claimed K rows b q sz us) : ∃ vs, CellsAt K w b q rows.flatten vs := by
  have hl : ∀ row ∈ rows, row.length = sz := fun row h => by
    obtain ⟨i, hi, rfl⟩ := List.mem_iff_getElem.1 h
    exact hc.len i _ (List.getElem?_eq_getElem hi)
  refine ⟨_, CellsAt.of (fun i => us (i / sz) (i % sz)) (fun i hi => ?_) (fun i x hx => ?_)⟩
  · obtain ⟨x, hx⟩ : ∃ x, rows.flatten[i]? = some x := ⟨_, List.getElem?_eq_getElem hi⟩
    obtain ⟨row, hs, hr, hx⟩ := flatten_at hl hx
    have := hR.claim _ _ _ (hc.cl _ row _ hr (Nat.mod_lt i hs))
    rw [show q + i / sz * sz + i % sz = q + i by have := Nat.div_add_mod i sz; rw [Nat.mul_comm (i / sz)]; omega] at this
    exact this
  · obtain ⟨row, hs, hr, hx⟩ := flatten_at hl hx
    exact (hc.val _ row _ x hr hx).mono K.bare_le

theorem blk_cells {ro : Nat} {H : Hp} (hR : Rel K ro H w) {b : Nat} {L : Loc} {B : Bk} (hL : K.ρ b = some L) (hB : H[b]? = some B) {off len : Nat} :
    (∀ row ∈ (B.rows.drop off).take len, row.length = L.sz) ∧ ∃ us, CellsAt K w L.blk (L.org + off * L.sz) ((B.rows.drop off).take len).flatten us := by
  obtain ⟨B', hB', ok⟩ := hR.blk b L hL
  obtain rfl : B = B' := by rw [hB] at hB'; exact Option.some.inj hB'
  have hget : ∀ r row, ((B.rows.drop off).take len)[r]? = some row → B.rows[off + r]? = some row := by
    intro r row hr
    rw [List.getElem?_take] at hr
    split at hr
    · rw [List.getElem?_drop] at hr; exact hr
    · cases hr
  have hl : ∀ row ∈ (B.rows.drop off).take len, row.length = L.sz := fun row h => by
    obtain ⟨i, hi, rfl⟩ := List.mem_iff_getElem.1 h
    exact ok.len _ _ (hget i _ (List.getElem?_eq_getElem hi))
  refine ⟨hl, ?_⟩
  have key : ∀ i, i < ((B.rows.drop off).take len).flatten.length → ∃ u, w.cell? (ad L.blk (L.org + off * L.sz + i)) = some u ∧ u.oneCell' = true ∧ ∀ x, ((B.rows.drop off).take len).flatten[i]? = some x → VR K x u := by
    intro i hi
    obtain ⟨x, hx⟩ : ∃ x, ((B.rows.drop off).take len).flatten[i]? = some x := ⟨_, List.getElem?_eq_getElem hi⟩
    obtain ⟨row, hs, hr, hx'⟩ := flatten_at hl hx
    have hr' := hget _ _ hr
    obtain ⟨u, hu, hv⟩ := ok.cell _ row _ x hr' hx'
    have hlt := (List.getElem?_eq_some_iff.1 hr').1
    have hm : (off + i / L.sz) * L.sz + i % L.sz = off * L.sz + i := by have := Nat.div_add_mod i L.sz; rw [Nat.add_mul, Nat.mul_comm (i / L.sz)]; omega
    obtain ⟨u', hu', h1⟩ := ok.there (off * L.sz + i) (by
      have := ok.fit
      have h2 := Nat.mul_le_mul_right L.sz (Nat.succ_le_of_lt hlt)
      have h3 : i % L.sz < L.sz := Nat.mod_lt _ hs
      simp only [Nat.succ_eq_add_one, Nat.add_mul, Nat.one_mul] at h2 hm ⊢
      omega)
    rw [show L.org + (off + i / L.sz) * L.sz + i % L.sz = L.org + (off * L.sz + i) by omega] at hu
    rw [hu] at hu'; cases hu'
    refine ⟨u, by rw [Nat.add_assoc]; exact hu, h1, fun y hy => ?_⟩
    rw [hx] at hy; cases hy; exact hv
  classical
  refine ⟨_, CellsAt.of (fun i => if h : i < _ then (key i h).choose else undef) (fun i hi => ?_) (fun i x hx => ?_)⟩
  · simp only [hi, dif_pos]
    exact ⟨(key i hi).choose_spec.1, (key i hi).choose_spec.2.1⟩
  · have hi := (List.getElem?_eq_some_iff.1 hx).1
    simp only [hi, dif_pos]
    exact (key i hi).choose_spec.2.2 x hx

/-- The rows of an ideal slice lie in memory. -/
theorem rowsOf_sim {ro : Nat} {H : Hp} (hR : Rel K ro H w) {x : IV} {v : Value} (hv : VR K x v) {rows : List (List IV)} (h : rowsOf H x = some rows) (hns : ∀ s, x ≠ .str s) : ∃ sz, SliceAt K w v rows sz := by
  cases x <;> simp only [rowsOf, reduceCtorEq, Option.some.injEq] at h
  case str s => exact absurd rfl (hns s)
  case nsl => subst h; exact ⟨0, none, 0, 0, hv.nsl_inv, rfl, .inl rfl⟩
  case imm rows' full =>
    subst h
    obtain ⟨A, cap, b, q, sz, us, hv, hA, hcap, hf, hc⟩ := hv.imm_inv
    refine ⟨sz, some A, _, cap, hv, rfl, ?_⟩
    by_cases hne : rows' = []
    · exact .inl hne
    · obtain ⟨vs, hcell⟩ := hc.cells hR
      refine .inr ⟨b, q, vs, by rw [hA hne], fun row h => ?_, hcell⟩
      obtain ⟨i, hi, rfl⟩ := List.mem_iff_getElem.1 h
      exact hc.len i _ (List.getElem?_eq_getElem hi)
  case arr b g off len cap ex =>
    simp only [Option.bind_eq_some_iff] at h
    obtain ⟨B, hB, h⟩ := h
    split at h
    · rename_i hle
      simp at h; subst h
      obtain ⟨hB, hgen⟩ := blkAt_some hB
      obtain ⟨L, hL, hg, hcur, _⟩ := hv.arr_inv
      obtain ⟨B', hB', ok⟩ := hR.blk b L hL
      obtain rfl : B = B' := by rw [hB] at hB'; exact Option.some.inj hB'
      obtain ⟨A, cap', hv, hA, hcc, hlc, hex, hext⟩ := hcur (by rw [← ok.gen]; exact hgen)
      obtain ⟨hl, us, hc⟩ := blk_cells (off := off) (len := len) hR hL hB
      refine ⟨L.sz, some A, len, cap', hv, by simp; omega, ?_⟩
      by_cases hlen : len = 0
      · left; subst hlen; simp
      · exact .inr ⟨L.blk, L.org + off * L.sz, us, by rw [hA (by omega)], hl, hc⟩
    · cases h

theorem bytesOf_some : ∀ {rows : List (List IV)} {bs : List UInt8}, bytesOf rows = some bs → bs.length = rows.length ∧ ∀ (i : Nat) (row : List IV) (c : UInt8), rows[i]? = some row → bs[i]? = some c → ∃ n, row = [.int .u8 n] ∧ c = UInt8.ofNat n.toNat
  | [], bs, h => by simp [bytesOf] at h; subst h; exact ⟨rfl, fun i row c h => by simp at h⟩
  | r :: rs, bs, h => by
    simp only [bytesOf, Option.bind_eq_some_iff, Option.some.injEq] at h
    obtain ⟨c, hc, cs, hcs, rfl⟩ := h
    obtain ⟨hl, hi⟩ := bytesOf_some hcs
    refine ⟨by simp [hl], fun i row d h1 h2 => ?_⟩
    cases i with
    | zero =>
      simp at h1 h2; subst h1 h2
      unfold byteOfRow at hc
      split at hc
      · simp at hc; exact ⟨_, rfl, hc.symm⟩
      · cases hc
    | succ i => simp at h1 h2; exact hi i row d h1 h2

theorem foldl_push (ns : List Int) : ∀ (s : ByteArray), ns.foldl (fun r n => r.push (UInt8.ofNat n.toNat)) s = ⟨s.data ++ (ns.map fun n => UInt8.ofNat n.toNat).toArray⟩ := by
  induction ns with
  | nil => intro s; simp
  | cons n ns ih =>
    intro s
    rw [List.foldl_cons, ih]
    apply ByteArray.ext
    simp [ByteArray.push]

theorem flat_one : ∀ ns : List Int, (ns.map (fun n => [IV.int .u8 n])).flatten = ns.map (IV.int .u8)
  | [] => rfl
  | n :: ns => by simp [flat_one ns]

theorem sim_cvbs {ro : Nat} {H : Hp} (hR : Rel K ro H w) (he : EnvOk K e a) {s d u : TypeId} {x : Operand} {x' : Opd} {rows : List (List IV)} {bs : List UInt8} (ho : o.op = .convert s d x) (hs : P.underlying s = some (.slice u)) (hu : P.underlying u = some (.int .u8)) (hd : P.underlying d = some .string) (hx : cOpd x = some x')
    (hns : ∀ t, ev e x' ≠ .str t) (hr : rowsOf H (ev e x') = some rows) (hb : bytesOf rows = some bs) : Gives P a o w K (.str ⟨bs.toArray⟩) := by
  obtain ⟨sz, A, n, cap, hv, hn, hmem⟩ := rowsOf_sim hR (he.ev hx) hr hns
  refine gives_of (s := convert s d (a.eval x)) (fun w' => by simp [execOp, ho]) ⟨_, ?_, .str _ _⟩
  rw [hv, run_convert_bytes_string w s d u A n cap hs hu hd]
  obtain ⟨hl, hi⟩ := bytesOf_some hb
  cases A with
  | none =>
    rcases hmem with h | ⟨b, q, us, h, _⟩
    · subst h
      simp at hl; subst hl
      rfl
    · cases h
  | some A =>
    -- the cells, as numbers
    have hns' : ∃ ns : List Int, ns.length = rows.length ∧ rows = ns.map (fun n => [IV.int .u8 n]) ∧ bs = ns.map (fun n => UInt8.ofNat n.toNat) := by
      clear hr hmem hn hns hv
      revert bs
      induction rows with
      | nil => intro bs hb hl hi; simp at hl; subst hl; exact ⟨[], rfl, rfl, rfl⟩
      | cons r rs ih =>
        intro bs hb hl hi
        cases bs with
        | nil => simp at hl
        | cons c cs =>
          simp only [bytesOf, Option.bind_eq_some_iff, Option.some.injEq] at hb
          obtain ⟨c', hc', cs', hcs, hh⟩ := hb
          cases hh
          obtain ⟨hl', hi'⟩ := bytesOf_some hcs
          obtain ⟨ns, l, h1, h2⟩ := ih hcs hl' hi'
          obtain ⟨n, hn, hc⟩ := hi 0 r _ rfl rfl
          exact ⟨n :: ns, by simp [l], by simp [hn, ← h1], by simp [hc, ← h2]⟩
    obtain ⟨ns, hnl, hrows, hbs⟩ := hns'
    have hload : (loadCells A n).run P w = .ok (ns.map (Value.int .u8)).toArray w := by
      rcases hmem with h | ⟨b, q, us, hA, hsz, hc⟩
      · subst h; simp at hn hnl; subst hn; subst hnl; rfl
      · cases hA
        have hfl : rows.flatten = ns.map (IV.int .u8) := by
          rw [hrows]; exact flat_one ns
        have := hc.load P
        rw [hfl, List.length_map, hnl, ← hn] at this
        rw [this]
        congr 2
        refine List.ext_getElem? fun i => ?_
        obtain ⟨hus, _, hval⟩ := hc
        rw [hfl] at hus hval
        by_cases hi : i < ns.length
        · obtain ⟨u, hu⟩ : ∃ u, us[i]? = some u := ⟨_, List.getElem?_eq_getElem (by simp at hus; omega)⟩
          have := (hval i _ u (by rw [List.getElem?_map, List.getElem?_eq_getElem hi]; rfl) hu).int_inv
          rw [hu, this, List.getElem?_map, List.getElem?_eq_getElem hi]; rfl
        · simp at hus
          rw [List.getElem?_eq_none (by omega), List.getElem?_eq_none (by simp; omega)]
    rw [run_bytesToString w A n cap ns hload, foldl_push]
    congr 2
    apply ByteArray.ext
    simp [hbs]

theorem run_max {K : Kp} : ∀ (xs : List IV) (us : List Value) (x : IV) (u : Value) (z : IV), us.length = xs.length → VR K x u → (∀ (i : Nat) (y : IV) (v : Value), xs[i]? = some y → us[i]? = some v → VR K y v) → mxF x xs = some z → ∃ v, (us.foldlM Builtin.max2 u).run P w = .ok v w ∧ VR K z v
  | [], us, x, u, z, hl, hx, _, h => by
    simp [mxF] at h; subst h
    simp at hl; subst hl
    exact ⟨u, rfl, hx⟩
  | y :: ys, us, x, u, z, hl, hx, hv, h => by
    cases us with
    | nil => simp at hl
    | cons v vs =>
      have hy := hv 0 y v rfl rfl
      cases x <;> cases y <;> simp only [mxF, reduceCtorEq] at h
      rw [hx.int_inv, hy.int_inv, List.foldlM_cons]
      obtain ⟨r, hr, hz⟩ := run_max ys vs _ _ z (by simpa using hl) (.int K _ _) (fun i y v h1 h2 => hv (i + 1) y v h1 h2) h
      exact ⟨r, by simpa [Builtin.max2] using hr, hz⟩

theorem run_min {K : Kp} : ∀ (xs : List IV) (us : List Value) (x : IV) (u : Value) (z : IV), us.length = xs.length → VR K x u → (∀ (i : Nat) (y : IV) (v : Value), xs[i]? = some y → us[i]? = some v → VR K y v) → mnF x xs = some z → ∃ v, (us.foldlM Builtin.min2 u).run P w = .ok v w ∧ VR K z v
  | [], us, x, u, z, hl, hx, _, h => by
    simp [mnF] at h; subst h
    simp at hl; subst hl
    exact ⟨u, rfl, hx⟩
  | y :: ys, us, x, u, z, hl, hx, hv, h => by
    cases us with
    | nil => simp at hl
    | cons v vs =>
      have hy := hv 0 y v rfl rfl
      cases x <;> cases y <;> simp only [mnF, reduceCtorEq] at h
      rw [hx.int_inv, hy.int_inv, List.foldlM_cons]
      obtain ⟨r, hr, hz⟩ := run_min ys vs _ _ z (by simpa using hl) (.int K _ _) (fun i y v h1 h2 => hv (i + 1) y v h1 h2) h
      exact ⟨r, by simpa [Builtin.min2] using hr, hz⟩

theorem sim_mx (he : EnvOk K e a) {xs : Array Operand} {ats : Array TypeId} {y : Opd} {ys : List Opd} {z : IV} (ho : o.op = .call { callee := .builtin .max, args := xs, argTypes := ats }) (hxs : cOpds xs.toList = some (y :: ys)) (hz : mxF (ev e y) (ys.map (ev e)) = some z) : Gives P a o w K z := by
  obtain ⟨hl, hv⟩ := evs_ok he hxs
  refine gives_of (s := Builtin.max_ ats o.type (xs.map a.eval)) (fun w' => by simp [execOp, ho, resolve, invoke, builtin]) ?_
  cases hxl : xs.toList with
  | nil => rw [hxl] at hl; simp at hl
  | cons x xs' =>
    rw [hxl] at hl hv
    obtain ⟨v, hr, hvr⟩ := run_max (P := P) (w := w) (ys.map (ev e)) (xs'.map a.eval) _ _ z (by simpa using hl) (hv 0 _ _ rfl rfl) (fun i p q h1 h2 => hv (i + 1) p q h1 h2) hz
    refine ⟨v, ?_, hvr⟩
    simpa [Builtin.max_, hxl] using hr

theorem sim_mn (he : EnvOk K e a) {xs : Array Operand} {ats : Array TypeId} {y : Opd} {ys : List Opd} {z : IV} (ho : o.op = .call { callee := .builtin .min, args := xs, argTypes := ats }) (hxs : cOpds xs.toList = some (y :: ys)) (hz : mnF (ev e y) (ys.map (ev e)) = some z) : Gives P a o w K z := by
  obtain ⟨hl, hv⟩ := evs_ok he hxs
  refine gives_of (s := Builtin.min_ ats o.type (xs.map a.eval)) (fun w' => by simp [execOp, ho, resolve, invoke, builtin]) ?_
  cases hxl : xs.toList with
  | nil => rw [hxl] at hl; simp at hl
  | cons x xs' =>
    rw [hxl] at hl hv
    obtain ⟨v, hr, hvr⟩ := run_min (P := P) (w := w) (ys.map (ev e)) (xs'.map a.eval) _ _ z (by simpa using hl) (hv 0 _ _ rfl rfl) (fun i p q h1 h2 => hv (i + 1) p q h1 h2) hz
    refine ⟨v, ?_, hvr⟩
    simpa [Builtin.min_, hxl] using hr

end Go.Vs
