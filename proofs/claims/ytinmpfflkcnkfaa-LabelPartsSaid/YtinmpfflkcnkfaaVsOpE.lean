/- '==' of structs, bytes to text, the greatest and the least, sums with carry. -/
import Derived.Test.YtinmpfflkcnkfaaVsOpD
import Derived.Laws.StructEq
import Derived.Laws.BytesString
import Derived.Laws.Externs
namespace Go.Vs
open Go Go.RowKit

variable {P : Program} {K : Kp} {e : Env} {a : Act} {o : Oper} {w : World}

theorem isAg_of {t : TypeId} {d : TypeDesc} (h : P.underlying t = some d) (hn : (∀ fs, d ≠ .struct fs) ∧ ∀ n u, d ≠ .array n u) : isAg P t = some false := by
  unfold isAg
  rw [h]
  cases d <;> first | rfl | exact absurd rfl (hn.1 _) | exact absurd rfl (hn.2 _ _)

/-- Cells that stand, from a place on. -/
def At (K : Kp) (us : Array Value) (off : Nat) (cs : List IV) : Prop := off + cs.length ≤ us.size ∧ ∀ (i : Nat) (x : IV) (y : Value), cs[i]? = some x → us[off + i]? = some y → VR K x y

theorem At.split {K : Kp} {us : Array Value} {off : Nat} {cs ds : List IV} (h : At K us off (cs ++ ds)) : At K us off cs ∧ At K us (off + cs.length) ds := by
  obtain ⟨hl, hv⟩ := h
  simp only [List.length_append] at hl
  refine ⟨⟨by omega, fun i x y h1 h2 => hv i x y ?_ h2⟩, ⟨by omega, fun i x y h1 h2 => hv (cs.length + i) x y ?_ (by rw [← Nat.add_assoc]; exact h2)⟩⟩
  · rw [List.getElem?_append_left (List.getElem?_eq_some_iff.1 h1).1]; exact h1
  · rw [List.getElem?_append_right (by omega)]; simpa using h1

theorem eqL_split {ks ks' : List Nat} : ∀ {xs ys : List IV} {b : Bool}, eqL (ks ++ ks') xs ys = some b → ∃ x1 x2 y1 y2 b1 b2, xs = x1 ++ x2 ∧ ys = y1 ++ y2 ∧ x1.length = ks.length ∧ y1.length = ks.length ∧ eqL ks x1 y1 = some b1 ∧ eqL ks' x2 y2 = some b2 ∧ b = (b1 && b2) := by
  induction ks with
  | nil => intro xs ys b h; exact ⟨[], xs, [], ys, true, b, rfl, rfl, rfl, rfl, rfl, h, by simp⟩
  | cons k ks ih =>
    intro xs ys b h
    cases xs with
    | nil => cases ys <;> simp [eqL] at h
    | cons x xs =>
      cases ys with
      | nil => simp [eqL] at h
      | cons y ys =>
        simp only [List.cons_append, eqL, Option.bind_eq_some_iff, Option.some.injEq] at h
        obtain ⟨c, hc, d, hd, rfl⟩ := h
        obtain ⟨x1, x2, y1, y2, b1, b2, rfl, rfl, hx, hy, e1, e2, rfl⟩ := ih hd
        exact ⟨x :: x1, x2, y :: y1, y2, c && b1, b2, rfl, rfl, by simp [hx], by simp [hy], by simp [eqL, hc, e1], e2, by simp [Bool.and_assoc]⟩

theorem run_part_cell {t : TypeId} {us : Array Value} {off : Nat} (ha : isAg P t = some false) (h : off < us.size) : (part t us off).run P w = .ok us[off] w := by
  simp [part, run_isAgg ha, h]

/-- '==' at a type without addresses, on the parts of two values. -/
theorem run_eq_flat : ∀ (d : Nat) (t : TypeId) (ks : List Nat), flatS P d t = some ks → ∀ (D : Nat) (us vs : Array Value) (off : Nat) (xs ys : List IV) (b : Bool), eqL ks xs ys = some b → At K us off xs → At K vs off ys → (∀ n, szT P t = some n → n = ks.length) →
    (szT P t).isSome = true → ∃ p q, (part t us off).run P w = .ok p w ∧ (part t vs off).run P w = .ok q w ∧ (Op.equalIn (D + d) t p q).run P w = .ok b w := by
  intro d
  induction d with
  | zero => intro t ks h; simp [flatS] at h
  | succ d ih =>
    intro t ks h D us vs off xs ys b hb h1 h2 hsz hsome
    have scal : ∀ (k : Nat), ks = [k] → isAg P t = some false → (∀ x y b u v, eqC k x y = some b → VR K x u → VR K y v → (Op.equalIn (D + d + 1) t u v).run P w = .ok b w) →
        ∃ p q, (part t us off).run P w = .ok p w ∧ (part t vs off).run P w = .ok q w ∧ (Op.equalIn (D + (d + 1)) t p q).run P w = .ok b w := by
      intro k hk ha hs
      subst hk
      match xs, ys, hb with
      | [x], [y], hb =>
        simp only [eqL, Option.bind_eq_some_iff, Option.some.injEq] at hb
        obtain ⟨c, hc, d', hd, rfl⟩ := hb
        simp at hd; subst hd
        obtain ⟨l1, v1⟩ := h1
        obtain ⟨l2, v2⟩ := h2
        simp only [List.length_singleton] at l1 l2
        refine ⟨_, _, run_part_cell ha (by omega), run_part_cell ha (by omega), ?_⟩
        rw [Bool.and_true]
        exact hs x y c _ _ hc (v1 0 x _ rfl (by simp)) (v2 0 y _ rfl (by simp))
      | [], [], hb => simp [eqL] at hb
      | [], _ :: _, hb => simp [eqL] at hb
      | _ :: _, [], hb => simp [eqL] at hb
      | _ :: _ :: _, [_], hb => simp [eqL] at hb
      | [_], _ :: _ :: _, hb => simp [eqL] at hb
      | _ :: _ :: _, _ :: _ :: _, hb => simp [eqL] at hb
    simp only [flatS] at h
    split at h
    · rename_i hu
      simp at h
      refine scal 0 h.symm (isAg_of hu ⟨by simp, by simp⟩) (fun x y b u v hc hx hy => ?_)
      cases x <;> cases y <;> simp [eqC] at hc
      rw [hx.bool_inv, hy.bool_inv, Op.equalIn, Sem.run_bind, run_underlying hu, ← hc]; rfl
    · rename_i k hu
      simp at h
      refine scal 1 h.symm (isAg_of hu ⟨by simp, by simp⟩) (fun x y b u v hc hx hy => ?_)
      cases x <;> cases y <;> simp [eqC] at hc
      obtain ⟨rfl, hc⟩ := hc
      rw [hx.int_inv, hy.int_inv, Op.equalIn, Sem.run_bind, run_underlying hu, ← hc]
      simp
    · rename_i hu
      simp at h
      refine scal 2 h.symm (isAg_of hu ⟨by simp, by simp⟩) (fun x y b u v hc hx hy => ?_)
      cases x <;> cases y <;> simp [eqC] at hc
      rw [hx.str_inv, hy.str_inv, Op.equalIn, Sem.run_bind, run_underlying hu, ← hc]; rfl
    · rename_i fs hu
      split at h
      · rename_i hst
        obtain ⟨n, hn⟩ := Option.isSome_iff_exists.1 hsome
        have hnl := hsz n hn
        have hag : isAg P t = some true := by unfold isAg; rw [hu]
        have hxl : xs.length = ks.length ∧ ys.length = ks.length := by
          obtain ⟨x1, x2, y1, y2, b1, b2, rfl, rfl, e1, e2, _, e3, _⟩ := eqL_split (ks' := []) (by simpa using hb)
          cases x2 <;> cases y2 <;> simp [eqL] at e3
          exact ⟨by simpa using e1, by simpa using e2⟩
        -- the fields, one behind the other
        have fields : ∀ (l : List Field) (q : Nat) (js : List Nat) (as bs : List IV) (r : Bool), flatS.flatF P (flatS P d) l q = some js → eqL js as bs = some r →
            At K (us.extract off (off + n)) q as → At K (vs.extract off (off + n)) q bs → (Op.eqFields (D + d) (us.extract off (off + n)) (vs.extract off (off + n)) l).run P w = .ok r w := by
          intro l
          induction l with
          | nil =>
            intro q js as bs r hf he _ _
            simp [flatS.flatF] at hf; subst hf
            cases as <;> cases bs <;> simp [eqL] at he
            simp [Op.eqFields, he]
          | cons f l ihl =>
            intro q js as bs r hf he ha hb'
            simp only [flatS.flatF] at hf
            split at hf
            · rename_i hc
              simp only [Option.bind_eq_some_iff] at hf
              obtain ⟨k1, hk1, hf⟩ := hf
              split at hf
              · rename_i hsf
                simp only [Option.bind_eq_some_iff, Option.some.injEq] at hf
                obtain ⟨k2, hk2, rfl⟩ := hf
                obtain ⟨x1, x2, y1, y2, b1, b2, rfl, rfl, l1, l2, e1, e2, rfl⟩ := eqL_split he
                obtain ⟨ha1, ha2⟩ := ha.split
                obtain ⟨hb1, hb2⟩ := hb'.split
                obtain ⟨p, q', p1, p2, p3⟩ := ih f.type k1 hk1 D _ _ q x1 y1 b1 e1 ha1 hb1 (fun n hn => by rw [hsf] at hn; simpa using hn.symm) (by rw [hsf]; rfl)
                have := ihl (q + k1.length) k2 x2 y2 b2 hk2 e2 (by rw [← l1]; exact ha2) (by rw [← l2]; exact hb2)
                simp only [Op.eqFields, hc.2, ne_eq, not_false_eq_true, if_true, Sem.run_bind, hc.1, p1, p2, p3, Result.andThen_ok]
                cases b1
                · simp
                · simpa using this
              · cases hf
            · cases hf
        refine ⟨.agg (us.extract off (off + n)), .agg (vs.extract off (off + n)), by simp [part, run_isAgg hag, run_sizeOf' hn], by simp [part, run_isAgg hag, run_sizeOf' hn], ?_⟩
        have hfs : P.fieldsOf t = fs := by simp [Program.fieldsOf, hu]
        rw [show D + (d + 1) = D + d + 1 from rfl, run_equalIn_struct w (D + d) t _ _ (by rw [hfs]; exact hu) hst, hfs]
        refine fields fs.toList 0 ks xs ys b h hb ⟨?_, fun i x y h3 h4 => h1.2 i x y h3 ?_⟩ ⟨?_, fun i x y h3 h4 => h2.2 i x y h3 ?_⟩
        · have := h1.1; simp; omega
        · rw [Nat.zero_add, Array.getElem?_extract] at h4
          split at h4
          · exact h4
          · cases h4
        · have := h2.1; simp; omega
        · rw [Nat.zero_add, Array.getElem?_extract] at h4
          split at h4
          · exact h4
          · cases h4
      · cases h
    · cases h

theorem eqL_len {ks : List Nat} {xs ys : List IV} {b : Bool} (h : eqL ks xs ys = some b) : xs.length = ks.length ∧ ys.length = ks.length := by
  obtain ⟨x1, x2, y1, y2, b1, b2, rfl, rfl, e1, e2, _, e3, _⟩ := eqL_split (ks' := []) (by simpa using h)
  cases x2 <;> cases y2 <;> simp [eqL] at e3
  exact ⟨by simpa using e1, by simpa using e2⟩

theorem eqGuardType_agg {op : BinOp} {t : TypeId} {x y : Operand} {us vs : Array Value} (h : P.eqGuardType P.depth t = false) : (eqGuard op t x y (.agg us) (.agg vs)).run P w = .ok () w := by
  cases op <;> first | rfl | simp [eqGuard, h]

theorem sim_eqs (he : EnvOk K e a) {neg : Bool} {t u : TypeId} {x y : Operand} {x' y' : Opd} {ks : List Nat} {b : Bool} {fs : Array Field} (ho : o.op = .binOp (if neg then .neq else .eql) t x y u) (ht : P.underlying t = some (.struct fs)) (hg : P.eqGuardType P.depth t = false) (hk : flatS P 8 t = some ks)
    (hx : cOpd x = some x') (hy : cOpd y = some y') (hb : eqV ks (ev e x') (ev e y') = some b) : Gives P a o w K (.bool (neg ^^ b)) := by
  have h1 := he.ev hx
  have h2 := he.ev hy
  revert hb
  generalize ev e x' = X at h1
  generalize ev e y' = Y at h2
  intro hb
  cases X <;> cases Y <;> simp only [eqV, reduceCtorEq] at hb
  case agg.agg xs ys =>
    obtain ⟨us, hu, lu, vu⟩ := h1.agg_inv
    obtain ⟨vs, hv, lv, vv⟩ := h2.agg_inv
    obtain ⟨lx, ly⟩ := eqL_len hb
    refine ⟨_, ?_, .bool _ _⟩
    -- the struct's own fields: as the fields of a part that is all of it
    have hst : P.stoodInHeld t = false ∧ flatS.flatF P (flatS P 7) fs.toList 0 = some ks := by
      simp only [flatS, ht] at hk
      split at hk
      · exact ⟨‹_›, hk⟩
      · cases hk
    have fields : ∀ (l : List Field) (q : Nat) (js : List Nat) (as bs : List IV) (r : Bool), flatS.flatF P (flatS P 7) l q = some js → eqL js as bs = some r →
        At K us q as → At K vs q bs → (Op.eqFields 9999 us vs l).run P w = .ok r w := by
      intro l
      induction l with
      | nil =>
        intro q js as bs r hf he _ _
        simp [flatS.flatF] at hf; subst hf
        cases as <;> cases bs <;> simp [eqL] at he
        simp [Op.eqFields, he]
      | cons f l ihl =>
        intro q js as bs r hf he ha hb'
        simp only [flatS.flatF] at hf
        split at hf
        · rename_i hc
          simp only [Option.bind_eq_some_iff] at hf
          obtain ⟨k1, hk1, hf⟩ := hf
          split at hf
          · rename_i hsf
            simp only [Option.bind_eq_some_iff, Option.some.injEq] at hf
            obtain ⟨k2, hk2, rfl⟩ := hf
            obtain ⟨x1, x2, y1, y2, b1, b2, rfl, rfl, l1, l2, e1, e2, rfl⟩ := eqL_split he
            obtain ⟨ha1, ha2⟩ := ha.split
            obtain ⟨hb1, hb2⟩ := hb'.split
            obtain ⟨p, q', p1, p2, p3⟩ := run_eq_flat 7 f.type k1 hk1 9992 _ _ q x1 y1 b1 e1 ha1 hb1 (fun n hn => by rw [hsf] at hn; simpa using hn.symm) (by rw [hsf]; rfl)
            have p3' : (Op.equalIn 9999 f.type p q').run P w = .ok b1 w := p3
            have := ihl (q + k1.length) k2 x2 y2 b2 hk2 e2 (by rw [← l1]; exact ha2) (by rw [← l2]; exact hb2)
            simp only [Op.eqFields, hc.2, ne_eq, not_false_eq_true, if_true, Sem.run_bind, hc.1, p1, p2, p3', Result.andThen_ok]
            cases b1
            · simp
            · simpa using this
          · cases hf
        · cases hf
    have hfs : P.fieldsOf t = fs := by simp [Program.fieldsOf, ht]
    have heq : (Op.equal t (.agg us) (.agg vs)).run P w = .ok b w := by
      have hd : Op.equal t (.agg us) (.agg vs) = Op.equalIn (9999 + 1) t (.agg us) (.agg vs) := rfl
      rw [hd, run_equalIn_struct w 9999 t _ _ (by rw [hfs]; exact ht) hst.1, hfs]
      exact fields fs.toList 0 ks xs ys b hst.2 hb ⟨by omega, fun i x y h3 h4 => vu i x y h3 (by simpa using h4)⟩ ⟨by omega, fun i x y h3 h4 => vv i x y h3 (by simpa using h4)⟩
    have e1 : binOp .eql t (.agg us) (.agg vs) = (do pure (.bool (← Op.equal t (.agg us) (.agg vs)))) := rfl
    have e2 : binOp .neq t (.agg us) (.agg vs) = (do pure (.bool (!(← Op.equal t (.agg us) (.agg vs))))) := rfl
    cases neg <;> simp [execOp, ho, hu, hv, eqGuardType_agg hg, e1, e2, heq]

end Go.Vs
