/- Operations on slices, texts, rows: their simulation. -/
import Derived.Test.YtinmpfflkcnkfaaVsOpB
namespace Go.Vs
open Go Go.RowKit

variable {P : Program} {K : Kp} {e : Env} {a : Act} {o : Oper} {w : World}

theorem szOk_len {sz : Nat} {rows : List (List IV)} (h : szOk sz rows = true) {n : Nat} (hl : ∀ (r : Nat) (row : List IV), rows[r]? = some row → row.length = n) (hne : rows ≠ []) : sz = n := by
  cases rows with
  | nil => exact absurd rfl hne
  | cons r rs =>
    simp [szOk] at h
    rw [← h]; exact hl 0 r rfl

theorem sim_iad {ro : Nat} {H : Hp} (hR : Rel K ro H w) (he : EnvOk K e a) {t u : TypeId} {x i : Operand} {x' i' : Opd} {n : Nat} {k : IntKind} {q : Int} {z : IV} (ho : o.op = .indexAddr t x i) (ht : P.underlying t = some (.slice u)) (hs : szT P u = some n) (hx : cOpd x = some x') (hi : cOpd i = some i')
    (hq : ev e i' = .int k q) (hz : idx H n (ev e x') q = some z) : Gives P a o w K z := by
  have h1 := he.ev hx
  have h2 := he.ev hi
  rw [hq] at h2
  refine gives_of (s := Instr.indexAt t (a.eval x) (a.eval i)) (fun w' => by simp [execOp, ho]) ?_
  rw [h2.int_inv]
  revert hz
  generalize ev e x' = X at h1
  intro hz
  cases X <;> simp only [idx, reduceCtorEq] at hz
  case imm rows full =>
    split at hz
    · rename_i hc
      obtain ⟨h0, hlt, hsz⟩ := hc
      simp at hz; subst hz
      obtain ⟨A, cap, b, q', sz, us, hv, hA, hcap, hf, hcl⟩ := h1.imm_inv
      have hne : rows ≠ [] := by rintro rfl; simp at hlt; omega
      have hn := szOk_len hsz hcl.len hne
      subst hn
      refine ⟨.pointer (some (A.add (q.toNat * n))), ?_, ?_⟩
      · simp [hv, Instr.indexAt, run_underlying ht, asIntOf, h0, hlt, run_sizeOf' hs]
      · rw [hA hne, ad_add, ← Nat.add_zero (q' + q.toNat * n)]
        exact .eptr _ _ _ _ _ _ _ us hcl.len hcl.cl hcl.val
    · cases hz
  case arr b g off len cap ex =>
    simp only [Option.bind_eq_some_iff] at hz
    obtain ⟨B, hB, hz⟩ := hz
    split at hz
    · rename_i hc
      obtain ⟨h0, hlt, hsz, hle⟩ := hc
      simp at hz; subst hz
      obtain ⟨hB, hgen⟩ := blkAt_some hB
      obtain ⟨L, hL, hgL, hcur, A0, c0, hv0⟩ := h1.arr_inv
      obtain ⟨B', hB', ok⟩ := hR.blk b L hL
      obtain rfl : B = B' := by rw [hB] at hB'; exact Option.some.inj hB'
      obtain ⟨A, cap', hv, hA, hcc, hlc, hex, hext⟩ := hcur (by rw [← ok.gen]; exact hgen)
      have hne : B.rows ≠ [] := by intro h; simp [h] at hle; omega
      have hn := szOk_len hsz ok.len hne
      refine ⟨.pointer (some (A.add (q.toNat * n))), ?_, ?_⟩
      · simp [hv, Instr.indexAt, run_underlying ht, asIntOf, h0, hlt, run_sizeOf' hs]
      · refine .ptr _ _ _ _ _ _ L hL (fun _ => ?_) hgL ⟨_, rfl⟩
        rw [hA (by omega), ad_add, hn, Nat.add_zero, Nat.add_mul, Nat.add_assoc]
    · cases hz

theorem sim_iar (he : EnvOk K e a) {t u : TypeId} {x i : Operand} {x' i' : Opd} {c n : Nat} {k : IntKind} {q : Int} {z : IV} (ho : o.op = .indexAddr t x i) (ht : P.underlying t = some (.array c u)) (hs : szT P u = some n) (hx : cOpd x = some x') (hi : cOpd i = some i')
    (hq : ev e i' = .int k q) (h0 : 0 ≤ q) (hlt : q < c) (hz : offs (q.toNat * n) (ev e x') = some z) : Gives P a o w K z := by
  have h1 := he.ev hx
  have h2 := he.ev hi
  rw [hq] at h2
  refine gives_of (s := Instr.indexAt t (a.eval x) (a.eval i)) (fun w' => by simp [execOp, ho]) ?_
  rw [h2.int_inv]
  revert hz
  generalize ev e x' = X at h1
  intro hz
  cases X <;> simp only [offs, reduceCtorEq, Option.some.injEq] at hz <;> subst hz
  case ptr b g i' j =>
    obtain ⟨L, hL, e1, hg, p, hp⟩ := h1.ptr_inv
    refine ⟨.pointer (some (p.add (q.toNat * n))), ?_, .ptr _ _ _ _ _ _ L hL (fun h => ?_) hg ⟨_, rfl⟩⟩
    · simp [hp, Instr.indexAt, run_underlying ht, asIntOf, h0, hlt, run_sizeOf' hs, Instr.sureAddr]
    · have := e1 h
      rw [hp] at this
      cases this
      rw [ad_add, Nat.add_assoc]
  case eptr rows i' j =>
    obtain ⟨b, q', sz, us, hv, hc⟩ := h1.eptr_inv
    refine ⟨.pointer (some ((ad b (q' + i' * sz + j)).add (q.toNat * n))), ?_, ?_⟩
    · simp [hv, Instr.indexAt, run_underlying ht, asIntOf, h0, hlt, run_sizeOf' hs, Instr.sureAddr]
    · rw [ad_add, Nat.add_assoc]
      exact .eptr _ _ _ _ _ _ _ us hc.len hc.cl hc.val

theorem sim_ist (he : EnvOk K e a) {t : TypeId} {x i : Operand} {x' i' : Opd} {s : ByteArray} {k : IntKind} {q : Int} {b : UInt8} (ho : o.op = .index t x i) (ht : P.underlying t = some .string) (hx : cOpd x = some x') (hi : cOpd i = some i')
    (hs : ev e x' = .str s) (hq : ev e i' = .int k q) (h0 : 0 ≤ q) (hb : s.data[q.toNat]? = some b) : Gives P a o w K (.int .u8 b.toNat) := by
  have h1 := he.ev hx
  have h2 := he.ev hi
  rw [hs] at h1; rw [hq] at h2
  refine gives_of (s := Instr.index t (a.eval x) (a.eval i)) (fun w' => by simp [execOp, ho]) ⟨_, ?_, .int _ _ _⟩
  rw [h1.str_inv, h2.int_inv]
  have : s[q.toNat]? = some b := by
    obtain ⟨hl, he⟩ := Array.getElem?_eq_some_iff.1 hb
    have hl' : q.toNat < s.size := hl
    rw [getElem?_pos s q.toNat hl']
    exact congrArg some he
  simp [Instr.index, run_underlying ht, asIntOf, h0, this]

theorem sim_iag (he : EnvOk K e a) {t u : TypeId} {x i : Operand} {x' i' : Opd} {c n : Nat} {ag : Bool} {k : IntKind} {q : Int} {cs cs' : List IV} {z : IV} (ho : o.op = .index t x i) (ht : P.underlying t = some (.array c u)) (hs : szT P u = some n) (ha : isAg P u = some ag) (hx : cOpd x = some x') (hi : cOpd i = some i')
    (hv : ev e x' = .agg cs) (hq : ev e i' = .int k q) (h0 : 0 ≤ q) (hlt : q < c) (hsub : sub cs (q.toNat * n) n = some cs') (hz : val1 ag cs' = some z) : Gives P a o w K z := by
  have h1 := he.ev hx
  have h2 := he.ev hi
  rw [hv] at h1; rw [hq] at h2
  obtain ⟨us, hu, hl, hi'⟩ := h1.agg_inv
  obtain ⟨v, hr, hvr⟩ := run_part (P := P) (w := w) hs ha hl hi' hsub hz
  refine gives_of (s := Instr.index t (a.eval x) (a.eval i)) (fun w' => by simp [execOp, ho]) ⟨v, ?_, hvr⟩
  rw [hu, h2.int_inv]
  simp [Instr.index, run_underlying ht, asIntOf, h0, hlt, run_sizeOf' hs, hr]

theorem sim_fld (he : EnvOk K e a) {t : TypeId} {x : Operand} {x' : Opd} {i n : Nat} {fs : Array Field} {f : Field} {ag : Bool} {cs cs' : List IV} {z : IV} (ho : o.op = .field t x i) (ht : P.underlying t = some (.struct fs)) (hf : fs[i]? = some f) (hs : szT P f.type = some n) (ha : isAg P f.type = some ag) (hx : cOpd x = some x')
    (hv : ev e x' = .agg cs) (hsub : sub cs f.offset n = some cs') (hz : val1 ag cs' = some z) : Gives P a o w K z := by
  have h1 := he.ev hx
  rw [hv] at h1
  obtain ⟨us, hu, hl, hi'⟩ := h1.agg_inv
  obtain ⟨v, hr, hvr⟩ := run_part (P := P) (w := w) hs ha hl hi' hsub hz
  refine gives_of (s := Instr.field t (a.eval x) i) (fun w' => by simp [execOp, ho]) ⟨v, ?_, hvr⟩
  simp [Instr.field, run_underlying ht, hf, hu, asAgg, hr]

/-- A bound of a slice: left out, or what it computes to. -/
def BndOk (P : Program) (w : World) (a : Act) (x : Option Operand) (d n y : Nat) : Prop := (x = none ∧ n = d) ∨ ∃ z, x = some z ∧ ∀ code, (Instr.sliceBound (a.eval z) y code).run P w = .ok n w

theorem optB_run (he : EnvOk K e a) {x : Option Operand} {x' : Option Opd} {d n y : Nat} (hc : cOpt x = some x') (hn : optB e d x' = some n) (hle : n ≤ y) : BndOk P w a x d n y := by
  cases x with
  | none => simp [cOpt] at hc; subst hc; simp [optB] at hn; exact .inl ⟨rfl, hn.symm⟩
  | some x =>
    simp only [cOpt, Option.map_eq_some_iff] at hc
    obtain ⟨z, hz, rfl⟩ := hc
    simp only [optB] at hn
    have h1 := he.ev hz
    refine .inr ⟨x, rfl, fun code => ?_⟩
    revert hn
    generalize ev e z = Z at h1
    intro hn
    cases Z <;> simp only [asNat, reduceCtorEq] at hn
    case int k q =>
      split at hn
      · rename_i h0
        simp at hn; subst hn
        rw [h1.int_inv]
        have : q ≤ y := by omega
        simp [Instr.sliceBound, asIntOf, h0, this]
      · cases hn

theorem sim_len (he : EnvOk K e a) {t : TypeId} {x : Operand} {x' : Opd} {n : Nat} {ats : Array TypeId} {st : Bool} (hat : ats[0]? = some t) (ht : if st then P.underlying t = some .string else ∃ u, P.underlying t = some (.slice u)) (hx : cOpd x = some x')
    (ho : o.op = .call { callee := .builtin .len, args := #[x], argTypes := ats }) (hz : lenV st (ev e x') = some n) : Gives P a o w K (.int .i64 n) := by
  have h1 := he.ev hx
  refine gives_of (s := Builtin.len_ ats o.type #[a.eval x]) (fun w' => by simp [execOp, ho, resolve, invoke, builtin]) ⟨_, ?_, .int _ _ _⟩
  revert hz
  generalize ev e x' = X at h1
  intro hz
  cases st <;> cases X <;> simp only [lenV, reduceCtorEq, Option.some.injEq] at hz <;> subst hz
  case true.str s =>
    have hs : P.underlying t = some .string := ht
    simp [Builtin.len_, hat, run_underlying hs, h1.str_inv, goInt]
  all_goals obtain ⟨u, hu⟩ : ∃ u, P.underlying t = some (.slice u) := ht
  case false.nsl => simp [Builtin.len_, hat, run_underlying hu, h1.nsl_inv, goInt]
  case false.imm rows full =>
    obtain ⟨A, cap, b, q', sz, us, hv, _⟩ := h1.imm_inv
    simp [Builtin.len_, hat, run_underlying hu, hv, goInt]
  case false.arr b g off len cap ex =>
    obtain ⟨L, _, _, _, A, c, hv⟩ := h1.arr_inv
    simp [Builtin.len_, hat, run_underlying hu, hv, goInt]

/-- The kind of a type that has a nil. -/
def nilT (P : Program) (k : Nat) (t : TypeId) : Prop :=
  match k with
  | 0 => ∃ d, P.underlying t = some (.pointer d)
  | 1 => ∃ d, P.underlying t = some (.slice d)
  | 2 => ∃ p r v, P.underlying t = some (.func p r v)
  | _ => ∃ ms, P.underlying t = some (.interface ms)

/-- A value of the kind; is it nil? -/
def nilV (k : Nat) (v : Value) (b : Bool) : Prop :=
  match k with
  | 0 => ∃ p, v = .pointer p ∧ p.isNone = b
  | 1 => ∃ p n c, v = .slice p n c ∧ p.isNone = b
  | 2 => (v = .nilFunc ∧ b = true) ∨ ∃ f x y, v = .func f x y ∧ b = false
  | _ => (v = .nilIface ∧ b = true) ∨ ∃ t u, v = .iface t u ∧ b = false

theorem nilV_of {k : Nat} {x : IV} {v : Value} {b : Bool} (h : VR K x v) (hb : isNil k x = some b) : nilV k v b := by
  unfold isNil at hb
  split at hb <;> simp at hb <;> subst hb
  · exact ⟨_, h.nptr_inv, rfl⟩
  · obtain ⟨_, _, _, _, p, hp⟩ := h.ptr_inv; exact ⟨_, hp, rfl⟩
  · obtain ⟨_, _, _, _, hp, _⟩ := h.eptr_inv; exact ⟨_, hp, rfl⟩
  · exact ⟨_, _, _, h.nsl_inv, rfl⟩
  · obtain ⟨_, _, _, _, _, _, hv, _⟩ := h.imm_inv; exact ⟨_, _, _, hv, rfl⟩
  · obtain ⟨_, _, _, _, _, _, hv⟩ := h.arr_inv; exact ⟨_, _, _, hv, rfl⟩
  · exact .inl ⟨h.nfn_inv, rfl⟩
  · obtain ⟨_, hv, _⟩ := h.fn_inv; exact .inr ⟨_, _, _, hv, rfl⟩
  · exact .inl ⟨h.nif_inv, rfl⟩
  · obtain ⟨_, hv, _⟩ := h.ifc_inv; exact .inr ⟨_, _, hv, rfl⟩

/-- The nil of a kind. -/
def nilOf : Nat → Value
  | 0 => .pointer none
  | 1 => .slice none 0 0
  | 2 => .nilFunc
  | _ => .nilIface

theorem run_equal_nilR {k : Nat} {t : TypeId} (ht : nilT P k t) {v : Value} {b : Bool} (hv : nilV k v b) : (Op.equal t v (nilOf k)).run P w = .ok b w := by
  have key : ∀ d, (Op.equalIn (d + 1) t v (nilOf k)).run P w = .ok b w := by
    intro d
    match k, ht, hv with
    | 0, ⟨_, ht⟩, ⟨p, hv, hb⟩ => subst hv hb; rw [Op.equalIn, Sem.run_bind, run_underlying ht]; cases p <;> rfl
    | 1, ⟨_, ht⟩, ⟨p, _, _, hv, hb⟩ => subst hv hb; rw [Op.equalIn, Sem.run_bind, run_underlying ht]; cases p <;> rfl
    | 2, ⟨_, _, _, ht⟩, .inl ⟨hv, hb⟩ => subst hv hb; rw [Op.equalIn, Sem.run_bind, run_underlying ht]; rfl
    | 2, ⟨_, _, _, ht⟩, .inr ⟨_, _, _, hv, hb⟩ => subst hv hb; rw [Op.equalIn, Sem.run_bind, run_underlying ht]; rfl
    | k + 3, ⟨_, ht⟩, .inl ⟨hv, hb⟩ => subst hv hb; rw [Op.equalIn, Sem.run_bind, run_underlying ht]; rfl
    | k + 3, ⟨_, ht⟩, .inr ⟨_, _, hv, hb⟩ => subst hv hb; rw [Op.equalIn, Sem.run_bind, run_underlying ht]; rfl
  exact key 9999

theorem run_equal_nilL {k : Nat} {t : TypeId} (ht : nilT P k t) {v : Value} {b : Bool} (hv : nilV k v b) : (Op.equal t (nilOf k) v).run P w = .ok b w := by
  have key : ∀ d, (Op.equalIn (d + 1) t (nilOf k) v).run P w = .ok b w := by
    intro d
    match k, ht, hv with
    | 0, ⟨_, ht⟩, ⟨p, hv, hb⟩ => subst hv hb; rw [Op.equalIn, Sem.run_bind, run_underlying ht]; rfl
    | 1, ⟨_, ht⟩, ⟨p, _, _, hv, hb⟩ => subst hv hb; rw [Op.equalIn, Sem.run_bind, run_underlying ht]; rfl
    | 2, ⟨_, _, _, ht⟩, .inl ⟨hv, hb⟩ => subst hv hb; rw [Op.equalIn, Sem.run_bind, run_underlying ht]; rfl
    | 2, ⟨_, _, _, ht⟩, .inr ⟨_, _, _, hv, hb⟩ => subst hv hb; rw [Op.equalIn, Sem.run_bind, run_underlying ht]; rfl
    | k + 3, ⟨_, ht⟩, .inl ⟨hv, hb⟩ => subst hv hb; rw [Op.equalIn, Sem.run_bind, run_underlying ht]; rfl
    | k + 3, ⟨_, ht⟩, .inr ⟨_, _, hv, hb⟩ => subst hv hb; rw [Op.equalIn, Sem.run_bind, run_underlying ht]; rfl
  exact key 9999

/-- Neither of them a number or a text: '==' goes by 'Op.equal'. -/
theorem binOp_eql_of {k : Nat} {t : TypeId} {x y : Value} {b : Bool} (h : nilV k x b ∨ x = nilOf k) : binOp .eql t x y = (do pure (.bool (← Op.equal t x y))) ∧ binOp .neq t x y = (do pure (.bool (!(← Op.equal t x y)))) := by
  have hx : (∃ p, x = .pointer p) ∨ (∃ p n c, x = .slice p n c) ∨ x = .nilFunc ∨ (∃ f p q, x = .func f p q) ∨ x = .nilIface ∨ ∃ t u, x = .iface t u := by
    rcases h with h | h
    · match k, h with
      | 0, ⟨p, hv, _⟩ => exact .inl ⟨p, hv⟩
      | 1, ⟨p, n, c, hv, _⟩ => exact .inr (.inl ⟨p, n, c, hv⟩)
      | 2, .inl ⟨hv, _⟩ => exact .inr (.inr (.inl hv))
      | 2, .inr ⟨f, p, q, hv, _⟩ => exact .inr (.inr (.inr (.inl ⟨f, p, q, hv⟩)))
      | k + 3, .inl ⟨hv, _⟩ => exact .inr (.inr (.inr (.inr (.inl hv))))
      | k + 3, .inr ⟨t, u, hv, _⟩ => exact .inr (.inr (.inr (.inr (.inr ⟨t, u, hv⟩))))
    · match k, h with
      | 0, h => exact .inl ⟨_, h⟩
      | 1, h => exact .inr (.inl ⟨_, _, _, h⟩)
      | 2, h => exact .inr (.inr (.inl h))
      | k + 3, h => exact .inr (.inr (.inr (.inr (.inl h))))
  rcases hx with ⟨p, rfl⟩ | ⟨p, n, c, rfl⟩ | rfl | ⟨f, p, q, rfl⟩ | rfl | ⟨t, u, rfl⟩ <;> exact ⟨by cases y <;> rfl, by cases y <;> rfl⟩

theorem nilOpd_eq {k : Nat} {y : Operand} (h : nilOpd k y = true) : y = .const (nilOf k) := by
  unfold nilOpd at h
  split at h <;> first | rfl | cases h

theorem run_eqGuard_nil {op : BinOp} {t : TypeId} {x y : Operand} {k : Nat} {v : Value} {b : Bool} (hv : nilV k v b) (hy : ∃ c, y = .const c) : (eqGuard op t x y v (nilOf k)).run P w = .ok () w := by
  obtain ⟨c, rfl⟩ := hy
  match k, hv with
  | 0, ⟨p, hv, _⟩ => subst hv; rw [eqGuard_at_pointer]; rfl
  | 1, ⟨p, n, c, hv, _⟩ => subst hv; rw [eqGuard_at_slice]; rfl
  | 2, .inl ⟨hv, _⟩ => subst hv; rw [eqGuard_at_nilFunc]; rfl
  | 2, .inr ⟨f, p, q, hv, _⟩ => subst hv; rw [eqGuard_at_func]; rfl
  | k + 3, .inl ⟨hv, _⟩ => subst hv; show (eqGuard op t x (.const _) .nilIface .nilIface).run P w = _; rw [eqGuard_nil_constR]; rfl
  | k + 3, .inr ⟨t, u, hv, _⟩ => subst hv; rw [eqGuard_at_iface]; rfl

theorem run_eqGuard_nilL {op : BinOp} {t : TypeId} {x y : Operand} {k : Nat} {v : Value} {b : Bool} (hv : nilV k v b) (hx : ∃ c, x = .const c) : (eqGuard op t x y (nilOf k) v).run P w = .ok () w := by
  obtain ⟨c, rfl⟩ := hx
  match k, hv with
  | 0, _ => show (eqGuard op t _ y (.pointer none) v).run P w = _; rw [eqGuard_at_pointer]; rfl
  | 1, _ => show (eqGuard op t _ y (.slice none 0 0) v).run P w = _; rw [eqGuard_at_slice]; rfl
  | 2, _ => show (eqGuard op t _ y .nilFunc v).run P w = _; rw [eqGuard_at_nilFunc]; rfl
  | k + 3, .inl ⟨hv, _⟩ => subst hv; show (eqGuard op t (.const _) y .nilIface .nilIface).run P w = _; rw [eqGuard_nil_constL]; rfl
  | k + 3, .inr ⟨t', u, hv, _⟩ => subst hv; show (eqGuard op t _ y .nilIface (.iface t' u)).run P w = _; rw [eqGuard_nil_iface]; rfl

theorem sim_eqn (he : EnvOk K e a) {k : Nat} {neg : Bool} {t u : TypeId} {x y : Operand} {x' : Opd} {b : Bool} (ho : o.op = .binOp (if neg then .neq else .eql) t x y u) (ht : nilT P k t)
    (hx : (cOpd x = some x' ∧ y = .const (nilOf k)) ∨ (cOpd y = some x' ∧ x = .const (nilOf k))) (hb : isNil k (ev e x') = some b) : Gives P a o w K (.bool (neg ^^ b)) := by
  refine ⟨_, ?_, .bool _ _⟩
  rcases hx with ⟨hx, rfl⟩ | ⟨hy, rfl⟩
  · have hv := nilV_of (he.ev hx) hb
    obtain ⟨e1, e2⟩ := binOp_eql_of (t := t) (y := nilOf k) (.inl hv)
    have ec : a.eval (.const (nilOf k)) = nilOf k := rfl
    cases neg <;> simp [execOp, ho, ec, run_eqGuard_nil hv ⟨_, rfl⟩, e1, e2, run_equal_nilR ht hv]
  · have hv := nilV_of (he.ev hy) hb
    obtain ⟨e1, e2⟩ := binOp_eql_of (t := t) (y := a.eval y) (b := b) (k := k) (.inr rfl)
    have ec : a.eval (.const (nilOf k)) = nilOf k := rfl
    cases neg <;> simp [execOp, ho, ec, run_eqGuard_nilL hv ⟨_, rfl⟩, e1, e2, run_equal_nilL ht hv]

end Go.Vs
