import Derived.Test.YtnfddeiegbifhaaDoorVsWr
/- Operations that only read: their simulation. -/
namespace Go.Vs
open Go Go.RowKit

variable {P : Program}

theorem info_sz {t : TypeId} {n : Nat} (h : szT P t = some n) : ∃ i, P.info? t = some i ∧ i.size = n := by
  unfold szT at h
  cases hi : P.info? t with
  | none => simp [hi] at h
  | some i => simp [hi] at h; exact ⟨i, rfl, h⟩

theorem run_sizeOf' {t : TypeId} {n : Nat} (h : szT P t = some n) (w : World) : (sizeOf t).run P w = .ok n w := by
  obtain ⟨i, hi, rfl⟩ := info_sz h
  simp [sizeOf, typeInfo, hi]

theorem run_isAgg {t : TypeId} {ag : Bool} (h : isAg P t = some ag) (w : World) : (isAgg t).run P w = .ok ag w := by
  unfold isAg at h
  split at h
  · rename_i hu; simp at h; subst h; simp [isAgg, run_underlying hu]
  · rename_i hu; simp at h; subst h; simp [isAgg, run_underlying hu]
  · rename_i d h1 h2 hu
    simp at h; subst h
    simp only [isAgg, Sem.run_bind, run_underlying hu, Result.andThen_ok]
    rfl
  · cases h

/-- A value of n cells, loaded. -/
theorem run_loadVar {K : Kp} {w : World} {t : TypeId} {n : Nat} {ag : Bool} (hs : szT P t = some n) (ha : isAg P t = some ag) {b o : Nat} {cs : List IV} {us : List Value} (hc : CellsAt K w b o cs us) (hn : cs.length = n) {x : IV} (hx : val1 ag cs = some x) :
    ∃ v, (loadVar t (ad b o)).run P w = .ok v w ∧ VR K x v := by
  rcases val1_sim hc.1 hc.2.2 hx with ⟨rfl, hv⟩ | ⟨rfl, u, rfl, hv⟩
  · refine ⟨_, ?_, hv⟩
    have hl := hc.load P
    rw [hn] at hl
    simp [loadVar, run_isAgg ha, run_sizeOf' hs, hl]
  · refine ⟨u, ?_, hv⟩
    have := (hc.2.1 0 u rfl).1
    simp only [Nat.add_zero] at this
    simp [loadVar, run_isAgg ha, this]

/-- A part of a value. -/
theorem run_part {K : Kp} {w : World} {t : TypeId} {n : Nat} {ag : Bool} (hs : szT P t = some n) (ha : isAg P t = some ag) {us : Array Value} {cs cs' : List IV} {off : Nat} (hl : us.size = cs.length) (hv : ∀ (i : Nat) (x : IV) (y : Value), cs[i]? = some x → us[i]? = some y → VR K x y)
    (hsub : sub cs off n = some cs') {x : IV} (hx : val1 ag cs' = some x) : ∃ v, (part t us off).run P w = .ok v w ∧ VR K x v := by
  obtain ⟨hl', hle, hg⟩ := sub_some hsub
  have key : ∀ (j : Nat) (y : IV) (u : Value), cs'[j]? = some y → (us.extract off (off + n)).toList[j]? = some u → VR K y u := by
    intro j y u h1 h2
    have hj : j < n := by rw [← hl']; exact (List.getElem?_eq_some_iff.1 h1).1
    rw [hg j hj] at h1
    refine hv _ y u h1 ?_
    rw [Array.getElem?_toList, Array.getElem?_extract] at h2
    split at h2
    · exact h2
    · cases h2
  rcases val1_sim (us := (us.extract off (off + n)).toList) (by simp; omega) key hx with ⟨rfl, hv'⟩ | ⟨rfl, u, hu, hv'⟩
  · refine ⟨.agg (us.extract off (off + n)), ?_, by rwa [Array.toArray_toList] at hv'⟩
    simp [part, run_isAgg ha, run_sizeOf' hs]
  · refine ⟨u, ?_, hv'⟩
    have : us[off]? = some u := by
      have h0 : (us.extract off (off + n)).toList[0]? = some u := by rw [hu]; rfl
      rw [Array.getElem?_toList, Array.getElem?_extract] at h0
      split at h0
      · simpa using h0
      · cases h0
    simp [part, run_isAgg ha, this]

/-- An operation that leaves a value and the world as it is. -/
def Gives (P : Program) (a : Act) (o : Oper) (w : World) (K : Kp) (x : IV) : Prop := ∃ v, (execOp a.eval o).run P w = .ok (.value v) w ∧ VR K x v

section
variable {K : Kp} {e : Env} {a : Act} {o : Oper} {w : World}

theorem gives_of {s : Sem Value} {x : IV} (ho : ∀ w', (execOp a.eval o).run P w' = ((s.run P w').andThen fun v w'' => .ok (.value v) w'')) (h : ∃ v, s.run P w = .ok v w ∧ VR K x v) : Gives P a o w K x := by
  obtain ⟨v, hr, hv⟩ := h
  exact ⟨v, by rw [ho, hr]; rfl, hv⟩

theorem sim_mv (he : EnvOk K e a) {x : Operand} {y : Opd} (ho : o.op = .move x ∨ o.op = .assign x) (hc : cOpd x = some y) : Gives P a o w K (ev e y) := by
  refine ⟨a.eval x, ?_, he.ev hc⟩
  rcases ho with ho | ho <;> simp [execOp, ho]

theorem sim_pick (he : EnvOk K e a) {c x y : Operand} {c' x' y' : Opd} (ho : o.op = .pick c x y) (hc : cOpd c = some c') (hx : cOpd x = some x') (hy : cOpd y = some y') {b : Bool} (hb : ev e c' = .bool b) :
    Gives P a o w K (if b then ev e x' else ev e y') := by
  have h := he.ev hc
  rw [hb] at h
  refine ⟨if b then a.eval x else a.eval y, ?_, ?_⟩
  · cases b <;> simp [execOp, ho, h.bool_inv, asBool]
  · cases b
    · exact he.ev hy
    · exact he.ev hx

theorem sim_load {ro : Nat} {H : Hp} (hR : Rel K ro H w) (he : EnvOk K e a) {t : TypeId} {x : Operand} {y : Opd} {n : Nat} {ag : Bool} (ho : o.op = .load t x) (hs : szT P t = some n) (ha : isAg P t = some ag) (hx : cOpd x = some y)
    {cs : List IV} {z : IV} (hr : rd H n (ev e y) = some cs) (hz : val1 ag cs = some z) : Gives P a o w K z := by
  obtain ⟨hn, b, q, us, hv, hcell⟩ := rd_sim hR (he.ev hx) hr
  obtain ⟨v, hrun, hvr⟩ := run_loadVar hs ha hcell hn hz
  exact gives_of (s := Instr.loadAt t (a.eval x)) (fun w' => by simp [execOp, ho]) ⟨v, by simp [Instr.loadAt, hv, Instr.sureAddr, hrun], hvr⟩

def nilOk : IV → Bool
  | .ptr .. | .eptr .. | .fn .. | .ifc .. => true
  | _ => false

theorem sim_nilck (he : EnvOk K e a) {x : Operand} {y : Opd} (ho : o.op = .nilCheck x) (hx : cOpd x = some y) (hk : nilOk (ev e y) = true) : Gives P a o w K (ev e y) := by
  have h := he.ev hx
  refine ⟨a.eval x, ?_, h⟩
  revert hk
  generalize ev e y = z at h
  intro hk
  cases z <;> simp only [nilOk, Bool.false_eq_true] at hk
  case ptr => obtain ⟨_, _, _, _, p, hp⟩ := h.ptr_inv; simp [execOp, ho, hp]
  case eptr => obtain ⟨_, _, _, _, hv, _⟩ := h.eptr_inv; simp [execOp, ho, hv]
  case fn => obtain ⟨_, hv, _⟩ := h.fn_inv; simp [execOp, ho, hv]
  case ifc => obtain ⟨_, hv, _⟩ := h.ifc_inv; simp [execOp, ho, hv]

end
end Go.Vs
/- Operations on numbers, texts, addresses: their simulation. -/
namespace Go.Vs
open Go Go.RowKit

variable {P : Program} {K : Kp} {e : Env} {a : Act} {o : Oper} {w : World}

theorem andThen_assoc {α β γ : Type} (r : Result α) (f : α → World → Result β) (g : β → World → Result γ) : (r.andThen f).andThen g = r.andThen fun x w => (f x w).andThen g := by cases r <;> rfl

theorem run_binI {op : BinOp} {t : TypeId} {k : IntKind} {x y : Int} {z : IV} (h : binI op k x y = some z) (hs : op ≠ .shl) (hs' : op ≠ .shr) : ∃ v, (binOp op t (.int k x) (.int k y)).run P w = .ok v w ∧ VR K z v := by
  cases op <;> simp only [binI, reduceCtorEq, Option.some.injEq] at h <;> first | contradiction | skip
  case quo =>
    split at h
    · cases h
    · rename_i hy; simp at h; subst h; exact ⟨_, by simp [binOp, Op.intDiv, hy], .int _ _ _⟩
  case rem =>
    split at h
    · cases h
    · rename_i hy; simp at h; subst h; exact ⟨_, by simp [binOp, Op.intDiv, hy], .int _ _ _⟩
  all_goals
    subst h
    refine ⟨_, by simp only [binOp, ne_eq, not_true_eq_false, if_false, Op.intArith, Op.intBits, Op.intCmp]; rfl, ?_⟩
    first | exact .int _ _ _ | exact .bool _ _

theorem run_binS {op : BinOp} {t : TypeId} {x y : ByteArray} {z : IV} (h : binS op x y = some z) : ∃ v, (binOp op t (.string x) (.string y)).run P w = .ok v w ∧ VR K z v := by
  cases op <;> simp only [binS, reduceCtorEq, Option.some.injEq] at h
  case add =>
    split at h
    · cases h
    · rename_i hy
      simp at h; subst h
      refine ⟨_, ?_, .str _ _⟩
      simp only [binOp, Op.stringOp, if_neg hy]
      rfl
  all_goals
    subst h
    exact ⟨_, rfl, .bool _ _⟩

theorem run_eqGuard_int {op : BinOp} {t : TypeId} {x y : Operand} {k : IntKind} {n : Int} {v : Value} : (eqGuard op t x y (.int k n) v).run P w = .ok () w := by
  rw [eqGuard_at_int]; rfl
theorem run_eqGuard_str {op : BinOp} {t : TypeId} {x y : Operand} {s : ByteArray} {v : Value} : (eqGuard op t x y (.string s) v).run P w = .ok () w := by
  rw [eqGuard_at_string]; rfl

theorem sim_bin (he : EnvOk K e a) {op : BinOp} {t u : TypeId} {x y : Operand} {x' y' : Opd} (ho : o.op = .binOp op t x y u) (hx : cOpd x = some x') (hy : cOpd y = some y') {z : IV} (hz : binV op (ev e x') (ev e y') = some z) : Gives P a o w K z := by
  have h1 := he.ev hx
  have h2 := he.ev hy
  refine gives_of (s := do eqGuard op t x y (a.eval x) (a.eval y); binOp op t (a.eval x) (a.eval y)) (fun w' => by simp [execOp, ho, andThen_assoc]) ?_
  revert hz
  generalize ev e x' = X at h1
  generalize ev e y' = Y at h2
  intro hz
  cases X <;> cases Y <;> simp only [binV, reduceCtorEq] at hz
  case int.int k n k' n' =>
    rw [h1.int_inv, h2.int_inv]
    simp only [Sem.run_bind, run_eqGuard_int, Result.andThen_ok]
    by_cases g1 : op = .shl
    · subst g1
      simp only [] at hz
      split at hz
      · cases hz
      · rename_i hn
        simp at hz; subst hz
        exact ⟨_, by simp [binOp, Op.shift, hn], .int _ _ _⟩
    · by_cases g2 : op = .shr
      · subst g2
        simp only [] at hz
        split at hz
        · cases hz
        · rename_i hn
          simp at hz; subst hz
          exact ⟨_, by simp [binOp, Op.shift, hn], .int _ _ _⟩
      · have hb : k = k' ∧ binI op k n n' = some z := by
          cases op <;> first | contradiction | skip
          all_goals
            simp only at hz
            split at hz
            · exact ⟨‹_›, hz⟩
            · cases hz
        obtain ⟨rfl, hb⟩ := hb
        exact run_binI hb g1 g2
  case str.str s s' =>
    rw [h1.str_inv, h2.str_inv]
    simp only [Sem.run_bind, run_eqGuard_str, Result.andThen_ok]
    exact run_binS hz

theorem run_equal_bool {t : TypeId} (ht : P.underlying t = some .bool) (b c : Bool) : (Op.equal t (.bool b) (.bool c)).run P w = .ok (b == c) w := by
  have key : ∀ d, (Op.equalIn (d + 1) t (.bool b) (.bool c)).run P w = .ok (b == c) w := fun d => by
    rw [Op.equalIn, Sem.run_bind, run_underlying ht]
    rfl
  exact key 9999

theorem binOp_eql_bool (t : TypeId) (b c : Bool) : binOp .eql t (.bool b) (.bool c) = (do pure (.bool (← Op.equal t (.bool b) (.bool c)))) := rfl
theorem binOp_neq_bool (t : TypeId) (b c : Bool) : binOp .neq t (.bool b) (.bool c) = (do pure (.bool (!(← Op.equal t (.bool b) (.bool c))))) := rfl

theorem sim_eqb (he : EnvOk K e a) {neg : Bool} {t u : TypeId} {x y : Operand} {x' y' : Opd} (ho : o.op = .binOp (if neg then .neq else .eql) t x y u) (ht : P.underlying t = some .bool) (hx : cOpd x = some x') (hy : cOpd y = some y') {b c : Bool} (h1 : ev e x' = .bool b) (h2 : ev e y' = .bool c) :
    Gives P a o w K (.bool (neg ^^ (b == c))) := by
  have e1 := he.ev hx
  have e2 := he.ev hy
  rw [h1] at e1; rw [h2] at e2
  refine ⟨_, ?_, .bool _ _⟩
  cases neg <;> simp [execOp, ho, e1.bool_inv, e2.bool_inv, eqGuard_at_bool, binOp_eql_bool, binOp_neq_bool, run_equal_bool ht]

theorem sim_un (he : EnvOk K e a) {op : UnOp} {t : TypeId} {x : Operand} {x' : Opd} (ho : o.op = .unOp op t x) (hx : cOpd x = some x') {z : IV} (hz : unV op (ev e x') = some z) : Gives P a o w K z := by
  have h1 := he.ev hx
  refine gives_of (s := Op.unary op (a.eval x)) (fun w' => by simp [execOp, ho]) ?_
  revert hz
  generalize ev e x' = X at h1
  intro hz
  cases op <;> cases X <;> simp only [unV, reduceCtorEq, Option.some.injEq] at hz <;> subst hz
  case neg.int => rw [h1.int_inv]; exact ⟨_, rfl, .int _ _ _⟩
  case xor.int => rw [h1.int_inv]; exact ⟨_, rfl, .int _ _ _⟩
  case not.bool => rw [h1.bool_inv]; exact ⟨_, rfl, .bool _ _⟩

theorem sim_cvi (he : EnvOk K e a) {s d : TypeId} {k k' : IntKind} {x : Operand} {x' : Opd} {n : Int} {td : TypeDesc} (ho : o.op = .convert s d x) (hs : P.underlying s = some td) (hd : P.underlying d = some (.int k)) (hx : cOpd x = some x') (h : ev e x' = .int k' n) : Gives P a o w K (.int k (k.wrap n)) := by
  have h1 := he.ev hx
  rw [h] at h1
  refine gives_of (s := convert s d (a.eval x)) (fun w' => by simp [execOp, ho]) ⟨_, ?_, .int _ _ _⟩
  rw [h1.int_inv]
  simp [convert, run_underlying hs, run_underlying hd, Conv.intToInt]

theorem sim_cvs (he : EnvOk K e a) {s d : TypeId} {x : Operand} {x' : Opd} {t : ByteArray} (ho : o.op = .convert s d x) (hs : P.underlying s = some .string) (hd : P.underlying d = some .string) (hx : cOpd x = some x') (h : ev e x' = .str t) : Gives P a o w K (.str t) := by
  have h1 := he.ev hx
  rw [h] at h1
  refine gives_of (s := convert s d (a.eval x)) (fun w' => by simp [execOp, ho]) ⟨_, ?_, .str _ _⟩
  rw [h1.str_inv]
  simp [convert, run_underlying hs, run_underlying hd]

theorem sim_mki (he : EnvOk K e a) {t : TypeId} {x : Operand} {x' : Opd} {d : TypeDesc} (ho : o.op = .makeInterface t x) (ht : P.underlying t = some d) (hn : ∀ ms, d ≠ .interface ms) (hx : cOpd x = some x') : Gives P a o w K (.ifc t (ev e x')) := by
  refine gives_of (s := Instr.makeInterface t (a.eval x)) (fun w' => by simp [execOp, ho]) ⟨_, ?_, .ifc _ _ _ _ (he.ev hx)⟩
  simp only [Instr.makeInterface, Sem.run_bind, run_underlying ht, Result.andThen_ok]
  cases d <;> first | exact absurd rfl (hn _) | rfl

theorem mapO_some {α β : Type} {f : α → Option β} : ∀ {l : List α} {r : List β}, mapO f l = some r → r.length = l.length ∧ ∀ (i : Nat) (x : α) (y : β), l[i]? = some x → r[i]? = some y → f x = some y
  | [], r, h => by simp [mapO] at h; subst h; exact ⟨rfl, fun i x y h => by simp at h⟩
  | a :: l, r, h => by
    simp only [mapO, Option.bind_eq_some_iff, Option.some.injEq] at h
    obtain ⟨y, hy, ys, hys, rfl⟩ := h
    obtain ⟨hl, hi⟩ := mapO_some hys
    refine ⟨by simp [hl], fun i x z h1 h2 => ?_⟩
    cases i with
    | zero => simp at h1 h2; subst h1 h2; exact hy
    | succ i => simp at h1 h2; exact hi i x z h1 h2

/-- Operands, in a row. -/
theorem evs_ok (he : EnvOk K e a) {xs : List Operand} {ys : List Opd} (h : cOpds xs = some ys) : (xs.map a.eval).length = (ys.map (ev e)).length ∧ ∀ (i : Nat) (x : IV) (v : Value), (ys.map (ev e))[i]? = some x → (xs.map a.eval)[i]? = some v → VR K x v := by
  obtain ⟨hl, hi⟩ := mapO_some h
  refine ⟨by simp [hl], fun i x v h1 h2 => ?_⟩
  simp only [List.getElem?_map, Option.map_eq_some_iff] at h1 h2
  obtain ⟨y, hy, rfl⟩ := h1
  obtain ⟨z, hz, rfl⟩ := h2
  exact he.ev (hi i z y hz hy)

theorem sim_mkf (he : EnvOk K e a) {f : Nat} {first caps : Array Operand} {cs : List Opd} (ho : o.op = .makeFunc (.func f) first caps) (hf : first.size = 0) (hc : cOpds caps.toList = some cs) : Gives P a o w K (.fn f (cs.map (ev e))) := by
  obtain ⟨hl, hi⟩ := evs_ok he hc
  obtain rfl : first = #[] := by simpa using hf
  refine gives_of (s := Instr.makeFunc (.func f) ((#[] : Array Operand).map a.eval) (caps.map a.eval)) (fun w' => by simp [execOp, ho]) ⟨_, rfl, ?_⟩
  have : (#[] : Array Operand).map a.eval = #[] := by simp
  rw [this]
  refine .fn _ _ _ _ (by simpa using hl) (fun i x y h1 h2 => hi i x y h1 ?_)
  rw [← h2]
  simp

theorem sim_ext (he : EnvOk K e a) {x : Operand} {x' : Opd} {i : Nat} {vs : List IV} {v : IV} (ho : o.op = .extract x i) (hx : cOpd x = some x') (h : ev e x' = .tup vs) (hv : vs[i]? = some v) : Gives P a o w K v := by
  have h1 := he.ev hx
  rw [h] at h1
  obtain ⟨us, hu, hl, hi⟩ := h1.tup_inv
  obtain ⟨u, hu'⟩ : ∃ u, us[i]? = some u := ⟨_, Array.getElem?_eq_getElem (by have := (List.getElem?_eq_some_iff.1 hv).1; omega)⟩
  exact gives_of (s := Instr.extract (a.eval x) i) (fun w' => by simp [execOp, ho]) ⟨u, by simp [hu, Instr.extract, hu'], hi i v u hv hu'⟩

theorem sim_fad (he : EnvOk K e a) {s : TypeId} {x : Operand} {x' : Opd} {i n : Nat} {fs : Array Field} {f : Field} {z : IV} (ho : o.op = .fieldAddr s x i) (hs : P.underlying s = some (.struct fs)) (hf : fs[i]? = some f) (hn : szT P f.type = some n) (h0 : n ≠ 0) (hx : cOpd x = some x') (hz : offs f.offset (ev e x') = some z) : Gives P a o w K z := by
  have h1 := he.ev hx
  refine gives_of (s := Instr.fieldAt s (a.eval x) i) (fun w' => by simp [execOp, ho]) ?_
  revert hz
  generalize ev e x' = X at h1
  intro hz
  cases X <;> simp only [offs, reduceCtorEq, Option.some.injEq] at hz <;> subst hz
  case ptr b g i' j =>
    obtain ⟨L, hL, e1, hg, p, hp⟩ := h1.ptr_inv
    refine ⟨.pointer (some (p.add f.offset)), ?_, .ptr _ _ _ _ _ _ L hL (fun h => ?_) hg ⟨_, rfl⟩⟩
    · simp [Instr.fieldAt, run_underlying hs, hf, hp, Instr.sureAddr, fieldPlace, run_sizeOf' hn, h0]
    · have := e1 h
      rw [hp] at this
      cases this
      rw [ad_add, Nat.add_assoc]
  case eptr rows i' j =>
    obtain ⟨b, q, sz, us, hv, hc⟩ := h1.eptr_inv
    refine ⟨.pointer (some ((ad b (q + i' * sz + j)).add f.offset)), ?_, ?_⟩
    · simp [Instr.fieldAt, run_underlying hs, hf, hv, Instr.sureAddr, fieldPlace, run_sizeOf' hn, h0]
    · rw [ad_add, Nat.add_assoc]
      exact .eptr _ _ _ _ _ _ _ us hc.len hc.cl hc.val

end Go.Vs
/- Operations on slices, texts, rows: their simulation. -/
namespace Go.Vs
open Go Go.RowKit

variable {P : Program} {K : Kp} {e : Env} {a : Act} {o : Oper} {w : World}

theorem szOk_len {sz : Nat} {rows : List (List IV)} (h : szOk sz rows = true) {n : Nat} (hl : ∀ (r : Nat) (row : List IV), rows[r]? = some row → row.length = n) (hne : rows ≠ []) : sz = n := by
  cases rows with
  | nil => exact absurd rfl hne
  | cons r rs =>
    simp [szOk] at h
    rw [← h]; exact hl 0 r rfl

theorem sim_iad {ro : Nat} {H : Hp} (hR : Rel K ro H w) (he : EnvOk K e a) {t u : TypeId} {x i : Operand} {x' i' : Opd} {n : Nat} {k : IntKind} {q : Int} {z : IV} (ho : o.op = .indexAddr t x i) (ht : P.underlying t = some (.slice u)) (hs : szT P u = some n) (hx : cOpd x = some x') (hi : cOpd i = some i')
    (hq : ev e i' = .int k q) (hz : idx H n (ev e x') q = some z) : Gives P a o w K z := by
  have h1 := he.ev hx
  have h2 := he.ev hi
  rw [hq] at h2
  refine gives_of (s := Instr.indexAt t (a.eval x) (a.eval i)) (fun w' => by simp [execOp, ho]) ?_
  rw [h2.int_inv]
  revert hz
  generalize ev e x' = X at h1
  intro hz
  cases X <;> simp only [idx, reduceCtorEq] at hz
  case imm rows full =>
    split at hz
    · rename_i hc
      obtain ⟨h0, hlt, hsz⟩ := hc
      simp at hz; subst hz
      obtain ⟨A, cap, b, q', sz, us, hv, hA, hcap, hf, hcl⟩ := h1.imm_inv
      have hne : rows ≠ [] := by rintro rfl; simp at hlt; omega
      have hn := szOk_len hsz hcl.len hne
      subst hn
      refine ⟨.pointer (some (A.add (q.toNat * n))), ?_, ?_⟩
      · simp [hv, Instr.indexAt, run_underlying ht, asIntOf, h0, hlt, run_sizeOf' hs]
      · rw [hA hne, ad_add, ← Nat.add_zero (q' + q.toNat * n)]
        exact .eptr _ _ _ _ _ _ _ us hcl.len hcl.cl hcl.val
    · cases hz
  case arr b g off len cap ex =>
    simp only [Option.bind_eq_some_iff] at hz
    obtain ⟨B, hB, hz⟩ := hz
    split at hz
    · rename_i hc
      obtain ⟨h0, hlt, hsz, hle⟩ := hc
      simp at hz; subst hz
      obtain ⟨hB, hgen⟩ := blkAt_some hB
      obtain ⟨L, hL, hgL, hcur, A0, c0, hv0⟩ := h1.arr_inv
      obtain ⟨B', hB', ok⟩ := hR.blk b L hL
      obtain rfl : B = B' := by rw [hB] at hB'; exact Option.some.inj hB'
      obtain ⟨A, cap', hv, hA, hcc, hlc, hex, hext⟩ := hcur (by rw [← ok.gen]; exact hgen)
      have hne : B.rows ≠ [] := by intro h; simp [h] at hle; omega
      have hn := szOk_len hsz ok.len hne
      refine ⟨.pointer (some (A.add (q.toNat * n))), ?_, ?_⟩
      · simp [hv, Instr.indexAt, run_underlying ht, asIntOf, h0, hlt, run_sizeOf' hs]
      · refine .ptr _ _ _ _ _ _ L hL (fun _ => ?_) hgL ⟨_, rfl⟩
        rw [hA (by omega), ad_add, hn, Nat.add_zero, Nat.add_mul, Nat.add_assoc]
    · cases hz

theorem sim_iar (he : EnvOk K e a) {t u : TypeId} {x i : Operand} {x' i' : Opd} {c n : Nat} {k : IntKind} {q : Int} {z : IV} (ho : o.op = .indexAddr t x i) (ht : P.underlying t = some (.array c u)) (hs : szT P u = some n) (hx : cOpd x = some x') (hi : cOpd i = some i')
    (hq : ev e i' = .int k q) (h0 : 0 ≤ q) (hlt : q < c) (hz : offs (q.toNat * n) (ev e x') = some z) : Gives P a o w K z := by
  have h1 := he.ev hx
  have h2 := he.ev hi
  rw [hq] at h2
  refine gives_of (s := Instr.indexAt t (a.eval x) (a.eval i)) (fun w' => by simp [execOp, ho]) ?_
  rw [h2.int_inv]
  revert hz
  generalize ev e x' = X at h1
  intro hz
  cases X <;> simp only [offs, reduceCtorEq, Option.some.injEq] at hz <;> subst hz
  case ptr b g i' j =>
    obtain ⟨L, hL, e1, hg, p, hp⟩ := h1.ptr_inv
    refine ⟨.pointer (some (p.add (q.toNat * n))), ?_, .ptr _ _ _ _ _ _ L hL (fun h => ?_) hg ⟨_, rfl⟩⟩
    · simp [hp, Instr.indexAt, run_underlying ht, asIntOf, h0, hlt, run_sizeOf' hs, Instr.sureAddr]
    · have := e1 h
      rw [hp] at this
      cases this
      rw [ad_add, Nat.add_assoc]
  case eptr rows i' j =>
    obtain ⟨b, q', sz, us, hv, hc⟩ := h1.eptr_inv
    refine ⟨.pointer (some ((ad b (q' + i' * sz + j)).add (q.toNat * n))), ?_, ?_⟩
    · simp [hv, Instr.indexAt, run_underlying ht, asIntOf, h0, hlt, run_sizeOf' hs, Instr.sureAddr]
    · rw [ad_add, Nat.add_assoc]
      exact .eptr _ _ _ _ _ _ _ us hc.len hc.cl hc.val

theorem sim_ist (he : EnvOk K e a) {t : TypeId} {x i : Operand} {x' i' : Opd} {s : ByteArray} {k : IntKind} {q : Int} {b : UInt8} (ho : o.op = .index t x i) (ht : P.underlying t = some .string) (hx : cOpd x = some x') (hi : cOpd i = some i')
    (hs : ev e x' = .str s) (hq : ev e i' = .int k q) (h0 : 0 ≤ q) (hb : s.data[q.toNat]? = some b) : Gives P a o w K (.int .u8 b.toNat) := by
  have h1 := he.ev hx
  have h2 := he.ev hi
  rw [hs] at h1; rw [hq] at h2
  refine gives_of (s := Instr.index t (a.eval x) (a.eval i)) (fun w' => by simp [execOp, ho]) ⟨_, ?_, .int _ _ _⟩
  rw [h1.str_inv, h2.int_inv]
  have : s[q.toNat]? = some b := by
    obtain ⟨hl, he⟩ := Array.getElem?_eq_some_iff.1 hb
    have hl' : q.toNat < s.size := hl
    rw [getElem?_pos s q.toNat hl']
    exact congrArg some he
  simp [Instr.index, run_underlying ht, asIntOf, h0, this]

theorem sim_iag (he : EnvOk K e a) {t u : TypeId} {x i : Operand} {x' i' : Opd} {c n : Nat} {ag : Bool} {k : IntKind} {q : Int} {cs cs' : List IV} {z : IV} (ho : o.op = .index t x i) (ht : P.underlying t = some (.array c u)) (hs : szT P u = some n) (ha : isAg P u = some ag) (hx : cOpd x = some x') (hi : cOpd i = some i')
    (hv : ev e x' = .agg cs) (hq : ev e i' = .int k q) (h0 : 0 ≤ q) (hlt : q < c) (hsub : sub cs (q.toNat * n) n = some cs') (hz : val1 ag cs' = some z) : Gives P a o w K z := by
  have h1 := he.ev hx
  have h2 := he.ev hi
  rw [hv] at h1; rw [hq] at h2
  obtain ⟨us, hu, hl, hi'⟩ := h1.agg_inv
  obtain ⟨v, hr, hvr⟩ := run_part (P := P) (w := w) hs ha hl hi' hsub hz
  refine gives_of (s := Instr.index t (a.eval x) (a.eval i)) (fun w' => by simp [execOp, ho]) ⟨v, ?_, hvr⟩
  rw [hu, h2.int_inv]
  simp [Instr.index, run_underlying ht, asIntOf, h0, hlt, run_sizeOf' hs, hr]

theorem sim_fld (he : EnvOk K e a) {t : TypeId} {x : Operand} {x' : Opd} {i n : Nat} {fs : Array Field} {f : Field} {ag : Bool} {cs cs' : List IV} {z : IV} (ho : o.op = .field t x i) (ht : P.underlying t = some (.struct fs)) (hf : fs[i]? = some f) (hs : szT P f.type = some n) (ha : isAg P f.type = some ag) (hx : cOpd x = some x')
    (hv : ev e x' = .agg cs) (hsub : sub cs f.offset n = some cs') (hz : val1 ag cs' = some z) : Gives P a o w K z := by
  have h1 := he.ev hx
  rw [hv] at h1
  obtain ⟨us, hu, hl, hi'⟩ := h1.agg_inv
  obtain ⟨v, hr, hvr⟩ := run_part (P := P) (w := w) hs ha hl hi' hsub hz
  refine gives_of (s := Instr.field t (a.eval x) i) (fun w' => by simp [execOp, ho]) ⟨v, ?_, hvr⟩
  simp [Instr.field, run_underlying ht, hf, hu, asAgg, hr]

/-- A bound of a slice: left out, or what it computes to. -/
def BndOk (P : Program) (w : World) (a : Act) (x : Option Operand) (d n y : Nat) : Prop := (x = none ∧ n = d) ∨ ∃ z, x = some z ∧ ∀ code, (Instr.sliceBound (a.eval z) y code).run P w = .ok n w

theorem optB_run (he : EnvOk K e a) {x : Option Operand} {x' : Option Opd} {d n y : Nat} (hc : cOpt x = some x') (hn : optB e d x' = some n) (hle : n ≤ y) : BndOk P w a x d n y := by
  cases x with
  | none => simp [cOpt] at hc; subst hc; simp [optB] at hn; exact .inl ⟨rfl, hn.symm⟩
  | some x =>
    simp only [cOpt, Option.map_eq_some_iff] at hc
    obtain ⟨z, hz, rfl⟩ := hc
    simp only [optB] at hn
    have h1 := he.ev hz
    refine .inr ⟨x, rfl, fun code => ?_⟩
    revert hn
    generalize ev e z = Z at h1
    intro hn
    cases Z <;> simp only [asNat, reduceCtorEq] at hn
    case int k q =>
      split at hn
      · rename_i h0
        simp at hn; subst hn
        rw [h1.int_inv]
        have : q ≤ y := by omega
        simp [Instr.sliceBound, asIntOf, h0, this]
      · cases hn

theorem sim_len (he : EnvOk K e a) {t : TypeId} {x : Operand} {x' : Opd} {n : Nat} {ats : Array TypeId} {st : Bool} (hat : ats[0]? = some t) (ht : if st then P.underlying t = some .string else ∃ u, P.underlying t = some (.slice u)) (hx : cOpd x = some x')
    (ho : o.op = .call { callee := .builtin .len, args := #[x], argTypes := ats }) (hz : lenV st (ev e x') = some n) : Gives P a o w K (.int .i64 n) := by
  have h1 := he.ev hx
  refine gives_of (s := Builtin.len_ ats o.type #[a.eval x]) (fun w' => by simp [execOp, ho, resolve, invoke, builtin]) ⟨_, ?_, .int _ _ _⟩
  revert hz
  generalize ev e x' = X at h1
  intro hz
  cases st <;> cases X <;> simp only [lenV, reduceCtorEq, Option.some.injEq] at hz <;> subst hz
  case true.str s =>
    have hs : P.underlying t = some .string := ht
    simp [Builtin.len_, hat, run_underlying hs, h1.str_inv, goInt]
  all_goals obtain ⟨u, hu⟩ : ∃ u, P.underlying t = some (.slice u) := ht
  case false.nsl => simp [Builtin.len_, hat, run_underlying hu, h1.nsl_inv, goInt]
  case false.imm rows full =>
    obtain ⟨A, cap, b, q', sz, us, hv, _⟩ := h1.imm_inv
    simp [Builtin.len_, hat, run_underlying hu, hv, goInt]
  case false.arr b g off len cap ex =>
    obtain ⟨L, _, _, _, A, c, hv⟩ := h1.arr_inv
    simp [Builtin.len_, hat, run_underlying hu, hv, goInt]

/-- The kind of a type that has a nil. -/
def nilT (P : Program) (k : Nat) (t : TypeId) : Prop :=
  match k with
  | 0 => ∃ d, P.underlying t = some (.pointer d)
  | 1 => ∃ d, P.underlying t = some (.slice d)
  | 2 => ∃ p r v, P.underlying t = some (.func p r v)
  | _ => ∃ ms, P.underlying t = some (.interface ms)

/-- A value of the kind; is it nil? -/
def nilV (k : Nat) (v : Value) (b : Bool) : Prop :=
  match k with
  | 0 => ∃ p, v = .pointer p ∧ p.isNone = b
  | 1 => ∃ p n c, v = .slice p n c ∧ p.isNone = b
  | 2 => (v = .nilFunc ∧ b = true) ∨ ∃ f x y, v = .func f x y ∧ b = false
  | _ => (v = .nilIface ∧ b = true) ∨ ∃ t u, v = .iface t u ∧ b = false

theorem nilV_of {k : Nat} {x : IV} {v : Value} {b : Bool} (h : VR K x v) (hb : isNil k x = some b) : nilV k v b := by
  unfold isNil at hb
  split at hb <;> simp at hb <;> subst hb
  · exact ⟨_, h.nptr_inv, rfl⟩
  · obtain ⟨_, _, _, _, p, hp⟩ := h.ptr_inv; exact ⟨_, hp, rfl⟩
  · obtain ⟨_, _, _, _, hp, _⟩ := h.eptr_inv; exact ⟨_, hp, rfl⟩
  · exact ⟨_, _, _, h.nsl_inv, rfl⟩
  · obtain ⟨_, _, _, _, _, _, hv, _⟩ := h.imm_inv; exact ⟨_, _, _, hv, rfl⟩
  · obtain ⟨_, _, _, _, _, _, hv⟩ := h.arr_inv; exact ⟨_, _, _, hv, rfl⟩
  · exact .inl ⟨h.nfn_inv, rfl⟩
  · obtain ⟨_, hv, _⟩ := h.fn_inv; exact .inr ⟨_, _, _, hv, rfl⟩
  · exact .inl ⟨h.nif_inv, rfl⟩
  · obtain ⟨_, hv, _⟩ := h.ifc_inv; exact .inr ⟨_, _, hv, rfl⟩

/-- The nil of a kind. -/
def nilOf : Nat → Value
  | 0 => .pointer none
  | 1 => .slice none 0 0
  | 2 => .nilFunc
  | _ => .nilIface

theorem run_equal_nilR {k : Nat} {t : TypeId} (ht : nilT P k t) {v : Value} {b : Bool} (hv : nilV k v b) : (Op.equal t v (nilOf k)).run P w = .ok b w := by
  have key : ∀ d, (Op.equalIn (d + 1) t v (nilOf k)).run P w = .ok b w := by
    intro d
    match k, ht, hv with
    | 0, ⟨_, ht⟩, ⟨p, hv, hb⟩ => subst hv hb; rw [Op.equalIn, Sem.run_bind, run_underlying ht]; cases p <;> rfl
    | 1, ⟨_, ht⟩, ⟨p, _, _, hv, hb⟩ => subst hv hb; rw [Op.equalIn, Sem.run_bind, run_underlying ht]; cases p <;> rfl
    | 2, ⟨_, _, _, ht⟩, .inl ⟨hv, hb⟩ => subst hv hb; rw [Op.equalIn, Sem.run_bind, run_underlying ht]; rfl
    | 2, ⟨_, _, _, ht⟩, .inr ⟨_, _, _, hv, hb⟩ => subst hv hb; rw [Op.equalIn, Sem.run_bind, run_underlying ht]; rfl
    | k + 3, ⟨_, ht⟩, .inl ⟨hv, hb⟩ => subst hv hb; rw [Op.equalIn, Sem.run_bind, run_underlying ht]; rfl
    | k + 3, ⟨_, ht⟩, .inr ⟨_, _, hv, hb⟩ => subst hv hb; rw [Op.equalIn, Sem.run_bind, run_underlying ht]; rfl
  exact key 9999

theorem run_equal_nilL {k : Nat} {t : TypeId} (ht : nilT P k t) {v : Value} {b : Bool} (hv : nilV k v b) : (Op.equal t (nilOf k) v).run P w = .ok b w := by
  have key : ∀ d, (Op.equalIn (d + 1) t (nilOf k) v).run P w = .ok b w := by
    intro d
    match k, ht, hv with
    | 0, ⟨_, ht⟩, ⟨p, hv, hb⟩ => subst hv hb; rw [Op.equalIn, Sem.run_bind, run_underlying ht]; rfl
    | 1, ⟨_, ht⟩, ⟨p, _, _, hv, hb⟩ => subst hv hb; rw [Op.equalIn, Sem.run_bind, run_underlying ht]; rfl
    | 2, ⟨_, _, _, ht⟩, .inl ⟨hv, hb⟩ => subst hv hb; rw [Op.equalIn, Sem.run_bind, run_underlying ht]; rfl
    | 2, ⟨_, _, _, ht⟩, .inr ⟨_, _, _, hv, hb⟩ => subst hv hb; rw [Op.equalIn, Sem.run_bind, run_underlying ht]; rfl
    | k + 3, ⟨_, ht⟩, .inl ⟨hv, hb⟩ => subst hv hb; rw [Op.equalIn, Sem.run_bind, run_underlying ht]; rfl
    | k + 3, ⟨_, ht⟩, .inr ⟨_, _, hv, hb⟩ => subst hv hb; rw [Op.equalIn, Sem.run_bind, run_underlying ht]; rfl
  exact key 9999

/-- Neither of them a number or a text: '==' goes by 'Op.equal'. -/
theorem binOp_eql_of {k : Nat} {t : TypeId} {x y : Value} {b : Bool} (h : nilV k x b ∨ x = nilOf k) : binOp .eql t x y = (do pure (.bool (← Op.equal t x y))) ∧ binOp .neq t x y = (do pure (.bool (!(← Op.equal t x y)))) := by
  have hx : (∃ p, x = .pointer p) ∨ (∃ p n c, x = .slice p n c) ∨ x = .nilFunc ∨ (∃ f p q, x = .func f p q) ∨ x = .nilIface ∨ ∃ t u, x = .iface t u := by
    rcases h with h | h
    · match k, h with
      | 0, ⟨p, hv, _⟩ => exact .inl ⟨p, hv⟩
      | 1, ⟨p, n, c, hv, _⟩ => exact .inr (.inl ⟨p, n, c, hv⟩)
      | 2, .inl ⟨hv, _⟩ => exact .inr (.inr (.inl hv))
      | 2, .inr ⟨f, p, q, hv, _⟩ => exact .inr (.inr (.inr (.inl ⟨f, p, q, hv⟩)))
      | k + 3, .inl ⟨hv, _⟩ => exact .inr (.inr (.inr (.inr (.inl hv))))
      | k + 3, .inr ⟨t, u, hv, _⟩ => exact .inr (.inr (.inr (.inr (.inr ⟨t, u, hv⟩))))
    · match k, h with
      | 0, h => exact .inl ⟨_, h⟩
      | 1, h => exact .inr (.inl ⟨_, _, _, h⟩)
      | 2, h => exact .inr (.inr (.inl h))
      | k + 3, h => exact .inr (.inr (.inr (.inr (.inl h))))
  rcases hx with ⟨p, rfl⟩ | ⟨p, n, c, rfl⟩ | rfl | ⟨f, p, q, rfl⟩ | rfl | ⟨t, u, rfl⟩ <;> exact ⟨by cases y <;> rfl, by cases y <;> rfl⟩

theorem nilOpd_eq {k : Nat} {y : Operand} (h : nilOpd k y = true) : y = .const (nilOf k) := by
  unfold nilOpd at h
  split at h <;> first | rfl | cases h

theorem run_eqGuard_nil {op : BinOp} {t : TypeId} {x y : Operand} {k : Nat} {v : Value} {b : Bool} (hv : nilV k v b) (hy : ∃ c, y = .const c) : (eqGuard op t x y v (nilOf k)).run P w = .ok () w := by
  obtain ⟨c, rfl⟩ := hy
  match k, hv with
  | 0, ⟨p, hv, _⟩ => subst hv; rw [eqGuard_at_pointer]; rfl
  | 1, ⟨p, n, c, hv, _⟩ => subst hv; rw [eqGuard_at_slice]; rfl
  | 2, .inl ⟨hv, _⟩ => subst hv; rw [eqGuard_at_nilFunc]; rfl
  | 2, .inr ⟨f, p, q, hv, _⟩ => subst hv; rw [eqGuard_at_func]; rfl
  | k + 3, .inl ⟨hv, _⟩ => subst hv; show (eqGuard op t x (.const _) .nilIface .nilIface).run P w = _; rw [eqGuard_nil_constR]; rfl
  | k + 3, .inr ⟨t, u, hv, _⟩ => subst hv; rw [eqGuard_at_iface]; rfl

theorem run_eqGuard_nilL {op : BinOp} {t : TypeId} {x y : Operand} {k : Nat} {v : Value} {b : Bool} (hv : nilV k v b) (hx : ∃ c, x = .const c) : (eqGuard op t x y (nilOf k) v).run P w = .ok () w := by
  obtain ⟨c, rfl⟩ := hx
  match k, hv with
  | 0, _ => show (eqGuard op t _ y (.pointer none) v).run P w = _; rw [eqGuard_at_pointer]; rfl
  | 1, _ => show (eqGuard op t _ y (.slice none 0 0) v).run P w = _; rw [eqGuard_at_slice]; rfl
  | 2, _ => show (eqGuard op t _ y .nilFunc v).run P w = _; rw [eqGuard_at_nilFunc]; rfl
  | k + 3, .inl ⟨hv, _⟩ => subst hv; show (eqGuard op t (.const _) y .nilIface .nilIface).run P w = _; rw [eqGuard_nil_constL]; rfl
  | k + 3, .inr ⟨t', u, hv, _⟩ => subst hv; show (eqGuard op t _ y .nilIface (.iface t' u)).run P w = _; rw [eqGuard_nil_iface]; rfl

theorem sim_eqn (he : EnvOk K e a) {k : Nat} {neg : Bool} {t u : TypeId} {x y : Operand} {x' : Opd} {b : Bool} (ho : o.op = .binOp (if neg then .neq else .eql) t x y u) (ht : nilT P k t)
    (hx : (cOpd x = some x' ∧ y = .const (nilOf k)) ∨ (cOpd y = some x' ∧ x = .const (nilOf k))) (hb : isNil k (ev e x') = some b) : Gives P a o w K (.bool (neg ^^ b)) := by
  refine ⟨_, ?_, .bool _ _⟩
  rcases hx with ⟨hx, rfl⟩ | ⟨hy, rfl⟩
  · have hv := nilV_of (he.ev hx) hb
    obtain ⟨e1, e2⟩ := binOp_eql_of (t := t) (y := nilOf k) (.inl hv)
    have ec : a.eval (.const (nilOf k)) = nilOf k := rfl
    cases neg <;> simp [execOp, ho, ec, run_eqGuard_nil hv ⟨_, rfl⟩, e1, e2, run_equal_nilR ht hv]
  · have hv := nilV_of (he.ev hy) hb
    obtain ⟨e1, e2⟩ := binOp_eql_of (t := t) (y := a.eval y) (b := b) (k := k) (.inr rfl)
    have ec : a.eval (.const (nilOf k)) = nilOf k := rfl
    cases neg <;> simp [execOp, ho, ec, run_eqGuard_nilL hv ⟨_, rfl⟩, e1, e2, run_equal_nilL ht hv]

end Go.Vs
/- Slices cut, bytes to text, the greatest and the least: their simulation. -/
namespace Go.Vs
open Go Go.RowKit

variable {P : Program} {K : Kp} {e : Env} {a : Act} {o : Oper} {w : World}

theorem sim_slst (he : EnvOk K e a) {t : TypeId} {x : Operand} {lo hi : Option Operand} {x' : Opd} {lo' hi' : Option Opd} {s : ByteArray} {l h : Nat} {z : IV} (ho : o.op = .slice t x lo hi none) (ht : P.underlying t = some .string) (hx : cOpd x = some x') (hlo : cOpt lo = some lo') (hhi : cOpt hi = some hi')
    (hs : ev e x' = .str s) (hl : optB e 0 lo' = some l) (hh : optB e s.size hi' = some h) (hz : slStr s l h = some z) : Gives P a o w K z := by
  unfold slStr at hz
  split at hz
  · rename_i hc
    simp at hz; subst hz
    have h1 := he.ev hx
    rw [hs] at h1
    refine gives_of (s := Instr.sliceAt t (a.eval x) (lo.map a.eval) (hi.map a.eval) none) (fun w' => by simp [execOp, ho]) ⟨_, ?_, .str _ _⟩
    rw [h1.str_inv]
    have b1 : BndOk P w a lo 0 l h := optB_run he hlo hl hc.1
    have b2 : BndOk P w a hi s.size h s.size := optB_run he hhi hh hc.2
    have ex : ByteArray.extract s 0 s.size = s := by
      apply ByteArray.ext
      simp
    rcases b1 with ⟨rfl, rfl⟩ | ⟨z1, rfl, b1⟩ <;> rcases b2 with ⟨rfl, rfl⟩ | ⟨z2, rfl, b2⟩ <;>
      simp [Instr.sliceAt, run_underlying ht, Instr.slice, Instr.sliceBounds, *]
  · cases hz

theorem extract_rows {α : Type} (l : List α) (i h : Nat) : ∀ r, r < h - i → ((l.drop i).take (h - i))[r]? = l[i + r]? := by
  intro r hr
  rw [List.getElem?_take, if_pos hr, List.getElem?_drop]

theorem Claimed.sub {rows : List (List IV)} {b q sz : Nat} {us : Nat → Nat → Value} (hc : Claimed K rows b q sz us) (l h : Nat) : Claimed K ((rows.drop l).take (h - l)) b (q + l * sz) sz (fun r c => us (l + r) c) := by
  have key : ∀ (r : Nat) (row : List IV), ((rows.drop l).take (h - l))[r]? = some row → rows[l + r]? = some row := by
    intro r row hr
    rw [← hr, List.getElem?_take]
    split
    · rw [List.getElem?_drop]
    · rename_i hn; rw [List.getElem?_take, if_neg hn] at hr; cases hr
  refine ⟨fun r row hr => hc.len _ row (key r row hr), fun r row c hr hcs => ?_, fun r row c x hr hx => hc.val _ row c x (key r row hr) hx⟩
  rw [show q + l * sz + r * sz + c = q + (l + r) * sz + c by rw [Nat.add_mul]; omega]
  exact hc.cl _ row c (key r row hr) hcs

theorem run_sliceAt {t u : TypeId} (ht : P.underlying t = some (.slice u)) (x : Value) (lo hi mx : Option Value) : (Instr.sliceAt t x lo hi mx).run P w = (Instr.slice t x lo hi mx).run P w := by
  simp [Instr.sliceAt, run_underlying ht]

/-- The slice of a slice, its bounds known. -/
theorem run_slice {t u : TypeId} {n : Nat} (ht : P.underlying t = some (.slice u)) (hs : szT P u = some n) {lo hi mx : Option Operand} (hm : mx.isSome = true → hi.isSome = true) {A : Option Addr} {len cap l h m : Nat}
    (b3 : BndOk P w a mx cap m cap) (b2 : BndOk P w a hi len h m) (b1 : BndOk P w a lo 0 l h) :
    (Instr.sliceAt t (.slice A len cap) (lo.map a.eval) (hi.map a.eval) (mx.map a.eval)).run P w = .ok (.slice (if m = l then A else A.map (·.add (l * n))) (h - l) (m - l)) w := by
  rw [run_sliceAt ht]
  rcases b3 with ⟨rfl, rfl⟩ | ⟨z3, rfl, b3⟩
  · rcases b2 with ⟨rfl, rfl⟩ | ⟨z2, rfl, b2⟩ <;> rcases b1 with ⟨rfl, rfl⟩ | ⟨z1, rfl, b1⟩ <;>
      simp [run_underlying ht, Instr.slice, Instr.sliceBounds, run_sizeOf' hs, *]
  · rcases b2 with ⟨rfl, rfl⟩ | ⟨z2, rfl, b2⟩
    · simp at hm
    · rcases b1 with ⟨rfl, rfl⟩ | ⟨z1, rfl, b1⟩ <;>
        simp [run_underlying ht, Instr.slice, Instr.sliceBounds, run_sizeOf' hs, *]

theorem sim_slsl {ro : Nat} {H : Hp} (hR : Rel K ro H w) (he : EnvOk K e a) {t u : TypeId} {n : Nat} {x : Operand} {lo hi mx : Option Operand} {x' : Opd} {lo' hi' mx' : Option Opd} {l h m : Nat} {z : IV} (ho : o.op = .slice t x lo hi mx) (ht : P.underlying t = some (.slice u)) (hs : szT P u = some n) (hm : mx.isSome = true → hi.isSome = true)
    (hx : cOpd x = some x') (hlo : cOpt lo = some lo') (hhi : cOpt hi = some hi') (hmx : cOpt mx = some mx') (hl : optB e 0 lo' = some l) (hh : optB e 0 hi' = some h) (hmm : optB e 0 mx' = some m)
    (hz : slSl H n (ev e x') l (hi'.map fun _ => h) (mx'.map fun _ => m) = some z) : Gives P a o w K z := by
  have h1 := he.ev hx
  have isS : ∀ {y : Option Operand} {y' : Option Opd}, cOpt y = some y' → y.isSome = y'.isSome := by
    intro y y' h; cases y <;> simp [cOpt] at h
    · subst h; rfl
    · obtain ⟨_, _, rfl⟩ := h; rfl
  have shift : ∀ {y : Option Operand} {y' : Option Opd} {q d c : Nat}, cOpt y = some y' → optB e 0 y' = some q → (y'.map fun _ => q).getD d ≤ c → BndOk P w a y d ((y'.map fun _ => q).getD d) c := by
    intro y y' q d c h1 h2 h3
    cases y' with
    | none => have := isS h1; cases y <;> simp at this; exact .inl ⟨rfl, rfl⟩
    | some y'' =>
      simp at h3 ⊢
      have : optB e d (some y'') = some q := h2
      exact optB_run he h1 this h3
  refine gives_of (s := Instr.sliceAt t (a.eval x) (lo.map a.eval) (hi.map a.eval) (mx.map a.eval)) (fun w' => by simp [execOp, ho]) ?_
  revert hz
  generalize ev e x' = X at h1
  intro hz
  have bl : ∀ c, l ≤ c → BndOk P w a lo 0 l c := fun c hc => optB_run he hlo hl hc
  cases X <;> simp only [slSl, reduceCtorEq] at hz
  case nsl =>
    split at hz
    · rename_i hc
      simp at hz; subst hz
      rw [h1.nsl_inv]
      obtain ⟨h0, hh0, hm0⟩ := hc
      have b3 := shift hmx hmm (d := 0) (c := 0) (by omega)
      have b2 := shift hhi hh (d := 0) (c := (mx'.map fun _ => m).getD 0) (by omega)
      have := run_slice ht hs hm (A := none) b3 b2 (bl _ (by omega))
      refine ⟨_, this, ?_⟩
      rw [hh0, hm0, h0]
      simp
      exact .nsl _
    · cases hz
  case imm rows full =>
    split at hz
    · rename_i hc
      simp at hz; subst hz
      obtain ⟨hlh, hhm, hmr, hsz⟩ := hc
      obtain ⟨A, cap, b, q, sz, us, hv, hA, hcap, hf, hcl⟩ := h1.imm_inv
      rw [hv]
      have hmle : (mx'.map fun _ => m).getD rows.length ≤ (mx'.map fun _ => m).getD cap := by cases mx' <;> simp [hcap]
      have hmc : (mx'.map fun _ => m).getD cap ≤ cap := by cases mx' with
        | none => simp
        | some _ => simp at hmr ⊢; omega
      have b3 := shift hmx hmm (d := cap) (c := cap) hmc
      have b2 := shift hhi hh (d := rows.length) (c := (mx'.map fun _ => m).getD cap) (by omega)
      have := run_slice ht hs hm (A := some A) b3 b2 (bl _ hlh)
      refine ⟨_, this, ?_⟩
      generalize hH : (hi'.map fun _ => h).getD rows.length = HH at *
      generalize hM : (mx'.map fun _ => m).getD cap = MM at *
      have hA' : (if MM = l then some A else (some A).map (·.add (l * n))) = some (if MM = l then A else A.add (l * n)) := by split <;> rfl
      rw [hA']
      refine .imm _ _ _ _ _ _ b (q + l * sz) sz (fun r c => us (l + r) c) ?_ ?_ ?_ ?_ (hcl.sub l HH).len (hcl.sub l HH).cl (hcl.sub l HH).val
      · simp; omega
      · intro hne
        have hlt : l < HH ∧ l < rows.length := by
          constructor
          · rcases Nat.lt_or_ge l HH with h | h
            · exact h
            · exfalso; apply hne; simp [show HH - l = 0 by omega]
          · rcases Nat.lt_or_ge l rows.length with h | h
            · exact h
            · exfalso; apply hne; simp [List.drop_eq_nil_of_le h]
        have hne' : rows ≠ [] := by rintro rfl; simp at hlt
        rw [if_neg (by omega), hA hne', ad_add, szOk_len hsz hcl.len hne']
      · simp; omega
      · intro hfull
        cases mx' with
        | none =>
          simp at hfull hM
          have := hf hfull.1
          simp; omega
        | some y =>
          simp at hfull hM
          simp; omega
    · cases hz
  case arr b g off len cap ex =>
    simp only [Option.bind_eq_some_iff] at hz
    obtain ⟨B, hB, hz⟩ := hz
    split at hz
    · rename_i hc
      simp at hz; subst hz
      obtain ⟨hlh, hhm, hmc, hle, hsz⟩ := hc
      obtain ⟨hB, hgen⟩ := blkAt_some hB
      obtain ⟨L, hL, hgL, hcur, _⟩ := h1.arr_inv
      obtain ⟨B', hB', ok⟩ := hR.blk b L hL
      obtain rfl : B = B' := by rw [hB] at hB'; exact Option.some.inj hB'
      obtain ⟨A, cap', hv, hA, hcc, hlc, hex, hext⟩ := hcur (by rw [← ok.gen]; exact hgen)
      rw [hv]
      have hmle : (mx'.map fun _ => m).getD cap ≤ (mx'.map fun _ => m).getD cap' := by cases mx' <;> simp [hcc]
      have hmc' : (mx'.map fun _ => m).getD cap' ≤ cap' := by cases mx' with
        | none => simp
        | some _ => simp at hmc ⊢; omega
      have b3 := shift hmx hmm (d := cap') (c := cap') hmc'
      have b2 := shift hhi hh (d := len) (c := (mx'.map fun _ => m).getD cap') (by omega)
      have := run_slice ht hs hm (A := some A) b3 b2 (bl _ hlh)
      refine ⟨_, this, ?_⟩
      generalize hH : (hi'.map fun _ => h).getD len = HH at *
      generalize hM : (mx'.map fun _ => m).getD cap' = MM at *
      generalize hM' : (mx'.map fun _ => m).getD cap = MM' at *
      have hA' : (if MM = l then some A else (some A).map (·.add (l * n))) = some (if MM = l then A else A.add (l * n)) := by split <;> rfl
      rw [hA']
      refine .arr _ _ _ _ _ _ _ _ L hL hgL (fun _ => ⟨_, _, rfl, fun hpos => ?_, by omega, by omega, fun hx => ?_, ?_⟩) ⟨_, _, rfl⟩
      · rw [if_neg (by omega), hA (by omega), ad_add]
        rcases Nat.eq_zero_or_pos l with h0 | h0
        · subst h0; simp
        · have hne : B.rows ≠ [] := by
            intro h; simp [h] at hle; omega
          rw [szOk_len hsz ok.len hne, Nat.add_mul, Nat.add_assoc]
      · cases mx' with
        | none => simp at hx hM hM'; have := hex hx; omega
        | some y => simp at hM hM'; omega
      · refine Nat.le_trans (Nat.mul_le_mul_right _ ?_) hext
        omega
    · cases hz

end Go.Vs
