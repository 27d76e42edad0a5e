/- Operations on numbers, texts, addresses: their simulation. -/
import Derived.Test.YtinmpfflkcnkfaaVsOpA
namespace Go.Vs
open Go Go.RowKit

variable {P : Program} {K : Kp} {e : Env} {a : Act} {o : Oper} {w : World}

theorem andThen_assoc {α β γ : Type} (r : Result α) (f : α → World → Result β) (g : β → World → Result γ) : (r.andThen f).andThen g = r.andThen fun x w => (f x w).andThen g := by cases r <;> rfl

theorem run_binI {op : BinOp} {t : TypeId} {k : IntKind} {x y : Int} {z : IV} (h : binI op k x y = some z) (hs : op ≠ .shl) (hs' : op ≠ .shr) : ∃ v, (binOp op t (.int k x) (.int k y)).run P w = .ok v w ∧ VR K z v := by
  cases op <;> simp only [binI, reduceCtorEq, Option.some.injEq] at h <;> first | contradiction | skip
  case quo =>
    split at h
    · cases h
    · rename_i hy; simp at h; subst h; exact ⟨_, by simp [binOp, Op.intDiv, hy], .int _ _ _⟩
  case rem =>
    split at h
    · cases h
    · rename_i hy; simp at h; subst h; exact ⟨_, by simp [binOp, Op.intDiv, hy], .int _ _ _⟩
  all_goals
    subst h
    refine ⟨_, by simp only [binOp, ne_eq, not_true_eq_false, if_false, Op.intArith, Op.intBits, Op.intCmp]; rfl, ?_⟩
    first | exact .int _ _ _ | exact .bool _ _

theorem run_binS {op : BinOp} {t : TypeId} {x y : ByteArray} {z : IV} (h : binS op x y = some z) : ∃ v, (binOp op t (.string x) (.string y)).run P w = .ok v w ∧ VR K z v := by
  cases op <;> simp only [binS, reduceCtorEq, Option.some.injEq] at h
  case add =>
    split at h
    · cases h
    · rename_i hy
      simp at h; subst h
      refine ⟨_, ?_, .str _ _⟩
      simp only [binOp, Op.stringOp, if_neg hy]
      rfl
  all_goals
    subst h
    exact ⟨_, rfl, .bool _ _⟩

theorem run_eqGuard_int {op : BinOp} {t : TypeId} {x y : Operand} {k : IntKind} {n : Int} {v : Value} : (eqGuard op t x y (.int k n) v).run P w = .ok () w := by
  rw [eqGuard_at_int]; rfl
theorem run_eqGuard_str {op : BinOp} {t : TypeId} {x y : Operand} {s : ByteArray} {v : Value} : (eqGuard op t x y (.string s) v).run P w = .ok () w := by
  rw [eqGuard_at_string]; rfl

theorem sim_bin (he : EnvOk K e a) {op : BinOp} {t u : TypeId} {x y : Operand} {x' y' : Opd} (ho : o.op = .binOp op t x y u) (hx : cOpd x = some x') (hy : cOpd y = some y') {z : IV} (hz : binV op (ev e x') (ev e y') = some z) : Gives P a o w K z := by
  have h1 := he.ev hx
  have h2 := he.ev hy
  refine gives_of (s := do eqGuard op t x y (a.eval x) (a.eval y); binOp op t (a.eval x) (a.eval y)) (fun w' => by simp [execOp, ho, andThen_assoc]) ?_
  revert hz
  generalize ev e x' = X at h1
  generalize ev e y' = Y at h2
  intro hz
  cases X <;> cases Y <;> simp only [binV, reduceCtorEq] at hz
  case int.int k n k' n' =>
    rw [h1.int_inv, h2.int_inv]
    simp only [Sem.run_bind, run_eqGuard_int, Result.andThen_ok]
    by_cases g1 : op = .shl
    · subst g1
      simp only [] at hz
      split at hz
      · cases hz
      · rename_i hn
        simp at hz; subst hz
        exact ⟨_, by simp [binOp, Op.shift, hn], .int _ _ _⟩
    · by_cases g2 : op = .shr
      · subst g2
        simp only [] at hz
        split at hz
        · cases hz
        · rename_i hn
          simp at hz; subst hz
          exact ⟨_, by simp [binOp, Op.shift, hn], .int _ _ _⟩
      · have hb : k = k' ∧ binI op k n n' = some z := by
          cases op <;> first | contradiction | skip
          all_goals
            simp only at hz
            split at hz
            · exact ⟨‹_›, hz⟩
            · cases hz
        obtain ⟨rfl, hb⟩ := hb
        exact run_binI hb g1 g2
  case str.str s s' =>
    rw [h1.str_inv, h2.str_inv]
    simp only [Sem.run_bind, run_eqGuard_str, Result.andThen_ok]
    exact run_binS hz

theorem run_equal_bool {t : TypeId} (ht : P.underlying t = some .bool) (b c : Bool) : (Op.equal t (.bool b) (.bool c)).run P w = .ok (b == c) w := by
  have key : ∀ d, (Op.equalIn (d + 1) t (.bool b) (.bool c)).run P w = .ok (b == c) w := fun d => by
    rw [Op.equalIn, Sem.run_bind, run_underlying ht]
    rfl
  exact key 9999

theorem binOp_eql_bool (t : TypeId) (b c : Bool) : binOp .eql t (.bool b) (.bool c) = (do pure (.bool (← Op.equal t (.bool b) (.bool c)))) := rfl
theorem binOp_neq_bool (t : TypeId) (b c : Bool) : binOp .neq t (.bool b) (.bool c) = (do pure (.bool (!(← Op.equal t (.bool b) (.bool c))))) := rfl

theorem sim_eqb (he : EnvOk K e a) {neg : Bool} {t u : TypeId} {x y : Operand} {x' y' : Opd} (ho : o.op = .binOp (if neg then .neq else .eql) t x y u) (ht : P.underlying t = some .bool) (hx : cOpd x = some x') (hy : cOpd y = some y') {b c : Bool} (h1 : ev e x' = .bool b) (h2 : ev e y' = .bool c) :
    Gives P a o w K (.bool (neg ^^ (b == c))) := by
  have e1 := he.ev hx
  have e2 := he.ev hy
  rw [h1] at e1; rw [h2] at e2
  refine ⟨_, ?_, .bool _ _⟩
  cases neg <;> simp [execOp, ho, e1.bool_inv, e2.bool_inv, eqGuard_at_bool, binOp_eql_bool, binOp_neq_bool, run_equal_bool ht]

theorem sim_un (he : EnvOk K e a) {op : UnOp} {t : TypeId} {x : Operand} {x' : Opd} (ho : o.op = .unOp op t x) (hx : cOpd x = some x') {z : IV} (hz : unV op (ev e x') = some z) : Gives P a o w K z := by
  have h1 := he.ev hx
  refine gives_of (s := Op.unary op (a.eval x)) (fun w' => by simp [execOp, ho]) ?_
  revert hz
  generalize ev e x' = X at h1
  intro hz
  cases op <;> cases X <;> simp only [unV, reduceCtorEq, Option.some.injEq] at hz <;> subst hz
  case neg.int => rw [h1.int_inv]; exact ⟨_, rfl, .int _ _ _⟩
  case xor.int => rw [h1.int_inv]; exact ⟨_, rfl, .int _ _ _⟩
  case not.bool => rw [h1.bool_inv]; exact ⟨_, rfl, .bool _ _⟩

theorem sim_cvi (he : EnvOk K e a) {s d : TypeId} {k k' : IntKind} {x : Operand} {x' : Opd} {n : Int} {td : TypeDesc} (ho : o.op = .convert s d x) (hs : P.underlying s = some td) (hd : P.underlying d = some (.int k)) (hx : cOpd x = some x') (h : ev e x' = .int k' n) : Gives P a o w K (.int k (k.wrap n)) := by
  have h1 := he.ev hx
  rw [h] at h1
  refine gives_of (s := convert s d (a.eval x)) (fun w' => by simp [execOp, ho]) ⟨_, ?_, .int _ _ _⟩
  rw [h1.int_inv]
  simp [convert, run_underlying hs, run_underlying hd, Conv.intToInt]

theorem sim_cvs (he : EnvOk K e a) {s d : TypeId} {x : Operand} {x' : Opd} {t : ByteArray} (ho : o.op = .convert s d x) (hs : P.underlying s = some .string) (hd : P.underlying d = some .string) (hx : cOpd x = some x') (h : ev e x' = .str t) : Gives P a o w K (.str t) := by
  have h1 := he.ev hx
  rw [h] at h1
  refine gives_of (s := convert s d (a.eval x)) (fun w' => by simp [execOp, ho]) ⟨_, ?_, .str _ _⟩
  rw [h1.str_inv]
  simp [convert, run_underlying hs, run_underlying hd]

theorem sim_mki (he : EnvOk K e a) {t : TypeId} {x : Operand} {x' : Opd} {d : TypeDesc} (ho : o.op = .makeInterface t x) (ht : P.underlying t = some d) (hn : ∀ ms, d ≠ .interface ms) (hx : cOpd x = some x') : Gives P a o w K (.ifc t (ev e x')) := by
  refine gives_of (s := Instr.makeInterface t (a.eval x)) (fun w' => by simp [execOp, ho]) ⟨_, ?_, .ifc _ _ _ _ (he.ev hx)⟩
  simp only [Instr.makeInterface, Sem.run_bind, run_underlying ht, Result.andThen_ok]
  cases d <;> first | exact absurd rfl (hn _) | rfl

theorem mapO_some {α β : Type} {f : α → Option β} : ∀ {l : List α} {r : List β}, mapO f l = some r → r.length = l.length ∧ ∀ (i : Nat) (x : α) (y : β), l[i]? = some x → r[i]? = some y → f x = some y
  | [], r, h => by simp [mapO] at h; subst h; exact ⟨rfl, fun i x y h => by simp at h⟩
  | a :: l, r, h => by
    simp only [mapO, Option.bind_eq_some_iff, Option.some.injEq] at h
    obtain ⟨y, hy, ys, hys, rfl⟩ := h
    obtain ⟨hl, hi⟩ := mapO_some hys
    refine ⟨by simp [hl], fun i x z h1 h2 => ?_⟩
    cases i with
    | zero => simp at h1 h2; subst h1 h2; exact hy
    | succ i => simp at h1 h2; exact hi i x z h1 h2

/-- Operands, in a row. -/
theorem evs_ok (he : EnvOk K e a) {xs : List Operand} {ys : List Opd} (h : cOpds xs = some ys) : (xs.map a.eval).length = (ys.map (ev e)).length ∧ ∀ (i : Nat) (x : IV) (v : Value), (ys.map (ev e))[i]? = some x → (xs.map a.eval)[i]? = some v → VR K x v := by
  obtain ⟨hl, hi⟩ := mapO_some h
  refine ⟨by simp [hl], fun i x v h1 h2 => ?_⟩
  simp only [List.getElem?_map, Option.map_eq_some_iff] at h1 h2
  obtain ⟨y, hy, rfl⟩ := h1
  obtain ⟨z, hz, rfl⟩ := h2
  exact he.ev (hi i z y hz hy)

theorem sim_mkf (he : EnvOk K e a) {f : Nat} {first caps : Array Operand} {cs : List Opd} (ho : o.op = .makeFunc (.func f) first caps) (hf : first.size = 0) (hc : cOpds caps.toList = some cs) : Gives P a o w K (.fn f (cs.map (ev e))) := by
  obtain ⟨hl, hi⟩ := evs_ok he hc
  obtain rfl : first = #[] := by simpa using hf
  refine gives_of (s := Instr.makeFunc (.func f) ((#[] : Array Operand).map a.eval) (caps.map a.eval)) (fun w' => by simp [execOp, ho]) ⟨_, rfl, ?_⟩
  have : (#[] : Array Operand).map a.eval = #[] := by simp
  rw [this]
  refine .fn _ _ _ _ (by simpa using hl) (fun i x y h1 h2 => hi i x y h1 ?_)
  rw [← h2]
  simp

theorem sim_ext (he : EnvOk K e a) {x : Operand} {x' : Opd} {i : Nat} {vs : List IV} {v : IV} (ho : o.op = .extract x i) (hx : cOpd x = some x') (h : ev e x' = .tup vs) (hv : vs[i]? = some v) : Gives P a o w K v := by
  have h1 := he.ev hx
  rw [h] at h1
  obtain ⟨us, hu, hl, hi⟩ := h1.tup_inv
  obtain ⟨u, hu'⟩ : ∃ u, us[i]? = some u := ⟨_, Array.getElem?_eq_getElem (by have := (List.getElem?_eq_some_iff.1 hv).1; omega)⟩
  exact gives_of (s := Instr.extract (a.eval x) i) (fun w' => by simp [execOp, ho]) ⟨u, by simp [hu, Instr.extract, hu'], hi i v u hv hu'⟩

theorem sim_fad (he : EnvOk K e a) {s : TypeId} {x : Operand} {x' : Opd} {i n : Nat} {fs : Array Field} {f : Field} {z : IV} (ho : o.op = .fieldAddr s x i) (hs : P.underlying s = some (.struct fs)) (hf : fs[i]? = some f) (hn : szT P f.type = some n) (h0 : n ≠ 0) (hx : cOpd x = some x') (hz : offs f.offset (ev e x') = some z) : Gives P a o w K z := by
  have h1 := he.ev hx
  refine gives_of (s := Instr.fieldAt s (a.eval x) i) (fun w' => by simp [execOp, ho]) ?_
  revert hz
  generalize ev e x' = X at h1
  intro hz
  cases X <;> simp only [offs, reduceCtorEq, Option.some.injEq] at hz <;> subst hz
  case ptr b g i' j =>
    obtain ⟨L, hL, e1, hg, p, hp⟩ := h1.ptr_inv
    refine ⟨.pointer (some (p.add f.offset)), ?_, .ptr _ _ _ _ _ _ L hL (fun h => ?_) hg ⟨_, rfl⟩⟩
    · simp [Instr.fieldAt, run_underlying hs, hf, hp, Instr.sureAddr, fieldPlace, run_sizeOf' hn, h0]
    · have := e1 h
      rw [hp] at this
      cases this
      rw [ad_add, Nat.add_assoc]
  case eptr rows i' j =>
    obtain ⟨b, q, sz, us, hv, hc⟩ := h1.eptr_inv
    refine ⟨.pointer (some ((ad b (q + i' * sz + j)).add f.offset)), ?_, ?_⟩
    · simp [Instr.fieldAt, run_underlying hs, hf, hv, Instr.sureAddr, fieldPlace, run_sizeOf' hn, h0]
    · rw [ad_add, Nat.add_assoc]
      exact .eptr _ _ _ _ _ _ _ us hc.len hc.cl hc.val

end Go.Vs
