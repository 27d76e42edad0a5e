/- Operations that only read: their simulation. -/
import Derived.Test.YtinmpfflkcnkfaaVsWr
namespace Go.Vs
open Go Go.RowKit

variable {P : Program}

theorem info_sz {t : TypeId} {n : Nat} (h : szT P t = some n) : ∃ i, P.info? t = some i ∧ i.size = n := by
  unfold szT at h
  cases hi : P.info? t with
  | none => simp [hi] at h
  | some i => simp [hi] at h; exact ⟨i, rfl, h⟩

theorem run_sizeOf' {t : TypeId} {n : Nat} (h : szT P t = some n) (w : World) : (sizeOf t).run P w = .ok n w := by
  obtain ⟨i, hi, rfl⟩ := info_sz h
  simp [sizeOf, typeInfo, hi]

theorem run_isAgg {t : TypeId} {ag : Bool} (h : isAg P t = some ag) (w : World) : (isAgg t).run P w = .ok ag w := by
  unfold isAg at h
  split at h
  · rename_i hu; simp at h; subst h; simp [isAgg, run_underlying hu]
  · rename_i hu; simp at h; subst h; simp [isAgg, run_underlying hu]
  · rename_i d h1 h2 hu
    simp at h; subst h
    simp only [isAgg, Sem.run_bind, run_underlying hu, Result.andThen_ok]
    rfl
  · cases h

/-- A value of n cells, loaded. -/
theorem run_loadVar {K : Kp} {w : World} {t : TypeId} {n : Nat} {ag : Bool} (hs : szT P t = some n) (ha : isAg P t = some ag) {b o : Nat} {cs : List IV} {us : List Value} (hc : CellsAt K w b o cs us) (hn : cs.length = n) {x : IV} (hx : val1 ag cs = some x) :
    ∃ v, (loadVar t (ad b o)).run P w = .ok v w ∧ VR K x v := by
  rcases val1_sim hc.1 hc.2.2 hx with ⟨rfl, hv⟩ | ⟨rfl, u, rfl, hv⟩
  · refine ⟨_, ?_, hv⟩
    have hl := hc.load P
    rw [hn] at hl
    simp [loadVar, run_isAgg ha, run_sizeOf' hs, hl]
  · refine ⟨u, ?_, hv⟩
    have := (hc.2.1 0 u rfl).1
    simp only [Nat.add_zero] at this
    simp [loadVar, run_isAgg ha, this]

/-- A part of a value. -/
theorem run_part {K : Kp} {w : World} {t : TypeId} {n : Nat} {ag : Bool} (hs : szT P t = some n) (ha : isAg P t = some ag) {us : Array Value} {cs cs' : List IV} {off : Nat} (hl : us.size = cs.length) (hv : ∀ (i : Nat) (x : IV) (y : Value), cs[i]? = some x → us[i]? = some y → VR K x y)
    (hsub : sub cs off n = some cs') {x : IV} (hx : val1 ag cs' = some x) : ∃ v, (part t us off).run P w = .ok v w ∧ VR K x v := by
  obtain ⟨hl', hle, hg⟩ := sub_some hsub
  have key : ∀ (j : Nat) (y : IV) (u : Value), cs'[j]? = some y → (us.extract off (off + n)).toList[j]? = some u → VR K y u := by
    intro j y u h1 h2
    have hj : j < n := by rw [← hl']; exact (List.getElem?_eq_some_iff.1 h1).1
    rw [hg j hj] at h1
    refine hv _ y u h1 ?_
    rw [Array.getElem?_toList, Array.getElem?_extract] at h2
    split at h2
    · exact h2
    · cases h2
  rcases val1_sim (us := (us.extract off (off + n)).toList) (by simp; omega) key hx with ⟨rfl, hv'⟩ | ⟨rfl, u, hu, hv'⟩
  · refine ⟨.agg (us.extract off (off + n)), ?_, by rwa [Array.toArray_toList] at hv'⟩
    simp [part, run_isAgg ha, run_sizeOf' hs]
  · refine ⟨u, ?_, hv'⟩
    have : us[off]? = some u := by
      have h0 : (us.extract off (off + n)).toList[0]? = some u := by rw [hu]; rfl
      rw [Array.getElem?_toList, Array.getElem?_extract] at h0
      split at h0
      · simpa using h0
      · cases h0
    simp [part, run_isAgg ha, this]

/-- An operation that leaves a value and the world as it is. -/
def Gives (P : Program) (a : Act) (o : Oper) (w : World) (K : Kp) (x : IV) : Prop := ∃ v, (execOp a.eval o).run P w = .ok (.value v) w ∧ VR K x v

section
variable {K : Kp} {e : Env} {a : Act} {o : Oper} {w : World}

theorem gives_of {s : Sem Value} {x : IV} (ho : ∀ w', (execOp a.eval o).run P w' = ((s.run P w').andThen fun v w'' => .ok (.value v) w'')) (h : ∃ v, s.run P w = .ok v w ∧ VR K x v) : Gives P a o w K x := by
  obtain ⟨v, hr, hv⟩ := h
  exact ⟨v, by rw [ho, hr]; rfl, hv⟩

theorem sim_mv (he : EnvOk K e a) {x : Operand} {y : Opd} (ho : o.op = .move x ∨ o.op = .assign x) (hc : cOpd x = some y) : Gives P a o w K (ev e y) := by
  refine ⟨a.eval x, ?_, he.ev hc⟩
  rcases ho with ho | ho <;> simp [execOp, ho]

theorem sim_pick (he : EnvOk K e a) {c x y : Operand} {c' x' y' : Opd} (ho : o.op = .pick c x y) (hc : cOpd c = some c') (hx : cOpd x = some x') (hy : cOpd y = some y') {b : Bool} (hb : ev e c' = .bool b) :
    Gives P a o w K (if b then ev e x' else ev e y') := by
  have h := he.ev hc
  rw [hb] at h
  refine ⟨if b then a.eval x else a.eval y, ?_, ?_⟩
  · cases b <;> simp [execOp, ho, h.bool_inv, asBool]
  · cases b
    · exact he.ev hy
    · exact he.ev hx

theorem sim_load {ro : Nat} {H : Hp} (hR : Rel K ro H w) (he : EnvOk K e a) {t : TypeId} {x : Operand} {y : Opd} {n : Nat} {ag : Bool} (ho : o.op = .load t x) (hs : szT P t = some n) (ha : isAg P t = some ag) (hx : cOpd x = some y)
    {cs : List IV} {z : IV} (hr : rd H n (ev e y) = some cs) (hz : val1 ag cs = some z) : Gives P a o w K z := by
  obtain ⟨hn, b, q, us, hv, hcell⟩ := rd_sim hR (he.ev hx) hr
  obtain ⟨v, hrun, hvr⟩ := run_loadVar hs ha hcell hn hz
  exact gives_of (s := Instr.loadAt t (a.eval x)) (fun w' => by simp [execOp, ho]) ⟨v, by simp [Instr.loadAt, hv, Instr.sureAddr, hrun], hvr⟩

def nilOk : IV → Bool
  | .ptr .. | .eptr .. | .fn .. | .ifc .. => true
  | _ => false

theorem sim_nilck (he : EnvOk K e a) {x : Operand} {y : Opd} (ho : o.op = .nilCheck x) (hx : cOpd x = some y) (hk : nilOk (ev e y) = true) : Gives P a o w K (ev e y) := by
  have h := he.ev hx
  refine ⟨a.eval x, ?_, h⟩
  revert hk
  generalize ev e y = z at h
  intro hk
  cases z <;> simp only [nilOk, Bool.false_eq_true] at hk
  case ptr => obtain ⟨_, _, _, _, p, hp⟩ := h.ptr_inv; simp [execOp, ho, hp]
  case eptr => obtain ⟨_, _, _, _, hv, _⟩ := h.eptr_inv; simp [execOp, ho, hv]
  case fn => obtain ⟨_, hv, _⟩ := h.fn_inv; simp [execOp, ho, hv]
  case ifc => obtain ⟨_, hv, _⟩ := h.ifc_inv; simp [execOp, ho, hv]

end
end Go.Vs
