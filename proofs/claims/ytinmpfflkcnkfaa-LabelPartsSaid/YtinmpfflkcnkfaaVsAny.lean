/- A region drawn: in whatever order its edges let. -/
import Derived.Test.YtinmpfflkcnkfaaVsTr
namespace Go.Vs
open Go Go.RowKit

theorem Kp.cut_le {K : Kp} {m n : Nat} (h : m ≤ n) : (K.cut m).le (K.cut n) := by
  refine ⟨fun b L hb => ⟨L, ?_, Nat.le_refl _, fun _ => rfl⟩, fun _ _ _ h => h⟩
  simp only [Kp.cut] at hb ⊢
  split at hb
  · rw [if_pos (by omega)]; exact hb
  · cases hb
theorem Kp.cut_self {K : Kp} {n : Nat} : (K.cut n).le K := by
  refine ⟨fun b L hb => ⟨L, ?_, Nat.le_refl _, fun _ => rfl⟩, fun _ _ _ h => h⟩
  simp only [Kp.cut] at hb
  split at hb
  · exact hb
  · cases hb
theorem Kp.cut_mono {K K' : Kp} {n : Nat} (h : K.le K') : (K.cut n).le (K'.cut n) := by
  refine ⟨fun b L hb => ?_, h.2⟩
  simp only [Kp.cut] at hb ⊢
  split at hb
  · rename_i hn
    obtain ⟨L', h1, h2, h3⟩ := h.1 b L hb
    exact ⟨L', by rw [if_pos hn]; exact h1, h2, h3⟩
  · cases hb
theorem Kp.cut_top {K : Kp} {n : Nat} (h : ∀ b, n ≤ b → K.ρ b = none) : K.cut n = K := by
  obtain ⟨ρ, κ⟩ := K
  simp only [Kp.cut, Kp.mk.injEq, and_true] at h ⊢
  funext b
  split
  · rfl
  · exact (h b (by omega)).symm
theorem Kp.cut_set_lt {K : Kp} {n b : Nat} {L : Loc} (h : b < n) : (K.set b L).cut n = (K.cut n).set b L := by
  simp only [Kp.cut, Kp.set, Kp.mk.injEq, and_true]
  funext x
  by_cases e : x = b
  · subst e; simp [h]
  · simp [e]
theorem Kp.cut_set_ge {K : Kp} {n b : Nat} {L : Loc} (h : n ≤ b) : (K.set b L).cut n = K.cut n := by
  simp only [Kp.cut, Kp.set, Kp.mk.injEq, and_true]
  funext x
  by_cases e : x = b
  · subst e; rw [if_neg (by omega), if_neg (by omega)]
  · simp [e]

theorem Rel.grow {K : Kp} {ro : Nat} {H : Hp} {w : World} (hR : Rel K ro H w) (Y : Hp) : Rel K ro (H ++ Y) w := by
  refine ⟨fun b L hb => ?_, hR.inj, hR.claim, fun b L B hb hB => ?_, by simp; have := hR.low; omega⟩
  · obtain ⟨B, hB, ok⟩ := hR.blk b L hb
    exact ⟨B, by rw [List.getElem?_append_left (hR.lt hb)]; exact hB, ok⟩
  · rw [List.getElem?_append_left (hR.lt hb)] at hB
    exact hR.own b L B hb hB

theorem Quiet.alloc {K : Kp} {ro : Nat} {H : Hp} {w : World} (hR : Rel K ro H w) (arr : Array Value) (elem : TypeId) : Quiet K K w (w.alloc (.cells arr elem)) := by
  refine ⟨rfl, fun _ _ _ h => h, fun b i v hc => ?_, fun _ _ h => .inl h, (Below.refl _ _).alloc (Nat.le_refl _) _⟩
  obtain ⟨hc', h1⟩ := hR.claim b i v hc
  refine ⟨?_, h1⟩
  rw [World.cell?_alloc_lt _ _ _ (World.block_lt_of_cell? _ _ hc')]
  exact hc'

/-- From one cut to another. -/
theorem Quiet.cut {K K1 : Kp} {n : Nat} {w w' : World} (h : Quiet (K.cut n) K1 w w') : Quiet K ⟨K.ρ, K1.κ⟩ w w' ∧ (⟨K.ρ, K1.κ⟩ : Kp).cut n = K1 := by
  refine ⟨⟨rfl, h.kap, h.claim, h.fresh, h.bel⟩, ?_⟩
  have := h.rho
  obtain ⟨ρ, κ⟩ := K1
  simp only [Kp.cut] at this ⊢
  subst this
  rfl

theorem Quiet.cuts {K K' : Kp} {w w' : World} (h : Quiet K K' w w') (n : Nat) : Quiet (K.cut n) (K'.cut n) w w' :=
  ⟨by simp only [Kp.cut, h.rho], h.kap, h.claim, h.fresh, h.bel⟩

theorem Fr.shrink {K K' : Kp} {ro h h' n : Nat} {w w' : World} (hF : Fr K K' ro h h' w w') (hn : n ≤ h) : Fr K K' ro n n w w' :=
  ⟨hF.bel, Nat.le_refl _, hF.keep, hF.claim, hF.loc, fun b hb => hF.old b (by omega), hF.low⟩

def dn (l : Array Bool) (k : Nat) : Prop := l.getD k false = true

theorem dn_set {l : Array Bool} {i k : Nat} (h : i < l.size) : dn (l.setIfInBounds i true) k ↔ dn l k ∨ k = i := by
  unfold dn
  by_cases e : i = k
  · subst e; simp [h]
  · rw [getD_set_ne false e]
    constructor
    · exact .inl
    · rintro (h | h)
      · exact h
      · exact absurd h.symm e

theorem not_dn {l : Array Bool} {k : Nat} (h : k < l.size) : ¬ dn l k ↔ l.getD k true = false := by
  unfold dn
  rw [Array.getD_eq_getD_getElem?, Array.getD_eq_getD_getElem?, Array.getElem?_eq_getElem h]
  simp

/-- How an operation is compiled. -/
structure OpOk (P : Program) (nt : Nat) (ops : Array Oper) (o : Oper) (r : Rop) : Prop where
  dst : r.dst = o.dst
  lt : ∀ d, o.dst = some d → d < nt
  ins : ∃ im m, cOp P im m o.op = some r.ins
  call : (isCallI r.ins && !isCall o.op) = false
  grd : cGrd ops o.guard = some r.grd

theorem cOps_all {P : Program} {nt : Nat} {all : Array Oper} {imf : Nat → Bool} : ∀ {l : List Oper} {i : Nat} {an an' : Ann} {rs : List Rop}, cOps P nt all imf i l an = some (rs, an') → ∀ (j : Nat) (o : Oper) (r : Rop), l[j]? = some o → rs[j]? = some r → OpOk P nt all o r
  | [], _, _, _, _, _, j, o, r, h, _ => by simp at h
  | o0 :: l, i, an, an', rs, h, j, o, r, ho, hr => by
    obtain ⟨g, ins, m, rs', an2, rfl, hd, hi, hc, hg, hrest⟩ := cOps_cons h
    cases j with
    | zero =>
      simp at ho hr; subst ho hr
      exact ⟨rfl, hd, ⟨_, _, hi⟩, hc, hg⟩
    | succ j => exact cOps_all hrest j o r (by simpa using ho) (by simpa using hr)

section
variable {rs : List Rop} {E : Nat → Env} {Hs : Nat → Hp} {X : Nat → IV}

def SlotOk (rs : List Rop) (E : Nat → Env) (X : Nat → IV) (l : Array Bool) (K : Kp) (a : Act) (lv : Nat → Nat) (t : Nat) : Prop :=
  (∃ k r, dn l k ∧ rs[k]? = some r ∧ r.dst = some t ∧ (∀ k' r', k < k' → dn l k' → rs[k']? = some r' → r'.dst ≠ some t) ∧ VR (K.cut (lv (k + 1))) (X k) (a.tmps.getD t undef)) ∨
  ((∀ k r, dn l k → rs[k]? = some r → r.dst ≠ some t) ∧ VR (K.cut (lv 0)) (get (E 0) t) (a.tmps.getD t undef))

theorem SlotOk.mono {l : Array Bool} {K K' : Kp} {a : Act} {lv lv' : Nat → Nat} {t : Nat} (h : SlotOk rs E X l K a lv t) (hK : K.le K') (hl : ∀ k, k ≤ rs.length → lv k ≤ lv' k) : SlotOk rs E X l K' a lv' t := by
  rcases h with ⟨k, r, h1, h2, h3, h4, h5⟩ | ⟨h1, h2⟩
  · exact .inl ⟨k, r, h1, h2, h3, h4, (h5.mono (Kp.cut_mono hK)).mono (Kp.cut_le (hl _ (List.getElem?_eq_some_iff.1 h2).1))⟩
  · exact .inr ⟨h1, (h2.mono (Kp.cut_mono hK)).mono (Kp.cut_le (hl _ (Nat.zero_le _)))⟩

theorem SlotOk.put {l : Array Bool} {K : Kp} {a : Act} {lv : Nat → Nat} {i : Nat} {r : Rop} {v : Value} (h : ∀ t, SlotOk rs E X l K a lv t) (hr : rs[i]? = some r) (hi : i < l.size)
    (hno : ∀ k' r' t, i < k' → dn l k' → rs[k']? = some r' → r.dst = some t → r'.dst ≠ some t) (hv : VR (K.cut (lv (i + 1))) (X i) v) (hd : ∀ t, r.dst = some t → t < a.tmps.size) (t : Nat) :
    SlotOk rs E X (l.setIfInBounds i true) K (a.put r.dst v) lv t := by
  by_cases e : r.dst = some t
  · refine .inl ⟨i, r, (dn_set hi).2 (.inr rfl), hr, e, fun k' r' h1 h2 h3 => ?_, ?_⟩
    · rcases (dn_set hi).1 h2 with h2 | h2
      · exact hno k' r' t h1 h2 h3 e
      · omega
    · rw [e]
      simp only [Act.put]
      rw [Array.getD_eq_getD_getElem?, Array.getElem?_setIfInBounds_self_of_lt (hd t e)]
      exact hv
  · have hs : (a.put r.dst v).tmps.getD t undef = a.tmps.getD t undef := by
      cases hdst : r.dst with
      | none => rfl
      | some d =>
        simp only [Act.put]
        have : d ≠ t := fun h => e (by rw [hdst, h])
        rw [Array.getD_eq_getD_getElem?, Array.getElem?_setIfInBounds_ne this, ← Array.getD_eq_getD_getElem?]
    unfold SlotOk
    rw [hs]
    rcases h t with ⟨k, r', h1, h2, h3, h4, h5⟩ | ⟨h1, h2⟩
    · refine .inl ⟨k, r', (dn_set hi).2 (.inl h1), h2, h3, fun k' r2 h6 h7 h8 => ?_, h5⟩
      rcases (dn_set hi).1 h7 with h7 | h7
      · exact h4 k' r2 h6 h7 h8
      · subst h7; rw [hr] at h8; cases h8; exact e
    · refine .inr ⟨fun k r2 h7 h8 => ?_, h2⟩
      rcases (dn_set hi).1 h7 with h7 | h7
      · exact h1 k r2 h7 h8
      · subst h7; rw [hr] at h8; cases h8; exact e

theorem SlotOk.read {cf : CallF} {ro : Nat} (hT : IsTr cf ro rs E Hs X) {l : Array Bool} {K : Kp} {a : Act} {lv : Nat → Nat} {t i : Nat} (h : SlotOk rs E X l K a lv t) (hi : i ≤ rs.length)
    (hd : ∀ k r, rs[k]? = some r → r.dst = some t → (dn l k ↔ k < i)) (hl : ∀ k, k ≤ i → lv k ≤ lv i) : VR (K.cut (lv i)) (get (E i) t) (a.tmps.getD t undef) := by
  rcases hT.text t i hi with ⟨k, r, h1, h2, h3, h4, h5⟩ | ⟨h1, h2⟩
  · rw [h5]
    rcases h with ⟨k', r', g1, g2, g3, g4, g5⟩ | ⟨g1, _⟩
    · have e : k = k' := by
        rcases Nat.lt_trichotomy k k' with hlt | he | hlt
        · exact absurd g3 (h4 k' r' hlt ((hd k' r' g2 g3).1 g1) g2)
        · exact he
        · exact absurd h3 (g4 k r hlt ((hd k r h2 h3).2 h1) h2)
      subst e
      exact g5.mono (Kp.cut_le (hl _ (by omega)))
    · exact absurd h3 (g1 k r ((hd k r h2 h3).2 h1) h2)
  · rw [h2]
    rcases h with ⟨k', r', g1, g2, g3, _, _⟩ | ⟨_, g2⟩
    · exact absurd g3 (h1 k' r' ((hd k' r' g2 g3).1 g1) g2)
    · exact g2.mono (Kp.cut_le (hl _ (Nat.zero_le _)))

/-- Where a region stands. -/
structure Inv (P : Program) (ro : Nat) (ops : Array Oper) (rs : List Rop) (E : Nat → Env) (Hs : Nat → Hp) (X : Nat → IV) (K0 : Kp) (w0 : World) (a0 : Act) (l : Array Bool) (a : Act) (w : World) (K : Kp) (q p : Nat) : Prop where
  size : l.size = ops.size
  clo : ∀ k i, dn l k → Anc ops i k → dn l i
  qp : q ≤ p
  pn : p ≤ rs.length
  qd : ∀ (k : Nat) (r : Rop), k < q → rs[k]? = some r → isTied r = true → dn l k
  nw : ∀ (k : Nat) (r : Rop), q ≤ k → k < p → rs[k]? = some r → isW r = false
  pu : p = rs.length ∨ ∃ r, rs[p]? = some r ∧ isW r = true ∧ ¬ dn l p
  rel : ∀ j, q ≤ j → j ≤ p → Rel (K.cut (Hs j).length) ro (Hs j) w
  top : ∀ b, (Hs p).length ≤ b → K.ρ b = none
  le : K0.le K
  fr : Fr K0 K ro (Hs 0).length (Hs 0).length w0 w
  rho : ∀ b L, K.ρ b = some L → b < (Hs 0).length ∨ ∃ k, k < rs.length ∧ dn l k ∧ (Hs k).length ≤ b ∧ b < (Hs (k + 1)).length
  slot : ∀ t, SlotOk rs E X l K a (fun k => (Hs (max k q)).length) t
  asz : a.tmps.size = a0.tmps.size
  adf : a.defers = a0.defers

/-- The first writer from q on. -/
theorem nextW (rs : List Rop) (q : Nat) (hq : q ≤ rs.length) : ∃ p, q ≤ p ∧ p ≤ rs.length ∧ (∀ (k : Nat) (r : Rop), q ≤ k → k < p → rs[k]? = some r → isW r = false) ∧ (p = rs.length ∨ ∃ r, rs[p]? = some r ∧ isW r = true) := by
  generalize hm : rs.length - q = m
  induction m generalizing q with
  | zero => exact ⟨q, Nat.le_refl _, hq, fun k r h1 h2 => by omega, .inl (by omega)⟩
  | succ m ih =>
    have hr : rs[q]? = some rs[q] := List.getElem?_eq_getElem (by omega)
    cases hw : isW rs[q] with
    | true => exact ⟨q, Nat.le_refl _, hq, fun k r h1 h2 => by omega, .inr ⟨_, hr, hw⟩⟩
    | false =>
      obtain ⟨p, h1, h2, h3, h4⟩ := ih (q + 1) (by omega) (by omega)
      refine ⟨p, by omega, h2, fun k r h5 h6 h7 => ?_, h4⟩
      by_cases e : k = q
      · subst e; rw [hr] at h7; cases h7; exact hw
      · exact h3 k r (by omega) h6 h7

theorem writes_true {d : Option Nat} {l : List Nat} {t : Nat} (hd : d = some t) (h : t ∈ l) : writes d l = true := by
  subst hd
  simp only [writes]
  induction l with
  | nil => cases h
  | cons x r ih =>
    simp only [hasN, Bool.or_eq_true]
    rcases List.mem_cons.1 h with rfl | h
    · left; simp
    · exact .inr (ih h)

theorem isTied_W {r : Rop} (h : isW r = true) : isTied r = true := by
  unfold isW at h; unfold isTied
  split at h
  · rename_i hc; rw [hc]
  · cases h

end
end Go.Vs
