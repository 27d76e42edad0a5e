import Derived.Test.YtinmpfflkcnkfaaTl11
import Derived.Test.YtinmpfflkcnkfaaVsIns4
/- A label set with other values: what comes of it. -/
namespace Go.Proofs.Ytinmpfflkcnkfaa
open Go Go.Vs
variable {ro : Nat} {H : Hp}

def Strict (l : List Pr) : Prop := List.Pairwise (fun a b => cN a b < 0) l

/-- How many come ahead. -/
def posP (x : Pr) (l : List Pr) : Nat := (l.takeWhile fun y => decide (cN y x < 0)).length
def hasP (x : Pr) (l : List Pr) : Bool := match l[posP x l]? with
  | some y => decide (cN y x = 0)
  | none => false
/-- One pair set. -/
def setP (x : Pr) (l : List Pr) : List Pr :=
  if hasP x l = true then (if x.2 = [] then l.eraseIdx (posP x l) else l.set (posP x l) x)
  else if x.2 = [] then l else l.take (posP x l) ++ x :: l.drop (posP x l)
def setAll (ps : List Pr) (l : List Pr) : List Pr := ps.foldl (fun l x => setP x l) l

theorem posP_le (x : Pr) (l : List Pr) : posP x l ≤ l.length := (List.takeWhile_prefix _).length_le
theorem cN_self (x : Pr) : cN x x = 0 := (cmpL_3.eq0 _ _).2 rfl
theorem cN_eq {x y : Pr} : cN x y = 0 ↔ x.1 = y.1 := cmpL_3.eq0 _ _

theorem take_pos {x : Pr} : ∀ {l : List Pr}, l.take (posP x l) = l.takeWhile fun y => decide (cN y x < 0)
  | [] => rfl
  | a :: l => by
    unfold posP
    simp only [List.takeWhile_cons]
    split
    · have := take_pos (x := x) (l := l)
      unfold posP at this
      simp only [List.length_cons, List.take_succ_cons, this]
    · rfl
theorem drop_pos {x : Pr} : ∀ {l : List Pr}, l.drop (posP x l) = l.dropWhile fun y => decide (cN y x < 0)
  | [] => rfl
  | a :: l => by
    unfold posP
    simp only [List.takeWhile_cons, List.dropWhile_cons]
    split
    · have := drop_pos (x := x) (l := l)
      unfold posP at this
      simp only [List.length_cons, List.drop_succ_cons, this]
    · rfl
/-- The order about the place. -/
theorem pos_lt {x : Pr} {l : List Pr} {j : Nat} (hj : j < posP x l) {y : Pr} (hy : l[j]? = some y) : cN y x < 0 := by
  have h1 : (l.take (posP x l))[j]? = some y := by rw [List.getElem?_take, if_pos hj]; exact hy
  rw [take_pos] at h1
  have h2 : ∀ {m : List Pr}, ∀ y ∈ m.takeWhile (fun y => decide (cN y x < 0)), cN y x < 0 := fun {m} => by
    induction m with
    | nil => simp
    | cons a m ih =>
      intro y hy
      rw [List.takeWhile_cons] at hy
      split at hy
      · rename_i h
        rcases List.mem_cons.1 hy with rfl | hy
        · simpa using h
        · exact ih y hy
      · cases hy
  exact h2 y (List.mem_of_getElem? h1)
theorem pos_ge {x : Pr} {l : List Pr} (hs : Strict l) {j : Nat} (hj : posP x l ≤ j) {y : Pr} (hy : l[j]? = some y) : 0 ≤ cN y x := by
  have h0 : posP x l < l.length := by have := (List.getElem?_eq_some_iff.1 hy).1; omega
  obtain ⟨a, ha⟩ : ∃ a, l[posP x l]? = some a := ⟨_, List.getElem?_eq_getElem h0⟩
  have h1 : 0 ≤ cN a x := by
    have h2 : (l.drop (posP x l))[0]? = some a := by rw [List.getElem?_drop, Nat.add_zero]; exact ha
    rw [drop_pos] at h2
    cases hd : l.dropWhile fun y => decide (cN y x < 0) with
    | nil => rw [hd] at h2; cases h2
    | cons b r =>
      rw [hd] at h2
      simp at h2; subst h2
      have := List.head?_dropWhile_not (fun y => decide (cN y x < 0)) l
      rw [hd] at this
      simp at this
      exact this
  rcases Nat.eq_or_lt_of_le hj with e | hlt
  · rw [e, hy] at ha; cases ha; exact h1
  · have h3 : cN a y < 0 := by
      obtain ⟨ha1, rfl⟩ := List.getElem?_eq_some_iff.1 ha
      obtain ⟨hy1, rfl⟩ := List.getElem?_eq_some_iff.1 hy
      exact List.pairwise_iff_getElem.1 hs _ _ ha1 hy1 hlt
    have h4 := cN_anti a y
    have h5 := cN_anti a x
    rcases Int.lt_or_le (cN y x) 0 with h | h
    · have h6 := cN_trans a y x (by omega) (by omega)
      have : cN a x = 0 := by omega
      have h7 : a.1 = x.1 := cN_eq.1 this
      have : cN y x = cN y a := by unfold cN; rw [h7]
      omega
    · exact h

theorem hasP_iff {x : Pr} {l : List Pr} (hs : Strict l) : hasP x l = true ↔ ∃ y ∈ l, y.1 = x.1 := by
  unfold hasP
  constructor
  · intro h
    split at h
    · rename_i y hy
      exact ⟨y, List.mem_of_getElem? hy, cN_eq.1 (by simpa using h)⟩
    · cases h
  · rintro ⟨y, hy, e⟩
    obtain ⟨j, hj⟩ := List.getElem?_of_mem hy
    have h0 : cN y x = 0 := cN_eq.2 e
    have hge : posP x l ≤ j := by
      rcases Nat.lt_or_ge j (posP x l) with h | h
      · have := pos_lt h hj; omega
      · exact h
    have hp : posP x l < l.length := by have := (List.getElem?_eq_some_iff.1 hj).1; omega
    obtain ⟨a, ha⟩ : ∃ a, l[posP x l]? = some a := ⟨_, List.getElem?_eq_getElem hp⟩
    rw [ha]
    simp only [decide_eq_true_eq]
    have h1 := pos_ge hs (Nat.le_refl _) ha
    rcases Nat.eq_or_lt_of_le hge with e2 | hlt
    · rw [e2, hj] at ha; cases ha; exact h0
    · have h3 : cN a y < 0 := by
        obtain ⟨ha1, rfl⟩ := List.getElem?_eq_some_iff.1 ha
        obtain ⟨hy1, rfl⟩ := List.getElem?_eq_some_iff.1 hj
        exact List.pairwise_iff_getElem.1 hs _ _ ha1 hy1 hlt
      have : cN a x = cN a y := by unfold cN; rw [e]
      omega

theorem pos_split {x : Pr} {l : List Pr} (hs : Strict l) : l.filter (fun y => decide (cN y x < 0)) = l.take (posP x l) ∧ l.filter (fun y => decide (0 < cN y x)) = if hasP x l = true then l.drop (posP x l + 1) else l.drop (posP x l) := by
  have h1 : ∀ y ∈ l.take (posP x l), cN y x < 0 := fun y hy => by
    obtain ⟨j, hj⟩ := List.getElem?_of_mem hy
    rw [List.getElem?_take] at hj
    split at hj
    · exact pos_lt ‹_› hj
    · cases hj
  have h2 : ∀ y ∈ l.drop (posP x l), 0 ≤ cN y x := fun y hy => by
    obtain ⟨j, hj⟩ := List.getElem?_of_mem hy
    rw [List.getElem?_drop] at hj
    exact pos_ge hs (Nat.le_add_right _ _) hj
  constructor
  · conv => lhs; rw [← List.take_append_drop (posP x l) l]
    rw [List.filter_append, List.filter_eq_self.2 fun y hy => decide_eq_true (h1 y hy), List.filter_eq_nil_iff.2 fun y hy => by have := h2 y hy; simp; omega, List.append_nil]
  · conv => lhs; rw [← List.take_append_drop (posP x l) l]
    rw [List.filter_append, List.filter_eq_nil_iff.2 fun y hy => by have := h1 y hy; simp; omega, List.nil_append]
    split
    · rename_i hh
      unfold hasP at hh
      split at hh
      · rename_i a ha
        have h0 : cN a x = 0 := by simpa using hh
        obtain ⟨hlt, rfl⟩ := List.getElem?_eq_some_iff.1 ha
        rw [List.drop_eq_getElem_cons hlt, List.filter_cons_of_neg (by simp [h0]), List.filter_eq_self]
        intro y hy
        obtain ⟨j, hj⟩ := List.getElem?_of_mem hy
        rw [List.getElem?_drop] at hj
        obtain ⟨hj1, rfl⟩ := List.getElem?_eq_some_iff.1 hj
        have h3 := List.pairwise_iff_getElem.1 hs _ _ hlt hj1 (by omega)
        have h4 : (l[posP x l]).1 = x.1 := cN_eq.1 h0
        have h5 : cN l[posP x l] l[posP x l + 1 + j] = cN x l[posP x l + 1 + j] := by unfold cN; rw [h4]
        have h6 := cN_anti x l[posP x l + 1 + j]
        simp; omega
      · cases hh
    · rename_i hh
      rw [List.filter_eq_self]
      intro y hy
      have h3 := h2 y hy
      have h4 : cN y x ≠ 0 := fun e => hh ((hasP_iff hs).2 ⟨y, List.mem_of_mem_drop hy, cN_eq.1 e⟩)
      simp; omega

theorem setP_eq {x : Pr} {l : List Pr} (hs : Strict l) : setP x l = l.filter (fun y => decide (cN y x < 0)) ++ ((if x.2 = [] then [] else [x]) ++ l.filter (fun y => decide (0 < cN y x))) := by
  obtain ⟨h1, h2⟩ := pos_split (x := x) hs
  rw [h1, h2]
  unfold setP
  by_cases hh : hasP x l = true
  · have hlt : posP x l < l.length := by
      unfold hasP at hh
      split at hh
      · rename_i y hy; exact (List.getElem?_eq_some_iff.1 hy).1
      · cases hh
    rw [if_pos hh, if_pos hh]
    by_cases hx : x.2 = []
    · rw [if_pos hx, if_pos hx, List.eraseIdx_eq_take_drop_succ, List.nil_append]
    · rw [if_neg hx, if_neg hx, List.set_eq_take_append_cons_drop, if_pos hlt]; rfl
  · rw [if_neg hh, if_neg hh]
    by_cases hx : x.2 = []
    · rw [if_pos hx, if_pos hx, List.nil_append, List.take_append_drop]
    · rw [if_neg hx, if_neg hx]; rfl

/-- What is in it then. -/
theorem setP_mem {x : Pr} {l : List Pr} (hs : Strict l) {y : Pr} : y ∈ setP x l ↔ (y ∈ l ∧ y.1 ≠ x.1) ∨ (y = x ∧ x.2 ≠ []) := by
  rw [setP_eq hs]
  have e : y.1 ≠ x.1 ↔ cN y x < 0 ∨ 0 < cN y x := by
    have h1 := cN_eq (x := y) (y := x)
    constructor
    · intro h
      have : cN y x ≠ 0 := fun e => h (h1.1 e)
      omega
    · intro h e
      have := h1.2 e
      omega
  by_cases hx : x.2 = []
  · rw [if_pos hx]
    simp only [List.mem_append, List.mem_filter, decide_eq_true_eq, List.not_mem_nil, false_or, hx, ne_eq, not_true_eq_false, and_false, or_false]
    constructor
    · rintro (⟨h1, h2⟩ | ⟨h1, h2⟩)
      · exact ⟨h1, e.2 (.inl h2)⟩
      · exact ⟨h1, e.2 (.inr h2)⟩
    · rintro ⟨h1, h2⟩
      rcases e.1 h2 with h | h
      · exact .inl ⟨h1, h⟩
      · exact .inr ⟨h1, h⟩
  · rw [if_neg hx]
    simp only [List.mem_append, List.mem_filter, decide_eq_true_eq, List.mem_singleton, ne_eq, hx, not_false_eq_true, and_true]
    constructor
    · rintro (⟨h1, h2⟩ | h | ⟨h1, h2⟩)
      · exact .inl ⟨h1, e.2 (.inl h2)⟩
      · exact .inr h
      · exact .inl ⟨h1, e.2 (.inr h2)⟩
    · rintro (⟨h1, h2⟩ | h)
      · rcases e.1 h2 with h | h
        · exact .inl ⟨h1, h⟩
        · exact .inr (.inr ⟨h1, h⟩)
      · exact .inr (.inl h)
theorem cN_lt {x y z : Pr} (h1 : cN x y < 0) (h2 : cN y z < 0) : cN x z < 0 := cmpL_3.lt_trans h1 (Int.le_of_lt h2)
theorem setP_strict {x : Pr} {l : List Pr} (hs : Strict l) : Strict (setP x l) := by
  rw [setP_eq hs]
  have hgt : ∀ {y}, 0 < cN y x → cN x y < 0 := fun {y} h => by have := cN_anti x y; omega
  refine List.pairwise_append.2 ⟨hs.sublist List.filter_sublist, List.pairwise_append.2 ⟨?_, hs.sublist List.filter_sublist, fun a ha b hb => ?_⟩, fun a ha b hb => ?_⟩
  · split <;> simp
  · split at ha
    · cases ha
    · simp at ha; subst ha
      simp only [List.mem_filter, decide_eq_true_eq] at hb
      exact hgt hb.2
  · simp only [List.mem_filter, decide_eq_true_eq] at ha
    rcases List.mem_append.1 hb with hb | hb
    · split at hb
      · cases hb
      · simp at hb; subst hb; exact ha.2
    · simp only [List.mem_filter, decide_eq_true_eq] at hb
      exact cN_lt ha.2 (hgt hb.2)

theorem strict_ext : ∀ {l m : List Pr}, Strict l → Strict m → (∀ y, y ∈ l ↔ y ∈ m) → l = m
  | [], [], _, _, _ => rfl
  | [], b :: m, _, _, h => by have := (h b).2 (List.mem_cons_self ..); cases this
  | a :: l, [], _, _, h => by have := (h a).1 (List.mem_cons_self ..); cases this
  | a :: l, b :: m, hl, hm, h => by
    have hl2 := List.pairwise_cons.1 hl
    have hm2 := List.pairwise_cons.1 hm
    have hab : a = b := by
      rcases List.mem_cons.1 ((h a).1 (List.mem_cons_self ..)) with e | h1
      · exact e
      · rcases List.mem_cons.1 ((h b).2 (List.mem_cons_self ..)) with e | h2
        · exact e.symm
        · have h3 := hm2.1 a h1
          have h4 := hl2.1 b h2
          have := cN_anti a b
          omega
    subst hab
    have hne : ∀ {n : List Pr}, (∀ y ∈ n, cN a y < 0) → a ∉ n := fun h1 h2 => by have := h1 a h2; rw [cN_self] at this; omega
    congr 1
    refine strict_ext hl2.2 hm2.2 fun y => ⟨fun hy => ?_, fun hy => ?_⟩
    · rcases List.mem_cons.1 ((h y).1 (List.mem_cons_of_mem _ hy)) with rfl | h1
      · exact absurd hy (hne hl2.1)
      · exact h1
    · rcases List.mem_cons.1 ((h y).2 (List.mem_cons_of_mem _ hy)) with rfl | h1
      · exact absurd hy (hne hm2.1)
      · exact h1

theorem setP_comm {x y : Pr} {l : List Pr} (hs : Strict l) (hne : x.1 ≠ y.1) : setP y (setP x l) = setP x (setP y l) := by
  refine strict_ext (setP_strict (setP_strict hs)) (setP_strict (setP_strict hs)) fun u => ?_
  rw [setP_mem (setP_strict hs), setP_mem hs, setP_mem (setP_strict hs), setP_mem hs]
  constructor
  · rintro (⟨⟨h1, h2⟩ | ⟨rfl, h2⟩, h3⟩ | ⟨rfl, h2⟩)
    · exact .inl ⟨.inl ⟨h1, h3⟩, h2⟩
    · exact .inr ⟨rfl, h2⟩
    · exact .inl ⟨.inr ⟨rfl, h2⟩, Ne.symm hne⟩
  · rintro (⟨⟨h1, h2⟩ | ⟨rfl, h2⟩, h3⟩ | ⟨rfl, h2⟩)
    · exact .inl ⟨.inl ⟨h1, h3⟩, h2⟩
    · exact .inr ⟨rfl, h2⟩
    · exact .inl ⟨.inr ⟨rfl, h2⟩, hne⟩
theorem setP_get {x : Pr} {l : List Pr} (hs : Strict l) : getB x.1 (setP x l) = x.2 := by
  have h2 := setP_strict (x := x) hs
  by_cases hx : x.2 = []
  · rw [hx]
    refine get_not fun y hy e => ?_
    rcases (setP_mem hs).1 hy with ⟨_, h⟩ | ⟨_, h⟩
    · exact h e
    · exact h hx
  · exact get_mem h2 ((setP_mem hs).2 (.inr ⟨rfl, hx⟩))
theorem setP_get_other {x y : Pr} {l : List Pr} (hs : Strict l) (hy : y ∈ l) (hne : y.1 ≠ x.1) : getB y.1 (setP x l) = y.2 :=
  get_mem (setP_strict hs) ((setP_mem hs).2 (.inl ⟨hy, hne⟩))
end Go.Proofs.Ytinmpfflkcnkfaa
