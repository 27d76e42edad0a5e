import Derived.Test.YtnfddeiegbifhaaDoorTy5
/- The samples of the law, in plain words. -/
namespace Go.Proofs.YtnfddeiegbifhaaDoor
open Go Go.Vs

theorem nrm_t (x : Sm) : (nrm x).t = x.t := by unfold nrm; split <;> rfl

theorem upt_eq {n : Int} {l : List Sm} (hI : Inc l) {k : Nat} (hk : k ≤ l.length) (h1 : ∀ j y, j < k → l[j]? = some y → y.t ≤ n) (h2 : ∀ j y, k ≤ j → l[j]? = some y → n < y.t) : upt n l = k := by
  have hle := upt_le n l
  rcases Nat.lt_trichotomy (upt n l) k with h | h | h
  · obtain ⟨y, hy⟩ : ∃ y, l[upt n l]? = some y := ⟨_, List.getElem?_eq_getElem (by omega)⟩
    have a := h1 _ y h hy
    have b := (upt_split hI _ y hy).1 a
    omega
  · exact h
  · obtain ⟨y, hy⟩ : ∃ y, l[k]? = some y := ⟨_, List.getElem?_eq_getElem (by omega)⟩
    have a := h2 _ y (Nat.le_refl _) hy
    have b := (upt_split hI _ y hy).2 h
    omega

abbrev Nm := Bool × Int
/-- The samples kept after so many. -/
def SS (g : Int) (V : List Nm) : List Sm := V.mapIdx fun j x => nrm ⟨g * (j + 1), x.1, x.2⟩
theorem SS_len {g : Int} {V : List Nm} : (SS g V).length = V.length := by simp [SS]
theorem SS_get {g : Int} {V : List Nm} {j : Nat} : (SS g V)[j]? = (V[j]?).map fun x => nrm ⟨g * (j + 1), x.1, x.2⟩ := by simp [SS]
theorem SS_t {g : Int} {V : List Nm} {j : Nat} {y : Sm} (h : (SS g V)[j]? = some y) : y.t = g * (j + 1) := by
  rw [SS_get] at h
  obtain ⟨x, _, rfl⟩ := Option.map_eq_some_iff.1 h
  rw [nrm_t]
theorem SS_snoc {g : Int} {V : List Nm} {x : Nm} : SS g (V ++ [x]) = SS g V ++ [nrm ⟨g * (V.length + 1), x.1, x.2⟩] := by
  simp [SS, List.mapIdx_append]
theorem SS_inc {g : Int} (hg : 0 < g) {V : List Nm} : Inc (SS g V) := by
  unfold Inc
  rw [List.pairwise_iff_getElem]
  intro i j hi hj hij
  have a := SS_t (g := g) (V := V) (List.getElem?_eq_getElem hi)
  have b := SS_t (g := g) (V := V) (List.getElem?_eq_getElem hj)
  rw [a, b]
  exact Int.mul_lt_mul_of_pos_left (by omega) hg

theorem SS_upt {g m : Int} (hg : 0 < g) {V : List Nm} {k : Nat} (hk : k ≤ V.length) (h1 : g * k ≤ m) (h2 : k < V.length → m < g * (k + 1)) : upt m (SS g V) = k := by
  refine upt_eq (SS_inc hg) (by rw [SS_len]; exact hk) (fun j y hj hy => ?_) (fun j y hj hy => ?_)
  · rw [SS_t hy]
    have := Int.mul_le_mul_of_nonneg_left (a := (j : Int) + 1) (b := k) (c := g) (by omega) (by omega)
    omega
  · rw [SS_t hy]
    have hl := (List.getElem?_eq_some_iff.1 hy).1
    rw [SS_len] at hl
    have := h2 (by omega)
    have := Int.mul_le_mul_of_nonneg_left (a := (k : Int) + 1) (b := j + 1) (c := g) (by omega) (by omega)
    omega

theorem SS_last {g m : Int} {V : List Nm} {k : Nat} {y : Sm} (hu : upt m (SS g V) = k + 1) (hy : (SS g V)[k]? = some y) : lastS m (SS g V) = y := by
  unfold lastS
  rw [hu, if_pos (by omega)]
  show ((SS g V)[k]?).getD zeroS = y
  rw [hy]; rfl

theorem SS_at {g : Int} (hg : 0 < g) {V : List Nm} {i : Nat} {y : Sm} (hy : (SS g V)[i]? = some y) : atB (g * (i + 1)) (SS g V) = true ∧ lastS (g * (i + 1)) (SS g V) = y := by
  have hl := (List.getElem?_eq_some_iff.1 hy).1
  rw [SS_len] at hl
  have hu : upt (g * (i + 1)) (SS g V) = i + 1 := SS_upt hg (by omega) (by push_cast; omega) (fun _ => by
    push_cast
    exact Int.mul_lt_mul_of_pos_left (by omega) hg)
  have hL := SS_last hu hy
  refine ⟨?_, hL⟩
  unfold atB
  rw [hL, hu, SS_t hy]
  simp
  omega
theorem SS_btw {g : Int} (hg : 0 < g) {V : List Nm} {i : Nat} (hi : i < V.length) : upt (g * (i + 1) - 1) (SS g V) = i ∧ upt (g * (i + 1)) (SS g V) = i + 1 := by
  have e : g * ((i : Int) + 1) = g * i + g := by rw [Int.mul_add, Int.mul_one]
  refine ⟨SS_upt hg (by omega) (by omega) (fun _ => by omega), SS_upt hg (by omega) (by push_cast; omega) (fun _ => by
    push_cast
    exact Int.mul_lt_mul_of_pos_left (by omega) hg)⟩
theorem SS_late {g : Int} (hg : 0 < g) {V : List Nm} {i : Nat} (hi : i < V.length) : atB (g * (i + 1) + 10) (SS g V) = (decide (g ≤ 10) && decide (i + 1 < V.length)) := by
  have hI := SS_inc hg (V := V)
  obtain ⟨u, hu⟩ : ∃ u, u = upt (g * (i + 1) + 10) (SS g V) := ⟨_, rfl⟩
  have hul := upt_le (g * (i + 1) + 10) (SS g V)
  rw [SS_len, ← hu] at hul
  have hsp : ∀ j < V.length, (g * (j + 1) ≤ g * (i + 1) + 10 ↔ j < u) := fun j hj => by
    obtain ⟨y, hy⟩ : ∃ y, (SS g V)[j]? = some y := ⟨_, List.getElem?_eq_getElem (by rw [SS_len]; exact hj)⟩
    have := upt_split (n := g * (i + 1) + 10) hI j y hy
    rw [SS_t hy, ← hu] at this
    exact this
  have hiu : i < u := (hsp i hi).1 (by omega)
  obtain ⟨y, hy⟩ : ∃ y, (SS g V)[u - 1]? = some y := ⟨_, List.getElem?_eq_getElem (by rw [SS_len]; omega)⟩
  have hL : lastS (g * (i + 1) + 10) (SS g V) = y := SS_last (k := u - 1) (by omega) hy
  unfold atB
  rw [hL, SS_t hy, ← hu, decide_eq_true (by omega : 0 < u), Bool.true_and, ← Bool.decide_and]
  refine decide_eq_decide.2 ?_
  have e0 : ((u - 1 : Nat) : Int) + 1 = u := by omega
  rw [e0]
  have e1 : g * (i + 1) + 10 - 10 < g * (u : Int) ↔ i + 1 < u := by
    rw [show g * ((i : Int) + 1) + 10 - 10 = g * (i + 1) by omega]
    constructor
    · intro h
      have := Int.lt_of_mul_lt_mul_left h (by omega)
      omega
    · intro h
      exact Int.mul_lt_mul_of_pos_left (by omega) hg
  rw [e1]
  by_cases c : i + 1 < V.length
  · have := hsp (i + 1) c
    have e2 : g * (((i + 1 : Nat) : Int) + 1) = g * (i + 1) + g := by push_cast; rw [Int.mul_add, Int.mul_one]
    rw [e2] at this
    constructor
    · intro h; exact ⟨by have := this.2 h; omega, c⟩
    · intro h; exact this.1 (by omega)
  · constructor
    · intro h; omega
    · intro h; exact absurd h.2 c

/-- Is it a number? -/
def isN (x : Nm) : Bool := (x.1 == true && x.2 == 0) || (!x.1 && x.2 != -9223372036854775808)
theorem want_nrm (t : Int) (x : Nm) : (if isN x then x else (true, 0)) = ((nrm ⟨t, x.1, x.2⟩).o, (nrm ⟨t, x.1, x.2⟩).n) := by
  obtain ⟨o, n⟩ := x
  unfold isN nrm
  cases o
  · by_cases h : n = -9223372036854775808
    · simp [h]
    · simp [h]
  · by_cases h : n = 0
    · simp [h]
    · simp [h]
end Go.Proofs.YtnfddeiegbifhaaDoor
