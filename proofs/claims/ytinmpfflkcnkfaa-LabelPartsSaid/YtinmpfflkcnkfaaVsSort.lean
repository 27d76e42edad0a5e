/- Insertion sort, in plain Lean: as the library's loops do it. -/
import Derived.Test.YtinmpfflkcnkfaaVsCmp
namespace Go.Vs

section
variable {α : Type} (c : α → α → Int)

/-- Into a row that is sorted, the last first. -/
def insR (x : α) : List α → List α
  | [] => [x]
  | p :: ps => if c x p < 0 then p :: insR x ps else x :: p :: ps
def isortR (l : List α) : List α := l.foldl (fun a x => insR c x a) []
def isort (l : List α) : List α := (isortR c l).reverse

variable {c}
theorem insR_perm {x : α} : ∀ {ps : List α}, List.Perm (insR c x ps) (x :: ps)
  | [] => .refl _
  | p :: ps => by
    rw [insR]
    split
    · exact (List.Perm.cons p insR_perm).trans (.swap x p ps)
    · exact .refl _
theorem insR_len {x : α} {ps : List α} : (insR c x ps).length = ps.length + 1 := by rw [insR_perm.length_eq]; rfl
theorem foldl_perm : ∀ (l a : List α), List.Perm (l.foldl (fun a x => insR c x a) a) (l ++ a)
  | [], a => .refl _
  | x :: l, a => by
    rw [List.foldl_cons]
    refine (foldl_perm l _).trans ?_
    exact (List.Perm.append_left l insR_perm).trans List.perm_middle
theorem isort_perm (l : List α) : List.Perm (isort c l) l := by
  refine (List.reverse_perm _).trans ((foldl_perm l []).trans ?_)
  rw [List.append_nil]
theorem isort_len (l : List α) : (isort c l).length = l.length := (isort_perm l).length_eq

/-- Sorted, the last first. -/
def RevS (c : α → α → Int) : List α → Prop := List.Pairwise fun a b => c b a ≤ 0
theorem insR_sorted (hanti : ∀ x y, c x y = - c y x) (htr : ∀ x y z, c x y ≤ 0 → c y z ≤ 0 → c x z ≤ 0) {x : α} : ∀ {ps : List α}, RevS c ps → RevS c (insR c x ps)
  | [], _ => by simp [insR, RevS]
  | p :: ps, h => by
    obtain ⟨h1, h2⟩ := List.pairwise_cons.1 h
    rw [insR]
    split
    · rename_i hlt
      refine List.pairwise_cons.2 ⟨fun y hy => ?_, insR_sorted hanti htr h2⟩
      rcases List.mem_cons.1 (insR_perm.mem_iff.1 hy) with rfl | hy
      · omega
      · exact h1 y hy
    · rename_i hge
      have h3 := hanti x p
      refine List.pairwise_cons.2 ⟨fun y hy => ?_, h⟩
      rcases List.mem_cons.1 hy with rfl | hy
      · omega
      · exact htr y p x (h1 y hy) (by omega)
theorem isortR_sorted (hanti : ∀ x y, c x y = - c y x) (htr : ∀ x y z, c x y ≤ 0 → c y z ≤ 0 → c x z ≤ 0) (l : List α) : RevS c (isortR c l) := by
  have : ∀ (l a : List α), RevS c a → RevS c (l.foldl (fun a x => insR c x a) a) := by
    intro l
    induction l with
    | nil => intro a h; exact h
    | cons x l ih => intro a h; exact ih _ (insR_sorted hanti htr h)
  exact this l [] List.Pairwise.nil
theorem isort_sorted (hanti : ∀ x y, c x y = - c y x) (htr : ∀ x y z, c x y ≤ 0 → c y z ≤ 0 → c x z ≤ 0) (l : List α) : List.Pairwise (fun a b => c a b ≤ 0) (isort c l) := by
  rw [isort, List.pairwise_reverse]
  exact isortR_sorted hanti htr l

/-- A row that is sorted, none like another, is the only one of its elements. -/
theorem sorted_unique (hanti : ∀ x y, c x y = - c y x) : ∀ {l m : List α}, List.Perm l m → List.Pairwise (fun a b => c a b < 0) l → List.Pairwise (fun a b => c a b < 0) m → l = m
  | [], m, h, _, _ => h.nil_eq
  | a :: l, [], h, _, _ => absurd h.symm.nil_eq (by simp)
  | a :: l, b :: m, h, h1, h2 => by
    obtain ⟨p1, q1⟩ := List.pairwise_cons.1 h1
    obtain ⟨p2, q2⟩ := List.pairwise_cons.1 h2
    have hab : a = b := by
      have ha : a ∈ b :: m := h.mem_iff.1 (List.mem_cons_self ..)
      have hb : b ∈ a :: l := h.mem_iff.2 (List.mem_cons_self ..)
      rcases List.mem_cons.1 ha with e | ha
      · exact e
      · rcases List.mem_cons.1 hb with e | hb
        · exact e.symm
        · have x1 := p2 a ha
          have x2 := p1 b hb
          have := hanti a b
          omega
    subst hab
    rw [sorted_unique hanti (List.perm_cons a |>.1 h) q1 q2]

/-- Where no two are alike, whatever order they came in. -/
theorem isort_unique (hanti : ∀ x y, c x y = - c y x) (htr : ∀ x y z, c x y ≤ 0 → c y z ≤ 0 → c x z ≤ 0) {l m : List α} (h : List.Perm l m) (hd : List.Pairwise (fun a b => c a b ≠ 0) l) : isort c l = isort c m := by
  have strict : ∀ {k : List α}, List.Perm k l → List.Pairwise (fun a b => c a b < 0) (isort c k) := by
    intro k hk
    have h1 := isort_sorted hanti htr k
    have h2 : List.Pairwise (fun a b => c a b ≠ 0) (isort c k) :=
      ((isort_perm k).trans hk).symm.pairwise hd fun {x y} hxy hyx => hxy (by have := hanti x y; omega)
    exact (h1.and h2).imp fun {a b} hab => by have := hab.1; have := hab.2; omega
  exact sorted_unique hanti ((isort_perm l).trans (h.trans (isort_perm m).symm)) (strict (.refl _)) (strict h.symm)
end
end Go.Vs
