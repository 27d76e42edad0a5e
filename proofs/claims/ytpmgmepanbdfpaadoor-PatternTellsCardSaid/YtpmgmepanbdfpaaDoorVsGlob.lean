/- Patterns over bytes, in plain Lean: '*' any row, '?' any one. -/
import Derived.Test.YtpmgmepanbdfpaaDoorVsStr
namespace Go.Vs

/-- Does a pattern match? -/
def gm : List UInt8 → List UInt8 → Bool
  | [], s => s.isEmpty
  | c :: p, [] => c == 42 && gm p []
  | c :: p, b :: t => if c == 42 then gm p (b :: t) || gm (c :: p) t else (c == 63 || c == b) && gm p t
termination_by p s => (p.length, s.length)

theorem gm_nil {s : List UInt8} : gm [] s = s.isEmpty := by unfold gm; rfl
theorem gm_star_nil {p : List UInt8} : gm (42 :: p) [] = gm p [] := by rw [gm]; simp
theorem gm_star_cons {p : List UInt8} {b : UInt8} {t : List UInt8} : gm (42 :: p) (b :: t) = (gm p (b :: t) || gm (42 :: p) t) := by rw [gm]; simp
theorem gm_char_nil {c : UInt8} {p : List UInt8} (h : c ≠ 42) : gm (c :: p) [] = false := by rw [gm]; simp [h]
theorem gm_char_cons {c : UInt8} {p : List UInt8} {b : UInt8} {t : List UInt8} (h : c ≠ 42) : gm (c :: p) (b :: t) = ((c == 63 || c == b) && gm p t) := by rw [gm]; simp [h]

/-- A star: some row ahead, then the rest. -/
theorem gm_star {p : List UInt8} : ∀ {s : List UInt8}, gm (42 :: p) s = true ↔ ∃ a b, s = a ++ b ∧ gm p b = true
  | [] => by
    rw [gm_star_nil]
    constructor
    · exact fun h => ⟨[], [], rfl, h⟩
    · rintro ⟨a, b, h, hb⟩
      have : b = [] := by have := congrArg List.length h; simp at this; exact List.eq_nil_of_length_eq_zero (by omega)
      rw [this] at hb; exact hb
  | x :: t => by
    rw [gm_star_cons, Bool.or_eq_true, gm_star (s := t)]
    constructor
    · rintro (h | ⟨a, b, rfl, h⟩)
      · exact ⟨[], x :: t, rfl, h⟩
      · exact ⟨x :: a, b, rfl, h⟩
    · rintro ⟨a, b, h, hb⟩
      cases a with
      | nil => simp at h; subst h; exact .inl hb
      | cons y a => simp at h; obtain ⟨rfl, rfl⟩ := h; exact .inr ⟨a, b, rfl, hb⟩

theorem gm_char {c : UInt8} (hc : c ≠ 42) {p s : List UInt8} : gm (c :: p) s = true ↔ ∃ b t, s = b :: t ∧ (c = 63 ∨ c = b) ∧ gm p t = true := by
  cases s with
  | nil => rw [gm_char_nil hc]; simp
  | cons b t =>
    rw [gm_char_cons hc]
    simp only [Bool.and_eq_true, Bool.or_eq_true, beq_iff_eq]
    constructor
    · exact fun h => ⟨b, t, rfl, h⟩
    · rintro ⟨b', t', h, h2⟩; cases h; exact h2

/-- A pattern behind another. -/
theorem gm_append {q : List UInt8} : ∀ {p s : List UInt8}, gm (p ++ q) s = true ↔ ∃ a b, s = a ++ b ∧ gm p a = true ∧ gm q b = true
  | [], s => by
    constructor
    · exact fun h => ⟨[], s, rfl, by simp [gm_nil], h⟩
    · rintro ⟨a, b, rfl, ha, hb⟩
      rw [gm_nil] at ha
      have : a = [] := by simpa using ha
      subst this; exact hb
  | c :: p, s => by
    by_cases hc : c = 42
    · subst hc
      rw [List.cons_append, gm_star]
      constructor
      · rintro ⟨a, b, rfl, h⟩
        obtain ⟨a', b', rfl, h1, h2⟩ := gm_append.1 h
        exact ⟨a ++ a', b', by simp, gm_star.2 ⟨a, a', rfl, h1⟩, h2⟩
      · rintro ⟨a, b, rfl, h1, h2⟩
        obtain ⟨a', b', rfl, h3⟩ := gm_star.1 h1
        exact ⟨a', b' ++ b, by simp, gm_append.2 ⟨b', b, rfl, h3, h2⟩⟩
    · rw [List.cons_append, gm_char hc]
      constructor
      · rintro ⟨b, t, rfl, hb, h⟩
        obtain ⟨a', b', rfl, h1, h2⟩ := gm_append.1 h
        exact ⟨b :: a', b', rfl, (gm_char hc).2 ⟨b, a', rfl, hb, h1⟩, h2⟩
      · rintro ⟨a, b, rfl, h1, h2⟩
        obtain ⟨x, t, rfl, hx, h3⟩ := (gm_char hc).1 h1
        exact ⟨x, t ++ b, rfl, hx, gm_append.2 ⟨t, b, rfl, h3, h2⟩⟩

/-! signs that are no star, one by one -/
def fits1 (c b : UInt8) : Bool := c == 63 || c == b
/-- A row of signs without a star over as long a text. -/
def seg : List UInt8 → List UInt8 → Bool
  | [], [] => true
  | c :: p, b :: t => c != 42 && fits1 c b && seg p t
  | _, _ => false
theorem seg_len : ∀ {p t : List UInt8}, seg p t = true → p.length = t.length
  | [], [], _ => rfl
  | [], _ :: _, h => by simp [seg] at h
  | _ :: _, [], h => by simp [seg] at h
  | c :: p, b :: t, h => by simp [seg] at h; simp [seg_len h.2]
theorem seg_snoc : ∀ {p t : List UInt8} {c b : UInt8}, seg p t = true → c ≠ 42 → fits1 c b = true → seg (p ++ [c]) (t ++ [b]) = true
  | [], [], c, b, _, h1, h2 => by simp [seg, h1, h2]
  | [], _ :: _, _, _, h, _, _ => by simp [seg] at h
  | _ :: _, [], _, _, h, _, _ => by simp [seg] at h
  | x :: p, y :: t, c, b, h, h1, h2 => by
    simp [seg] at h ⊢
    exact ⟨h.1, seg_snoc h.2 h1 h2⟩
theorem gm_seg {q u : List UInt8} : ∀ {p t : List UInt8}, seg p t = true → gm (p ++ q) (t ++ u) = gm q u
  | [], [], _ => rfl
  | [], _ :: _, h => by simp [seg] at h
  | _ :: _, [], h => by simp [seg] at h
  | c :: p, b :: t, h => by
    simp [seg] at h
    obtain ⟨⟨h1, h2⟩, h3⟩ := h
    rw [List.cons_append, List.cons_append, gm_char_cons h1, gm_seg h3]
    unfold fits1 at h2
    rw [h2]; rfl
/-- Such a row takes as many as it has. -/
def noStar (p : List UInt8) : Prop := ∀ c ∈ p, c ≠ 42
theorem seg_noStar : ∀ {p t : List UInt8}, seg p t = true → noStar p
  | [], _, _ => by simp [noStar]
  | _ :: _, [], h => by simp [seg] at h
  | c :: p, b :: t, h => by
    simp [seg] at h
    intro x hx
    rcases List.mem_cons.1 hx with rfl | hx
    · exact h.1.1
    · exact seg_noStar h.2 x hx
theorem gm_len {q : List UInt8} : ∀ {p s : List UInt8}, noStar p → gm (p ++ q) s = true → ∃ a b, s = a ++ b ∧ a.length = p.length ∧ gm q b = true
  | [], s, _, h => ⟨[], s, rfl, rfl, h⟩
  | c :: p, s, hn, h => by
    have hc := hn c (List.mem_cons_self ..)
    obtain ⟨b, t, rfl, _, h2⟩ := (gm_char hc).1 h
    obtain ⟨a', b', rfl, h3, h4⟩ := gm_len (fun x hx => hn x (List.mem_cons_of_mem _ hx)) h2
    exact ⟨b :: a', b', rfl, by simp [h3], h4⟩

/-- A star takes what is ahead. -/
theorem gm_star_suffix {p a b : List UInt8} (h : gm (42 :: p) b = true) : gm (42 :: p) (a ++ b) = true := by
  obtain ⟨c, d, rfl, h2⟩ := gm_star.1 h
  exact gm_star.2 ⟨a ++ c, d, by simp, h2⟩

/-- The first place serves, where a star follows. -/
theorem gm_greedy {p r m t : List UInt8} (h : seg p m = true) : gm (42 :: (p ++ 42 :: r)) (m ++ t) = gm (42 :: r) t := by
  rw [Bool.eq_iff_iff]
  constructor
  · intro h1
    obtain ⟨a, b, e, h2⟩ := gm_star.1 h1
    obtain ⟨a', b', rfl, h3, h4⟩ := gm_len (seg_noStar h) h2
    have hl := seg_len h
    -- b' is an end of t
    have e2 : t = (m ++ t).drop m.length := by simp
    have e3 : (m ++ t).drop m.length = (a ++ a').drop m.length ++ b' := by
      rw [e, ← List.append_assoc, List.drop_append_of_le_length]
      simp; omega
    rw [e2, e3]
    exact gm_star_suffix h4
  · intro h1
    exact gm_star.2 ⟨[], m ++ t, rfl, by rw [gm_seg h]; exact h1⟩

/-- Where no more is left than the row is long, the star takes nothing. -/
theorem gm_tight {p q m : List UInt8} (h : seg p m = true) : gm (42 :: (p ++ q)) m = gm q [] := by
  rw [Bool.eq_iff_iff]
  constructor
  · intro h1
    obtain ⟨a, b, e, h2⟩ := gm_star.1 h1
    obtain ⟨a', b', rfl, h3, h4⟩ := gm_len (seg_noStar h) h2
    have hl := seg_len h
    have : b' = [] := by
      have := congrArg List.length e
      simp at this
      exact List.eq_nil_of_length_eq_zero (by omega)
    rw [this] at h4; exact h4
  · intro h1
    refine gm_star.2 ⟨[], m, rfl, ?_⟩
    have := gm_seg (q := q) (u := []) h
    rw [List.append_nil] at this
    rw [this]; exact h1

/-- What is left is stars. -/
theorem gm_stars {p : List UInt8} : gm p [] = p.all (· == 42) := by
  induction p with
  | nil => simp [gm_nil]
  | cons c p ih =>
    by_cases hc : c = 42
    · subst hc; rw [gm_star_nil, ih]; simp
    · rw [gm_char_nil hc]; simp [hc]

/-- What a run of the program's matcher holds of where it is: the signs behind the last star, the text from where it began. -/
inductive GAt (pat s : List UInt8) : Nat → Nat → Int → Nat → Prop
  | first {p i : Nat} (hp : p ≤ pat.length) (hi : i ≤ s.length) (h : seg (pat.take p) (s.take i) = true) : GAt pat s p i (-1) 0
  | star {p i st fr : Nat} (hp : p ≤ pat.length) (hi : i ≤ s.length) (h1 : st < p) (h2 : fr ≤ i) (h3 : pat[st]? = some 42) (h4 : seg ((pat.drop (st + 1)).take (p - (st + 1))) ((s.drop fr).take (i - fr)) = true)
      (h5 : gm pat s = gm (42 :: pat.drop (st + 1)) (s.drop fr)) : GAt pat s p i st fr

theorem drop_cons {l : List UInt8} {i : Nat} {x : UInt8} (h : l[i]? = some x) : l.drop i = x :: l.drop (i + 1) := by
  obtain ⟨hlt, e⟩ := List.getElem?_eq_some_iff.1 h
  rw [List.drop_eq_getElem_cons hlt, e]
theorem take_cons {l : List UInt8} {i : Nat} {x : UInt8} (h : l[i]? = some x) : l.take (i + 1) = l.take i ++ [x] := by
  rw [List.take_add_one, h]; rfl

variable {pat s : List UInt8} {p i fr : Nat} {st : Int}

theorem GAt.hp (h : GAt pat s p i st fr) : p ≤ pat.length := by cases h <;> assumption
theorem GAt.hi (h : GAt pat s p i st fr) : i ≤ s.length := by cases h <;> assumption
theorem GAt.start : GAt pat s 0 0 (-1) 0 := .first (Nat.zero_le _) (Nat.zero_le _) (by simp [seg])

/-- The row between, and what is ahead. -/
theorem mid_split {l : List UInt8} {a b : Nat} (h : a ≤ b) : l.drop a = (l.drop a).take (b - a) ++ l.drop b := by
  have : l.drop b = (l.drop a).drop (b - a) := by rw [List.drop_drop]; congr 1; omega
  rw [this, List.take_append_drop]

theorem GAt.step (h : GAt pat s p i st fr) {c b : UInt8} (hc : pat[p]? = some c) (hb : s[i]? = some b) (h1 : c ≠ 42) (h2 : fits1 c b = true) : GAt pat s (p + 1) (i + 1) st fr := by
  have hp1 := (List.getElem?_eq_some_iff.1 hc).1
  have hi1 := (List.getElem?_eq_some_iff.1 hb).1
  cases h with
  | first hp hi h => exact .first hp1 hi1 (by rw [take_cons hc, take_cons hb]; exact seg_snoc h h1 h2)
  | star hp hi h1' h2' h3 h4 h5 =>
    rename_i st
    refine .star hp1 hi1 (by omega) (by omega) h3 ?_ h5
    have e1 : (pat.drop (st + 1)).take (p + 1 - (st + 1)) = (pat.drop (st + 1)).take (p - (st + 1)) ++ [c] := by
      rw [show p + 1 - (st + 1) = p - (st + 1) + 1 by omega]
      exact take_cons (by rw [List.getElem?_drop, show st + 1 + (p - (st + 1)) = p by omega]; exact hc)
    have e2 : (s.drop fr).take (i + 1 - fr) = (s.drop fr).take (i - fr) ++ [b] := by
      rw [show i + 1 - fr = i - fr + 1 by omega]
      exact take_cons (by rw [List.getElem?_drop, show fr + (i - fr) = i by omega]; exact hb)
    rw [e1, e2]
    exact seg_snoc h4 h1 h2

theorem GAt.newStar (h : GAt pat s p i st fr) (hc : pat[p]? = some 42) : GAt pat s (p + 1) i p i := by
  have hp1 := (List.getElem?_eq_some_iff.1 hc).1
  have hi1 := h.hi
  refine .star hp1 hi1 (Nat.lt_succ_self _) (Nat.le_refl _) hc (by simp [seg]) ?_
  cases h with
  | first hp hi h =>
    have e1 : pat = pat.take p ++ (42 :: pat.drop (p + 1)) := by rw [← drop_cons hc, List.take_append_drop]
    have e2 : s = s.take i ++ s.drop i := (List.take_append_drop i s).symm
    calc gm pat s = gm (pat.take p ++ (42 :: pat.drop (p + 1))) (s.take i ++ s.drop i) := by rw [← e1, ← e2]
      _ = _ := gm_seg h
  | star hp hi h1' h2' h3 h4 h5 =>
    rename_i st
    rw [h5]
    have e1 : pat.drop (st + 1) = (pat.drop (st + 1)).take (p - (st + 1)) ++ (42 :: pat.drop (p + 1)) := by rw [← drop_cons hc]; exact mid_split (by omega)
    have e2 : s.drop fr = (s.drop fr).take (i - fr) ++ s.drop i := mid_split h2'
    calc gm (42 :: pat.drop (st + 1)) (s.drop fr) = gm (42 :: ((pat.drop (st + 1)).take (p - (st + 1)) ++ (42 :: pat.drop (p + 1)))) ((s.drop fr).take (i - fr) ++ s.drop i) := by rw [← e1, ← e2]
      _ = _ := gm_greedy h4

/-- What does not fit here. -/
def stuck (pat s : List UInt8) (p i : Nat) : Prop := ∃ b, s[i]? = some b ∧ (pat[p]? = none ∨ ∃ c, pat[p]? = some c ∧ c ≠ 42 ∧ fits1 c b = false)
theorem stuck_gm (h : stuck pat s p i) : gm (pat.drop p) (s.drop i) = false := by
  obtain ⟨b, hb, h | ⟨c, hc, h1, h2⟩⟩ := h
  · rw [List.getElem?_eq_none_iff] at h
    rw [List.drop_eq_nil_of_le h, drop_cons hb, gm_nil]; rfl
  · rw [drop_cons hc, drop_cons hb, gm_char_cons h1]
    unfold fits1 at h2
    rw [h2]; rfl

theorem GAt.none (h : GAt pat s p i (-1) fr) (hs : stuck pat s p i) : gm pat s = false := by
  cases h with
  | first hp hi h =>
    have := stuck_gm hs
    calc gm pat s = gm (pat.take p ++ pat.drop p) (s.take i ++ s.drop i) := by rw [List.take_append_drop, List.take_append_drop]
      _ = _ := by rw [gm_seg h, this]

theorem GAt.back {st : Nat} (h : GAt pat s p i st fr) (hs : stuck pat s p i) : fr < s.length ∧ GAt pat s (st + 1) (fr + 1) st (fr + 1) := by
  have hb := stuck_gm hs
  obtain ⟨b, hbi, _⟩ := hs
  have hi1 := (List.getElem?_eq_some_iff.1 hbi).1
  cases h with
  | star hp hi h1 h2 h3 h4 h5 =>
    have hfr : fr < s.length := by omega
    have hst := (List.getElem?_eq_some_iff.1 h3).1
    obtain ⟨x, hx⟩ : ∃ x, s[fr]? = some x := ⟨_, List.getElem?_eq_getElem hfr⟩
    refine ⟨hfr, .star (by omega) (by omega) (by omega) (Nat.le_refl _) h3 (by simp [seg]) ?_⟩
    have e1 : gm (pat.drop (st + 1)) (s.drop fr) = false := by
      calc gm (pat.drop (st + 1)) (s.drop fr) = gm ((pat.drop (st + 1)).take (p - (st + 1)) ++ pat.drop p) ((s.drop fr).take (i - fr) ++ s.drop i) := by rw [← mid_split (by omega), ← mid_split h2]
        _ = _ := by rw [gm_seg h4, hb]
    rw [h5, drop_cons hx, gm_star_cons, ← drop_cons hx, e1]; rfl

theorem GAt.done (h : GAt pat s p i st fr) (hi : i = s.length) : gm pat s = (pat.drop p).all (· == 42) := by
  subst hi
  rw [← gm_stars]
  cases h with
  | first hp hi h =>
    rw [List.take_length] at h
    calc gm pat s = gm (pat.take p ++ pat.drop p) (s ++ []) := by rw [List.take_append_drop, List.append_nil]
      _ = _ := gm_seg h
  | star hp hi h1 h2 h3 h4 h5 =>
    rename_i st
    have e : (s.drop fr).take (s.length - fr) = s.drop fr := List.take_of_length_le (by simp)
    rw [e] at h4
    rw [h5]
    calc gm (42 :: pat.drop (st + 1)) (s.drop fr) = gm (42 :: ((pat.drop (st + 1)).take (p - (st + 1)) ++ pat.drop p)) (s.drop fr) := by rw [← mid_split (by omega)]
      _ = _ := gm_tight h4

/-! the document's way: over beginnings -/
theorem gm_snoc_star {q t : List UInt8} : gm (q ++ [42]) t = true ↔ ∃ a b, t = a ++ b ∧ gm q a = true := by
  rw [gm_append]
  constructor
  · rintro ⟨a, b, h, h1, _⟩; exact ⟨a, b, h, h1⟩
  · rintro ⟨a, b, h, h1⟩; exact ⟨a, b, h, h1, gm_star.2 ⟨b, [], by simp, by simp [gm_nil]⟩⟩
theorem gm_snoc_char {q t : List UInt8} {c : UInt8} (hc : c ≠ 42) : gm (q ++ [c]) t = true ↔ ∃ a b, t = a ++ [b] ∧ fits1 c b = true ∧ gm q a = true := by
  rw [gm_append]
  constructor
  · rintro ⟨a, b, rfl, h1, h2⟩
    obtain ⟨x, u, rfl, h3, h4⟩ := (gm_char hc).1 h2
    rw [gm_nil] at h4
    have : u = [] := by simpa using h4
    subst this
    exact ⟨a, x, rfl, by unfold fits1; simpa using h3, h1⟩
  · rintro ⟨a, b, rfl, h1, h2⟩
    exact ⟨a, [b], rfl, h2, (gm_char hc).2 ⟨b, [], rfl, by unfold fits1 at h1; simpa using h1, by simp [gm_nil]⟩⟩
/-- A row of the table: of the text's beginnings. -/
theorem gm_row_star0 {q : List UInt8} : gm (q ++ [42]) [] = gm q [] := by
  rw [gm_stars, gm_stars]; simp
theorem gm_row_star {q t : List UInt8} {b : UInt8} : gm (q ++ [42]) (t ++ [b]) = (gm q (t ++ [b]) || gm (q ++ [42]) t) := by
  rw [Bool.eq_iff_iff, Bool.or_eq_true, gm_snoc_star, gm_snoc_star]
  constructor
  · rintro ⟨a, c, h, h1⟩
    rcases List.eq_nil_or_concat c with rfl | ⟨c', x, hc'⟩
    · rw [List.append_nil] at h; exact .inl (by rw [h]; exact h1)
    · rw [hc'] at h
      simp only [List.concat_eq_append] at h
      rw [← List.append_assoc] at h
      obtain ⟨h2, _⟩ := List.append_inj' h rfl
      exact .inr ⟨a, c', h2, h1⟩
  · rintro (h | ⟨a, c, rfl, h⟩)
    · exact ⟨t ++ [b], [], by simp, h⟩
    · exact ⟨a, c ++ [b], by simp, h⟩
theorem gm_row_char0 {q : List UInt8} {c : UInt8} (hc : c ≠ 42) : gm (q ++ [c]) [] = false := by
  rw [gm_stars]; simp [hc]
theorem gm_row_char {q t : List UInt8} {c b : UInt8} (hc : c ≠ 42) : gm (q ++ [c]) (t ++ [b]) = (gm q t && fits1 c b) := by
  rw [Bool.eq_iff_iff, Bool.and_eq_true, gm_snoc_char hc]
  constructor
  · rintro ⟨a, x, h, h1, h2⟩
    obtain ⟨rfl, h3⟩ := List.append_inj' h rfl
    cases h3
    exact ⟨h2, h1⟩
  · rintro ⟨h1, h2⟩; exact ⟨t, b, rfl, h2, h1⟩

end Go.Vs
