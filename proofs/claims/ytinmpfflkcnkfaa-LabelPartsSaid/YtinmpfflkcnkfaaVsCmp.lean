/- Three-way comparisons: of bytes, of rows by rows, of pairs; the runtime's comparison of texts. -/
import Derived.Test.YtinmpfflkcnkfaaVsStr
namespace Go.Vs
open Go

/-- One row, told by -1, 0, 1 or like numbers. -/
structure Cmp3 {α : Type} (c : α → α → Int) : Prop where
  anti : ∀ x y, c x y = - c y x
  eq0 : ∀ x y, c x y = 0 ↔ x = y
  trans : ∀ x y z, c x y ≤ 0 → c y z ≤ 0 → c x z ≤ 0

theorem Cmp3.lt_trans {α : Type} {c : α → α → Int} (h : Cmp3 c) {x y z : α} (h1 : c x y < 0) (h2 : c y z ≤ 0) : c x z < 0 := by
  have h3 := h.trans x y z (by omega) h2
  by_cases e : c x z = 0
  · rw [h.eq0] at e
    subst e
    have := h.anti x y
    omega
  · omega
theorem Cmp3.lt_trans' {α : Type} {c : α → α → Int} (h : Cmp3 c) {x y z : α} (h1 : c x y ≤ 0) (h2 : c y z < 0) : c x z < 0 := by
  have h3 := h.trans x y z h1 (by omega)
  by_cases e : c x z = 0
  · rw [h.eq0] at e
    subst e
    have := h.anti x y
    omega
  · omega

def orI (a b : Int) : Int := if a = 0 then b else a

section
variable {α β : Type}
def lex (c : α → α → Int) : List α → List α → Int
  | [], [] => 0
  | [], _ :: _ => -1
  | _ :: _, [] => 1
  | x :: xs, y :: ys => orI (c x y) (lex c xs ys)
def pairC (c : α → α → Int) (d : β → β → Int) (x y : α × β) : Int := orI (c x.1 y.1) (d x.2 y.2)

theorem Cmp3.pair {c : α → α → Int} {d : β → β → Int} (hc : Cmp3 c) (hd : Cmp3 d) : Cmp3 (pairC c d) := by
  refine ⟨fun x y => ?_, fun x y => ?_, fun x y z => ?_⟩
  · have h1 := hc.anti x.1 y.1
    have h2 := hd.anti x.2 y.2
    simp only [pairC, orI]
    split <;> split <;> omega
  · have h1 := hc.eq0 x.1 y.1
    have h2 := hd.eq0 x.2 y.2
    simp only [pairC, orI, Prod.ext_iff]
    split
    · rename_i h; rw [h2]; exact ⟨fun e => ⟨h1.1 h, e⟩, fun e => e.2⟩
    · rename_i h; exact ⟨fun e => absurd e h, fun e => absurd (h1.2 e.1) h⟩
  · simp only [pairC, orI]
    intro h1 h2
    by_cases e1 : c x.1 y.1 = 0
    · rw [if_pos e1] at h1
      rw [hc.eq0] at e1
      rw [e1]
      split at h2
      · rename_i e2; rw [if_pos e2]; exact hd.trans _ _ _ h1 h2
      · rename_i e2; rw [if_neg e2]; exact h2
    · rw [if_neg e1] at h1
      have : c x.1 z.1 < 0 := hc.lt_trans (y := y.1) (by omega) (by split at h2 <;> omega)
      rw [if_neg (by omega)]
      omega

theorem lex_anti {c : α → α → Int} (hc : Cmp3 c) : ∀ xs ys, lex c xs ys = - lex c ys xs
  | [], [] => rfl
  | [], _ :: _ => rfl
  | _ :: _, [] => rfl
  | x :: xs, y :: ys => by
    have h1 := hc.anti x y
    have h2 := lex_anti hc xs ys
    simp only [lex, orI]
    split <;> split <;> omega
theorem lex_eq0 {c : α → α → Int} (hc : Cmp3 c) : ∀ xs ys, lex c xs ys = 0 ↔ xs = ys
  | [], [] => by simp [lex]
  | [], _ :: _ => by simp [lex]
  | _ :: _, [] => by simp [lex]
  | x :: xs, y :: ys => by
    have h1 := hc.eq0 x y
    have h2 := lex_eq0 hc xs ys
    simp only [lex, orI, List.cons.injEq]
    split
    · rename_i h; rw [h2]; exact ⟨fun e => ⟨h1.1 h, e⟩, fun e => e.2⟩
    · rename_i h; exact ⟨fun e => absurd e h, fun e => absurd (h1.2 e.1) h⟩
theorem lex_trans {c : α → α → Int} (hc : Cmp3 c) : ∀ xs ys zs, lex c xs ys ≤ 0 → lex c ys zs ≤ 0 → lex c xs zs ≤ 0
  | [], ys, [], _, _ => by simp [lex]
  | [], ys, _ :: _, _, _ => by simp [lex]
  | _ :: _, [], zs, h, _ => by simp [lex] at h
  | x :: xs, y :: ys, [], _, h => by simp [lex] at h
  | x :: xs, y :: ys, z :: zs, h1, h2 => by
    simp only [lex, orI] at h1 h2 ⊢
    by_cases e1 : c x y = 0
    · rw [if_pos e1] at h1
      rw [hc.eq0] at e1
      rw [e1]
      split at h2
      · rename_i e2; rw [if_pos e2]; exact lex_trans hc _ _ _ h1 h2
      · rename_i e2; rw [if_neg e2]; exact h2
    · rw [if_neg e1] at h1
      have : c x z < 0 := hc.lt_trans (y := y) (by omega) (by split at h2 <;> omega)
      rw [if_neg (by omega)]
      omega
theorem Cmp3.lex {c : α → α → Int} (hc : Cmp3 c) : Cmp3 (lex c) := ⟨lex_anti hc, lex_eq0 hc, lex_trans hc⟩

theorem lex_self {c : α → α → Int} (hc : Cmp3 c) (xs : List α) : Vs.lex c xs xs = 0 := (lex_eq0 hc xs xs).2 rfl
theorem lex_take {c : α → α → Int} (hc : Cmp3 c) : ∀ (xs : List α) (k : Nat), Vs.lex c (xs.take k) xs = if k < xs.length then -1 else 0
  | [], k => by simp [Vs.lex]
  | x :: xs, 0 => by simp [Vs.lex]
  | x :: xs, k + 1 => by
    have h := (hc.eq0 x x).2 rfl
    simp only [List.take_succ_cons, Vs.lex, orI, h, if_true, lex_take hc xs k, List.length_cons, Nat.add_lt_add_iff_right]
theorem lex_rng {c : α → α → Int} (h : ∀ x y, -1 ≤ c x y ∧ c x y ≤ 1) : ∀ xs ys, -1 ≤ Vs.lex c xs ys ∧ Vs.lex c xs ys ≤ 1
  | [], [] => by simp [Vs.lex]
  | [], _ :: _ => by simp [Vs.lex]
  | _ :: _, [] => by simp [Vs.lex]
  | x :: xs, y :: ys => by
    have h1 := h x y
    have h2 := lex_rng h xs ys
    simp only [Vs.lex, orI]; split <;> omega
theorem pair_rng {c : α → α → Int} {d : β → β → Int} (h : ∀ x y, -1 ≤ c x y ∧ c x y ≤ 1) (h' : ∀ x y, -1 ≤ d x y ∧ d x y ≤ 1) (x y : α × β) : -1 ≤ pairC c d x y ∧ pairC c d x y ≤ 1 := by
  have h1 := h x.1 y.1
  have h2 := h' x.2 y.2
  simp only [pairC, orI]; split <;> omega
end

def cmpB (a b : UInt8) : Int := if a < b then -1 else if b < a then 1 else 0
theorem cmpB_3 : Cmp3 cmpB := by
  refine ⟨fun x y => ?_, fun x y => ?_, fun x y z => ?_⟩
  · simp only [cmpB, UInt8.lt_iff_toNat_lt]; split <;> split <;> (try split) <;> omega
  · simp only [cmpB, UInt8.lt_iff_toNat_lt]
    rw [← UInt8.toNat_inj]
    split
    · simp; omega
    · split
      · simp; omega
      · simp; omega
  · simp only [cmpB, UInt8.lt_iff_toNat_lt]; intro h1 h2; split at h1 <;> split at h2 <;> (try split at h1) <;> (try split at h2) <;> split <;> (try split) <;> omega
theorem cmpB_rng (x y : UInt8) : -1 ≤ cmpB x y ∧ cmpB x y ≤ 1 := by simp only [cmpB]; split <;> (try split) <;> omega

/-- Texts, compared. -/
def cmpL : List UInt8 → List UInt8 → Int := lex cmpB
theorem cmpL_3 : Cmp3 cmpL := cmpB_3.lex

theorem cmps_find (a b : List UInt8) : (match (List.range (min a.length b.length)).find? fun i => a[i]! != b[i]! with
  | some i => if a[i]! < b[i]! then (-1 : Int) else 1
  | none => if a.length < b.length then -1 else if a.length > b.length then 1 else 0) = cmpL a b := by
  induction a generalizing b with
  | nil => cases b <;> simp [cmpL, lex]
  | cons x xs ih =>
    cases b with
    | nil => simp [cmpL, lex]
    | cons y ys =>
      have ih := ih ys
      rw [List.length_cons, List.length_cons, Nat.succ_min_succ, List.range_succ_eq_map, List.find?_cons]
      have e : cmpL (x :: xs) (y :: ys) = orI (cmpB x y) (cmpL xs ys) := rfl
      rw [e]
      by_cases hxy : x = y
      · subst hxy
        have e0 : cmpB x x = 0 := (cmpB_3.eq0 x x).2 rfl
        rw [e0, orI, if_pos rfl, ← ih]
        simp only [List.getElem!_cons_zero, bne_self_eq_false, List.find?_map]
        have e1 : ((fun i => (x :: xs)[i]! != (x :: ys)[i]!) ∘ Nat.succ) = fun i => xs[i]! != ys[i]! := by
          funext i; simp
        rw [e1]
        cases (List.range (min xs.length ys.length)).find? fun i => xs[i]! != ys[i]! with
        | none => simp
        | some i => simp
      · have hb : ((x :: xs)[0]! != (y :: ys)[0]!) = true := by simpa using hxy
        rw [hb]
        simp only [List.getElem!_cons_zero]
        have hn : ¬ x.toNat = y.toNat := fun h => hxy (UInt8.toNat_inj.1 h)
        simp only [orI, cmpB, UInt8.lt_iff_toNat_lt]
        by_cases hlt : x.toNat < y.toNat
        · simp [hlt]
        · have h2 : y.toNat < x.toNat := by omega
          simp [hlt, h2]
theorem cmps_bs (a b : List UInt8) : Extern.BytealgCompare.cmp (bs a) (bs b) = cmpL a b := by
  rw [← cmps_find]
  unfold Extern.BytealgCompare.cmp
  have e : ∀ (l : List UInt8) (i : Nat), (bs l)[i]! = l[i]! := by
    intro l i
    by_cases h : i < l.length
    · rw [getElem!_pos (bs l) i (by simpa using h), getElem!_pos l i h]
      show (bs l).data[i]'(by simpa [bs] using h) = _
      simp [bs]
    · rw [getElem!_neg (bs l) i (by simpa using h), getElem!_neg l i h]
  simp only [bs_size, e]
  rfl
end Go.Vs
