import Derived.Test.YtnfddeiegbifhaaDoorVsSq
/- Texts as rows of bytes. -/
namespace Go.Vs
open Go

def bs (l : List UInt8) : ByteArray := ⟨l.toArray⟩
theorem bs_of (s : ByteArray) : ∃ l, s = bs l := ⟨s.data.toList, by cases s; simp [bs]⟩
@[simp] theorem bs_size {l : List UInt8} : (bs l).size = l.length := by simp [bs, ByteArray.size]
@[simp] theorem bs_toList {l : List UInt8} : (bs l).toList = l := by rw [Go.ByteArray.toList_eq]; simp [bs]
@[simp] theorem bs_dataL {l : List UInt8} : (bs l).data.toList = l := by simp [bs]
@[simp] theorem bs_append {a b : List UInt8} : bs a ++ bs b = bs (a ++ b) := by
  apply ByteArray.ext; rw [ByteArray.data_append]; simp [bs]
theorem bs_extract {l : List UInt8} {a b : Nat} : (bs l).extract a b = bs ((l.drop a).take (b - a)) := by
  apply ByteArray.ext
  rw [ByteArray.data_extract]
  simp [bs, List.extract_toArray, List.extract_eq_take_drop]
theorem bs_inj {a b : List UInt8} : bs a = bs b ↔ a = b := ⟨fun h => by have := congrArg ByteArray.toList h; simpa using this, fun h => by rw [h]⟩

section
variable {cf : CallF} {ro : Nat} {e : Env} {H : Hp}

def istV : IV → IV → Option IV
  | .str s, .int _ i => if 0 ≤ i then (s.data[i.toNat]?).map fun b => .int .u8 b.toNat else none
  | _, _ => none
@[simp] theorem doIns_ist {x i : Opd} : doIns cf ro e H (.ist x i) = (istV (ev e x) (ev e i)).bind fun v => some (v, H) := by
  simp only [doIns]
  cases ev e x <;> first
    | rfl
    | (cases ev e i <;> first
        | rfl
        | (simp only [istV]
           split
           · rename_i s _ i _
             cases s.data[i.toNat]? <;> rfl
           · rfl))
@[simp] theorem istV_bs {l : List UInt8} {k : IntKind} {i : Int} : istV (.str (bs l)) (.int k i) = if 0 ≤ i then (l[i.toNat]?).map fun b => .int .u8 b.toNat else none := by
  simp [istV, bs]
def strV (k : ByteArray → Option IV) : IV → Option IV
  | .str s => k s
  | _ => none
@[simp] theorem strV_str {k : ByteArray → Option IV} {s : ByteArray} : strV k (.str s) = k s := rfl
@[simp] theorem doIns_slst {x : Opd} {lo hi : Option Opd} : doIns cf ro e H (.slst x lo hi) = (strV (fun s => (optB e 0 lo).bind fun l => (optB e s.size hi).bind fun h => slStr s l h) (ev e x)).bind fun v => some (v, H) := by
  simp only [doIns]
  cases ev e x <;> first
    | rfl
    | (simp only [strV_str]
       cases optB e 0 lo with
       | none => rfl
       | some a =>
         simp only [Option.bind_some]
         cases optB e _ hi with
         | none => rfl
         | some b => simp only [Option.bind_some])
@[simp] theorem slStr_bs {l : List UInt8} {a b : Nat} : slStr (bs l) a b = if a ≤ b ∧ b ≤ l.length then some (.str (bs ((l.drop a).take (b - a)))) else none := by
  simp only [slStr, bs_size, bs_extract]
@[simp] theorem lenV_bs {l : List UInt8} : lenV true (.str (bs l)) = some l.length := by simp
@[simp] theorem bin_seq {a b : List UInt8} : binV .eql (.str (bs a)) (.str (bs b)) = some (.bool (a == b)) := by simp [binV, binS]
@[simp] theorem bin_sne {a b : List UInt8} : binV .neq (.str (bs a)) (.str (bs b)) = some (.bool !(a == b)) := by simp [binV, binS]
@[simp] theorem bin_sadd {a b : List UInt8} : binV .add (.str (bs a)) (.str (bs b)) = if ((a.length + b.length : Nat) : Int) > 9223372036854775807 then none else some (.str (bs (a ++ b))) := by
  have : IntKind.i64.max = 9223372036854775807 := by decide
  simp [binV, binS, this]
end

theorem bs0 : (⟨#[]⟩ : ByteArray) = bs [] := rfl
theorem u8_eq {a b : UInt8} : ((a.toNat : Int) = b.toNat) ↔ a = b := by
  rw [Int.natCast_inj]; exact ⟨fun h => UInt8.toNat_inj.1 h, fun h => by rw [h]⟩

end Go.Vs
/- Three-way comparisons: of bytes, of rows by rows, of pairs; the runtime's comparison of texts. -/
namespace Go.Vs
open Go

/-- One row, told by -1, 0, 1 or like numbers. -/
structure Cmp3 {α : Type} (c : α → α → Int) : Prop where
  anti : ∀ x y, c x y = - c y x
  eq0 : ∀ x y, c x y = 0 ↔ x = y
  trans : ∀ x y z, c x y ≤ 0 → c y z ≤ 0 → c x z ≤ 0

theorem Cmp3.lt_trans {α : Type} {c : α → α → Int} (h : Cmp3 c) {x y z : α} (h1 : c x y < 0) (h2 : c y z ≤ 0) : c x z < 0 := by
  have h3 := h.trans x y z (by omega) h2
  by_cases e : c x z = 0
  · rw [h.eq0] at e
    subst e
    have := h.anti x y
    omega
  · omega
theorem Cmp3.lt_trans' {α : Type} {c : α → α → Int} (h : Cmp3 c) {x y z : α} (h1 : c x y ≤ 0) (h2 : c y z < 0) : c x z < 0 := by
  have h3 := h.trans x y z h1 (by omega)
  by_cases e : c x z = 0
  · rw [h.eq0] at e
    subst e
    have := h.anti x y
    omega
  · omega

def orI (a b : Int) : Int := if a = 0 then b else a

section
variable {α β : Type}
def lex (c : α → α → Int) : List α → List α → Int
  | [], [] => 0
  | [], _ :: _ => -1
  | _ :: _, [] => 1
  | x :: xs, y :: ys => orI (c x y) (lex c xs ys)
def pairC (c : α → α → Int) (d : β → β → Int) (x y : α × β) : Int := orI (c x.1 y.1) (d x.2 y.2)

theorem Cmp3.pair {c : α → α → Int} {d : β → β → Int} (hc : Cmp3 c) (hd : Cmp3 d) : Cmp3 (pairC c d) := by
  refine ⟨fun x y => ?_, fun x y => ?_, fun x y z => ?_⟩
  · have h1 := hc.anti x.1 y.1
    have h2 := hd.anti x.2 y.2
    simp only [pairC, orI]
    split <;> split <;> omega
  · have h1 := hc.eq0 x.1 y.1
    have h2 := hd.eq0 x.2 y.2
    simp only [pairC, orI, Prod.ext_iff]
    split
    · rename_i h; rw [h2]; exact ⟨fun e => ⟨h1.1 h, e⟩, fun e => e.2⟩
    · rename_i h; exact ⟨fun e => absurd e h, fun e => absurd (h1.2 e.1) h⟩
  · simp only [pairC, orI]
    intro h1 h2
    by_cases e1 : c x.1 y.1 = 0
    · rw [if_pos e1] at h1
      rw [hc.eq0] at e1
      rw [e1]
      split at h2
      · rename_i e2; rw [if_pos e2]; exact hd.trans _ _ _ h1 h2
      · rename_i e2; rw [if_neg e2]; exact h2
    · rw [if_neg e1] at h1
      have : c x.1 z.1 < 0 := hc.lt_trans (y := y.1) (by omega) (by split at h2 <;> omega)
      rw [if_neg (by omega)]
      omega

theorem lex_anti {c : α → α → Int} (hc : Cmp3 c) : ∀ xs ys, lex c xs ys = - lex c ys xs
  | [], [] => rfl
  | [], _ :: _ => rfl
  | _ :: _, [] => rfl
  | x :: xs, y :: ys => by
    have h1 := hc.anti x y
    have h2 := lex_anti hc xs ys
    simp only [lex, orI]
    split <;> split <;> omega
theorem lex_eq0 {c : α → α → Int} (hc : Cmp3 c) : ∀ xs ys, lex c xs ys = 0 ↔ xs = ys
  | [], [] => by simp [lex]
  | [], _ :: _ => by simp [lex]
  | _ :: _, [] => by simp [lex]
  | x :: xs, y :: ys => by
    have h1 := hc.eq0 x y
    have h2 := lex_eq0 hc xs ys
    simp only [lex, orI, List.cons.injEq]
    split
    · rename_i h; rw [h2]; exact ⟨fun e => ⟨h1.1 h, e⟩, fun e => e.2⟩
    · rename_i h; exact ⟨fun e => absurd e h, fun e => absurd (h1.2 e.1) h⟩
theorem lex_trans {c : α → α → Int} (hc : Cmp3 c) : ∀ xs ys zs, lex c xs ys ≤ 0 → lex c ys zs ≤ 0 → lex c xs zs ≤ 0
  | [], ys, [], _, _ => by simp [lex]
  | [], ys, _ :: _, _, _ => by simp [lex]
  | _ :: _, [], zs, h, _ => by simp [lex] at h
  | x :: xs, y :: ys, [], _, h => by simp [lex] at h
  | x :: xs, y :: ys, z :: zs, h1, h2 => by
    simp only [lex, orI] at h1 h2 ⊢
    by_cases e1 : c x y = 0
    · rw [if_pos e1] at h1
      rw [hc.eq0] at e1
      rw [e1]
      split at h2
      · rename_i e2; rw [if_pos e2]; exact lex_trans hc _ _ _ h1 h2
      · rename_i e2; rw [if_neg e2]; exact h2
    · rw [if_neg e1] at h1
      have : c x z < 0 := hc.lt_trans (y := y) (by omega) (by split at h2 <;> omega)
      rw [if_neg (by omega)]
      omega
theorem Cmp3.lex {c : α → α → Int} (hc : Cmp3 c) : Cmp3 (lex c) := ⟨lex_anti hc, lex_eq0 hc, lex_trans hc⟩

theorem lex_self {c : α → α → Int} (hc : Cmp3 c) (xs : List α) : Vs.lex c xs xs = 0 := (lex_eq0 hc xs xs).2 rfl
theorem lex_take {c : α → α → Int} (hc : Cmp3 c) : ∀ (xs : List α) (k : Nat), Vs.lex c (xs.take k) xs = if k < xs.length then -1 else 0
  | [], k => by simp [Vs.lex]
  | x :: xs, 0 => by simp [Vs.lex]
  | x :: xs, k + 1 => by
    have h := (hc.eq0 x x).2 rfl
    simp only [List.take_succ_cons, Vs.lex, orI, h, if_true, lex_take hc xs k, List.length_cons, Nat.add_lt_add_iff_right]
theorem lex_rng {c : α → α → Int} (h : ∀ x y, -1 ≤ c x y ∧ c x y ≤ 1) : ∀ xs ys, -1 ≤ Vs.lex c xs ys ∧ Vs.lex c xs ys ≤ 1
  | [], [] => by simp [Vs.lex]
  | [], _ :: _ => by simp [Vs.lex]
  | _ :: _, [] => by simp [Vs.lex]
  | x :: xs, y :: ys => by
    have h1 := h x y
    have h2 := lex_rng h xs ys
    simp only [Vs.lex, orI]; split <;> omega
theorem pair_rng {c : α → α → Int} {d : β → β → Int} (h : ∀ x y, -1 ≤ c x y ∧ c x y ≤ 1) (h' : ∀ x y, -1 ≤ d x y ∧ d x y ≤ 1) (x y : α × β) : -1 ≤ pairC c d x y ∧ pairC c d x y ≤ 1 := by
  have h1 := h x.1 y.1
  have h2 := h' x.2 y.2
  simp only [pairC, orI]; split <;> omega
end

def cmpB (a b : UInt8) : Int := if a < b then -1 else if b < a then 1 else 0
theorem cmpB_3 : Cmp3 cmpB := by
  refine ⟨fun x y => ?_, fun x y => ?_, fun x y z => ?_⟩
  · simp only [cmpB, UInt8.lt_iff_toNat_lt]; split <;> split <;> (try split) <;> omega
  · simp only [cmpB, UInt8.lt_iff_toNat_lt]
    rw [← UInt8.toNat_inj]
    split
    · simp; omega
    · split
      · simp; omega
      · simp; omega
  · simp only [cmpB, UInt8.lt_iff_toNat_lt]; intro h1 h2; split at h1 <;> split at h2 <;> (try split at h1) <;> (try split at h2) <;> split <;> (try split) <;> omega
theorem cmpB_rng (x y : UInt8) : -1 ≤ cmpB x y ∧ cmpB x y ≤ 1 := by simp only [cmpB]; split <;> (try split) <;> omega

/-- Texts, compared. -/
def cmpL : List UInt8 → List UInt8 → Int := lex cmpB
theorem cmpL_3 : Cmp3 cmpL := cmpB_3.lex

theorem cmps_find (a b : List UInt8) : (match (List.range (min a.length b.length)).find? fun i => a[i]! != b[i]! with
  | some i => if a[i]! < b[i]! then (-1 : Int) else 1
  | none => if a.length < b.length then -1 else if a.length > b.length then 1 else 0) = cmpL a b := by
  induction a generalizing b with
  | nil => cases b <;> simp [cmpL, lex]
  | cons x xs ih =>
    cases b with
    | nil => simp [cmpL, lex]
    | cons y ys =>
      have ih := ih ys
      rw [List.length_cons, List.length_cons, Nat.succ_min_succ, List.range_succ_eq_map, List.find?_cons]
      have e : cmpL (x :: xs) (y :: ys) = orI (cmpB x y) (cmpL xs ys) := rfl
      rw [e]
      by_cases hxy : x = y
      · subst hxy
        have e0 : cmpB x x = 0 := (cmpB_3.eq0 x x).2 rfl
        rw [e0, orI, if_pos rfl, ← ih]
        simp only [List.getElem!_cons_zero, bne_self_eq_false, List.find?_map]
        have e1 : ((fun i => (x :: xs)[i]! != (x :: ys)[i]!) ∘ Nat.succ) = fun i => xs[i]! != ys[i]! := by
          funext i; simp
        rw [e1]
        cases (List.range (min xs.length ys.length)).find? fun i => xs[i]! != ys[i]! with
        | none => simp
        | some i => simp
      · have hb : ((x :: xs)[0]! != (y :: ys)[0]!) = true := by simpa using hxy
        rw [hb]
        simp only [List.getElem!_cons_zero]
        have hn : ¬ x.toNat = y.toNat := fun h => hxy (UInt8.toNat_inj.1 h)
        simp only [orI, cmpB, UInt8.lt_iff_toNat_lt]
        by_cases hlt : x.toNat < y.toNat
        · simp [hlt]
        · have h2 : y.toNat < x.toNat := by omega
          simp [hlt, h2]
theorem cmps_bs (a b : List UInt8) : Extern.BytealgCompare.cmp (bs a) (bs b) = cmpL a b := by
  rw [← cmps_find]
  unfold Extern.BytealgCompare.cmp
  have e : ∀ (l : List UInt8) (i : Nat), (bs l)[i]! = l[i]! := by
    intro l i
    by_cases h : i < l.length
    · rw [getElem!_pos (bs l) i (by simpa using h), getElem!_pos l i h]
      show (bs l).data[i]'(by simpa [bs] using h) = _
      simp [bs]
    · rw [getElem!_neg (bs l) i (by simpa using h), getElem!_neg l i h]
  simp only [bs_size, e]
  rfl
end Go.Vs
/- Insertion sort, in plain Lean: as the library's loops do it. -/
namespace Go.Vs

section
variable {α : Type} (c : α → α → Int)

/-- Into a row that is sorted, the last first. -/
def insR (x : α) : List α → List α
  | [] => [x]
  | p :: ps => if c x p < 0 then p :: insR x ps else x :: p :: ps
def isortR (l : List α) : List α := l.foldl (fun a x => insR c x a) []
def isort (l : List α) : List α := (isortR c l).reverse

variable {c}
theorem insR_perm {x : α} : ∀ {ps : List α}, List.Perm (insR c x ps) (x :: ps)
  | [] => .refl _
  | p :: ps => by
    rw [insR]
    split
    · exact (List.Perm.cons p insR_perm).trans (.swap x p ps)
    · exact .refl _
theorem insR_len {x : α} {ps : List α} : (insR c x ps).length = ps.length + 1 := by rw [insR_perm.length_eq]; rfl
theorem foldl_perm : ∀ (l a : List α), List.Perm (l.foldl (fun a x => insR c x a) a) (l ++ a)
  | [], a => .refl _
  | x :: l, a => by
    rw [List.foldl_cons]
    refine (foldl_perm l _).trans ?_
    exact (List.Perm.append_left l insR_perm).trans List.perm_middle
theorem isort_perm (l : List α) : List.Perm (isort c l) l := by
  refine (List.reverse_perm _).trans ((foldl_perm l []).trans ?_)
  rw [List.append_nil]
theorem isort_len (l : List α) : (isort c l).length = l.length := (isort_perm l).length_eq

/-- Sorted, the last first. -/
def RevS (c : α → α → Int) : List α → Prop := List.Pairwise fun a b => c b a ≤ 0
theorem insR_sorted (hanti : ∀ x y, c x y = - c y x) (htr : ∀ x y z, c x y ≤ 0 → c y z ≤ 0 → c x z ≤ 0) {x : α} : ∀ {ps : List α}, RevS c ps → RevS c (insR c x ps)
  | [], _ => by simp [insR, RevS]
  | p :: ps, h => by
    obtain ⟨h1, h2⟩ := List.pairwise_cons.1 h
    rw [insR]
    split
    · rename_i hlt
      refine List.pairwise_cons.2 ⟨fun y hy => ?_, insR_sorted hanti htr h2⟩
      rcases List.mem_cons.1 (insR_perm.mem_iff.1 hy) with rfl | hy
      · omega
      · exact h1 y hy
    · rename_i hge
      have h3 := hanti x p
      refine List.pairwise_cons.2 ⟨fun y hy => ?_, h⟩
      rcases List.mem_cons.1 hy with rfl | hy
      · omega
      · exact htr y p x (h1 y hy) (by omega)
theorem isortR_sorted (hanti : ∀ x y, c x y = - c y x) (htr : ∀ x y z, c x y ≤ 0 → c y z ≤ 0 → c x z ≤ 0) (l : List α) : RevS c (isortR c l) := by
  have : ∀ (l a : List α), RevS c a → RevS c (l.foldl (fun a x => insR c x a) a) := by
    intro l
    induction l with
    | nil => intro a h; exact h
    | cons x l ih => intro a h; exact ih _ (insR_sorted hanti htr h)
  exact this l [] List.Pairwise.nil
theorem isort_sorted (hanti : ∀ x y, c x y = - c y x) (htr : ∀ x y z, c x y ≤ 0 → c y z ≤ 0 → c x z ≤ 0) (l : List α) : List.Pairwise (fun a b => c a b ≤ 0) (isort c l) := by
  rw [isort, List.pairwise_reverse]
  exact isortR_sorted hanti htr l

/-- A row that is sorted, none like another, is the only one of its elements. -/
theorem sorted_unique (hanti : ∀ x y, c x y = - c y x) : ∀ {l m : List α}, List.Perm l m → List.Pairwise (fun a b => c a b < 0) l → List.Pairwise (fun a b => c a b < 0) m → l = m
  | [], m, h, _, _ => h.nil_eq
  | a :: l, [], h, _, _ => absurd h.symm.nil_eq (by simp)
  | a :: l, b :: m, h, h1, h2 => by
    obtain ⟨p1, q1⟩ := List.pairwise_cons.1 h1
    obtain ⟨p2, q2⟩ := List.pairwise_cons.1 h2
    have hab : a = b := by
      have ha : a ∈ b :: m := h.mem_iff.1 (List.mem_cons_self ..)
      have hb : b ∈ a :: l := h.mem_iff.2 (List.mem_cons_self ..)
      rcases List.mem_cons.1 ha with e | ha
      · exact e
      · rcases List.mem_cons.1 hb with e | hb
        · exact e.symm
        · have x1 := p2 a ha
          have x2 := p1 b hb
          have := hanti a b
          omega
    subst hab
    rw [sorted_unique hanti (List.perm_cons a |>.1 h) q1 q2]

/-- Where no two are alike, whatever order they came in. -/
theorem isort_unique (hanti : ∀ x y, c x y = - c y x) (htr : ∀ x y z, c x y ≤ 0 → c y z ≤ 0 → c x z ≤ 0) {l m : List α} (h : List.Perm l m) (hd : List.Pairwise (fun a b => c a b ≠ 0) l) : isort c l = isort c m := by
  have strict : ∀ {k : List α}, List.Perm k l → List.Pairwise (fun a b => c a b < 0) (isort c k) := by
    intro k hk
    have h1 := isort_sorted hanti htr k
    have h2 : List.Pairwise (fun a b => c a b ≠ 0) (isort c k) :=
      ((isort_perm k).trans hk).symm.pairwise hd fun {x y} hxy hyx => hxy (by have := hanti x y; omega)
    exact (h1.and h2).imp fun {a b} hab => by have := hab.1; have := hab.2; omega
  exact sorted_unique hanti ((isort_perm l).trans (h.trans (isort_perm m).symm)) (strict (.refl _)) (strict h.symm)
end
end Go.Vs
