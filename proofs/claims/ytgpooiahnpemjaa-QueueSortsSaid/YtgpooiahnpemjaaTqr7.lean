/- Rows of one set: as the document tells it. -/
import Derived.Test.YtgpooiahnpemjaaTqr6
namespace Go.Proofs.Ytgpooiahnpemjaa
open Go Go.Vs
variable {ro : Nat} {H : Hp}

theorem bytesLess_cmp : ∀ a b : List UInt8, Op.bytesLess a b = decide (cmpL a b < 0)
  | [], [] => rfl
  | _ :: _, [] => rfl
  | [], _ :: _ => rfl
  | a :: x, b :: y => by
    have ih := bytesLess_cmp x y
    have e : cmpL (a :: x) (b :: y) = orI (cmpB a b) (cmpL x y) := rfl
    rw [Op.bytesLess, ih, e]
    by_cases h1 : a < b
    · simp [orI, cmpB, h1]
    · by_cases h2 : a = b
      · subst h2
        have : cmpB a a = 0 := (cmpB_3.eq0 a a).2 rfl
        simp [orI, this, h1]
      · have h3 : b < a := by
          rw [UInt8.lt_iff_toNat_lt] at h1 ⊢
          have : ¬ a.toNat = b.toNat := fun h => h2 (UInt8.toNat_inj.1 h)
          omega
        simp [orI, cmpB, h1, h2, h3]

theorem less_2 {a b : List UInt8} : doCall (callW pg) ro 2 (.fn 66 []) [.str (bs a), .str (bs b)] H = some (.int .i64 (cmpL a b), H) := by
  have h : callW pg H.length 66 [.str (bs a), .str (bs b)] H = some (.int .i64 (cmpL a b), H) := by
    have hr := cmpL_rng a b
    have h0 := cmpL_3.eq0 a b
    rw [callW_eqO (fn := fn66) rfl rfl]
    by_cases h1 : cmpL a b < 0
    · have e : cmpL a b = -1 := by omega
      simp [-getElem?_pos, fn66, binV, binS, bytesLess_cmp, e]
    · by_cases h2 : a = b
      · have e : cmpL a b = 0 := h0.2 h2
        subst h2
        simp [-getElem?_pos, fn66, binV, binS, bytesLess_cmp, e]
      · have e : cmpL a b = 1 := by have : cmpL a b ≠ 0 := fun e => h2 (h0.1 e); omega
        have h3 : (a == b) = false := by simpa using h2
        simp [-getElem?_pos, fn66, binV, binS, bytesLess_cmp, e, h3]
  exact call2p h rfl rfl

theorem rcmp_loop {A B : IV} {l m : List Pr} (hA : SlA A 2 (l.map prow)) (hB : SlA B 2 (m.map prow)) (hl : l.length ≤ 9223372036854775807) : ∀ (d i : Nat), i + d = min l.length m.length →
    runW pg ro fn48L0 [(0, A), (1, B), (5, .int .i64 i)] H = some (.ret, [(4, .int .i64 (cmpS (l.drop i) (m.drop i)))], H) ∨
    ((∃ e', runW pg ro fn48L0 [(0, A), (1, B), (5, .int .i64 i)] H = some (.exit 0, e', H) ∧ get e' 0 = A ∧ get e' 1 = B) ∧
      cmpS (l.drop i) (m.drop i) = if l.length < m.length then -1 else if m.length < l.length then 1 else 0) := by
  have L : ∀ e, runW pg ro fn48L0 e H = seqO pg ro fn48L0 (runW pg ro fn48B0 (keepE [0, 1, 5] e) H) := fun e => runW_loopO
  have hlA := hA.len
  have hlB := hB.len
  rw [List.length_map] at hlA hlB
  intro d
  induction d with
  | zero =>
    intro i hi
    refine .inr ⟨?_, ?_⟩
    · by_cases h : (i : Int) < l.length
      · have h2 : ¬ ((i : Int) < m.length) := by omega
        exact ⟨[(0, A), (1, B), (5, .int .i64 i), (16, .bool false)], by rw [L]; simp [fn48B0, hlA, hlB, h, h2], rfl, rfl⟩
      · exact ⟨[(0, A), (1, B), (5, .int .i64 i), (16, .bool false)], by rw [L]; simp [fn48B0, hlA, hlB, h], rfl, rfl⟩
    · cases hx : l.drop i with
      | nil =>
        have h1 : l.length ≤ i := List.drop_eq_nil_iff.1 hx
        cases hy : m.drop i with
        | nil =>
          have h2 : m.length ≤ i := List.drop_eq_nil_iff.1 hy
          rw [if_neg (by omega), if_neg (by omega)]; rfl
        | cons y ys =>
          have h2 : ¬ m.length ≤ i := fun h => by rw [List.drop_eq_nil_iff.2 h] at hy; cases hy
          rw [if_pos (by omega)]; rfl
      | cons x xs =>
        have h1 : ¬ l.length ≤ i := fun h => by rw [List.drop_eq_nil_iff.2 h] at hx; cases hx
        cases hy : m.drop i with
        | nil =>
          have h2 : m.length ≤ i := List.drop_eq_nil_iff.1 hy
          rw [if_neg (by omega), if_pos (by omega)]; rfl
        | cons y ys =>
          have h2 : ¬ m.length ≤ i := fun h => by rw [List.drop_eq_nil_iff.2 h] at hy; cases hy
          omega
  | succ d ih =>
    intro i hi
    have h1 : (i : Int) < l.length := by omega
    have h2 : i < l.length := by omega
    have h3 : (i : Int) < m.length := by omega
    have h4 : i < m.length := by omega
    have w1 : IntKind.i64.wrap ((i : Int) + 1) = i + 1 := by rw [IntKind.wrap_i64]; omega
    obtain ⟨⟨a, b⟩, hx⟩ : ∃ x, l[i]? = some x := ⟨_, List.getElem?_eq_getElem h2⟩
    obtain ⟨⟨c, e⟩, hy⟩ : ∃ x, m[i]? = some x := ⟨_, List.getElem?_eq_getElem h4⟩
    have hdx : l.drop i = (a, b) :: l.drop (i + 1) := by
      have := List.drop_eq_getElem_cons h2
      rw [this]; congr 1
      rw [List.getElem?_eq_getElem h2] at hx; exact Option.some.inj hx
    have hdy : m.drop i = (c, e) :: m.drop (i + 1) := by
      have := List.drop_eq_getElem_cons h4
      rw [this]; congr 1
      rw [List.getElem?_eq_getElem h4] at hy; exact Option.some.inj hy
    have i1 := fun H => hA.idx H i (by simp; omega)
    have i2 := fun H => hB.idx H i (by simp; omega)
    have c1 := fun ro H => less_2 (ro := ro) (H := H) (a := a) (b := c)
    have c2 := fun ro H => less_2 (ro := ro) (H := H) (a := b) (b := e)
    have ecm : cmpS ((a, b) :: l.drop (i + 1)) ((c, e) :: m.drop (i + 1)) = orI (orI (cmpL a c) (cmpL b e)) (cmpS (l.drop (i + 1)) (m.drop (i + 1))) := rfl
    rw [hdx, hdy, ecm]
    by_cases z1 : cmpL a c = 0
    · rw [z1] at c1
      by_cases z2 : cmpL b e = 0
      · rw [z2] at c2
        have e0 : ∀ z, orI (orI (cmpL a c) (cmpL b e)) z = z := fun z => by rw [z1, z2]; rfl
        rw [e0]
        rcases ih (i + 1) (by omega) with hr | ⟨⟨e', hr, hg⟩, hc⟩
        · push_cast at hr
          refine .inl ?_
          rw [L]
          simp [-getElem?_pos, fn48B0, hlA, hlB, h1, h3, i1, i2, hx, hy, prow, c1, c2, w1, hr]
        · push_cast at hr
          refine .inr ⟨⟨e', ?_, hg⟩, hc⟩
          rw [L]
          simp [-getElem?_pos, fn48B0, hlA, hlB, h1, h3, i1, i2, hx, hy, prow, c1, c2, w1, hr]
      · have e0 : ∀ z, orI (orI (cmpL a c) (cmpL b e)) z = cmpL b e := fun z => by
          have : orI (cmpL a c) (cmpL b e) = cmpL b e := if_pos z1
          rw [this]; exact if_neg z2
        rw [e0]
        refine .inl ?_
        rw [L]
        simp [-getElem?_pos, fn48B0, hlA, hlB, h1, h3, i1, i2, hx, hy, prow, c1, c2, z2]
    · have e0 : ∀ z, orI (orI (cmpL a c) (cmpL b e)) z = cmpL a c := fun z => by
        have : orI (cmpL a c) (cmpL b e) = cmpL a c := if_neg z1
        rw [this]; exact if_neg z1
      rw [e0]
      refine .inl ?_
      rw [L]
      simp [-getElem?_pos, fn48B0, hlA, hlB, h1, h3, i1, i2, hx, hy, prow, c1, z1]

theorem rsame_2 {A B : IV} {l m : List Pr} (hA : SlA A 2 (l.map prow)) (hB : SlA B 2 (m.map prow)) (hl : l.length ≤ 9223372036854775807) : doCall (callW pg) ro 2 (.fn 50 []) [A, B] H = some (.bool (decide (cmpS l m = 0)), H) := by
  have h48 : ∀ (ro : Nat) (H : Hp), doCall (callW pg) ro 2 (.fn 48 []) [A, B] H = some (.int .i64 (cmpS l m), H) := by
    intro ro H
    have hlA := hA.len
    have hlB := hB.len
    rw [List.length_map] at hlA hlB
    have h : callW pg H.length 48 [A, B] H = some (.int .i64 (cmpS l m), H) := by
      rw [callW_eqO (fn := fn48) rfl rfl]
      rcases rcmp_loop (ro := H.length) (H := H) hA hB hl (min l.length m.length) 0 (by omega) with hr | ⟨⟨e', hr, g0, g1⟩, hc⟩
      · simp at hr
        simp [-getElem?_pos, fn48, hr]
      · simp at hr hc
        rw [hc]
        by_cases h1 : l.length < m.length
        · have h1' : (l.length : Int) < m.length := by omega
          simp [-getElem?_pos, fn48, hr, g0, g1, hlA, hlB, h1, h1']
        · have h1' : ¬ (l.length : Int) < m.length := by omega
          by_cases h2 : m.length < l.length
          · have h2' : (m.length : Int) < l.length := by omega
            simp [-getElem?_pos, fn48, hr, g0, g1, hlA, hlB, h1, h1', h2, h2']
          · have h2' : ¬ (m.length : Int) < l.length := by omega
            simp [-getElem?_pos, fn48, hr, g0, g1, hlA, hlB, h1, h1', h2, h2']
    exact call2 (args' := [A, B]) (by simp [SlA.self hA, SlA.self hB]) h rfl (.inl rfl)
  have h : callW pg H.length 50 [A, B] H = some (.bool (decide (cmpS l m = 0)), H) := by
    rw [callW_eqO (fn := fn50) rfl rfl]
    simp [-getElem?_pos, fn50, h48]
  exact call2 (args' := [A, B]) (by simp [SlA.self hA, SlA.self hB]) h rfl (.inl rfl)

/-! two rows of one set -/
theorem dup_in {A : IV} {L : List Rw} (hA : SlA A 3 (L.map rrow)) (hok : ∀ r ∈ L, r.ok) (hl : L.length ≤ 900) {i : Nat} {x : Rw} (hx : L[i]? = some x) : ∀ (d k : Nat), k + d = i →
    runW pg ro fn28L0 [(0, A), (3, .int .i64 i), (4, .int .i64 k)] H = some (.ret, [(2, .bool true)], H) ∨
    (runW pg ro fn28L0 [(0, A), (3, .int .i64 i), (4, .int .i64 k)] H = some (.exit 2, [(0, A), (3, .int .i64 i), (4, .int .i64 i), (13, .bool false)], H) ∧ ∀ (j : Nat) (y : Rw), k ≤ j → j < i → L[j]? = some y → cR x y ≠ 0) := by
  have LL : ∀ e, runW pg ro fn28L0 e H = seqO pg ro fn28L0 (runW pg ro fn28B0 (keepE [0, 3, 4] e) H) := fun e => runW_loopO
  have hi := (List.getElem?_eq_some_iff.1 hx).1
  intro d
  induction d with
  | zero =>
    intro k hk
    have : k = i := by omega
    subst this
    refine .inr ⟨by rw [LL]; simp [fn28B0], fun j y h1 h2 => by omega⟩
  | succ d ih =>
    intro k hk
    have h1 : (k : Int) < i := by omega
    have w1 : IntKind.i64.wrap ((k : Int) + 1) = k + 1 := by rw [IntKind.wrap_i64]; omega
    obtain ⟨y, hy⟩ : ∃ y, L[k]? = some y := ⟨_, List.getElem?_eq_getElem (by omega)⟩
    have i1 := fun H => hA.idx H i (by simp; omega)
    have i2 := fun H => hA.idx H k (by simp; omega)
    have okx := hok x (List.mem_of_getElem? hx)
    have oky := hok y (List.mem_of_getElem? hy)
    have hs := fun ro H => rsame_2 (ro := ro) (H := H) okx.1 oky.1 okx.2
    by_cases h0 : cR x y = 0
    · have e : cmpS x.ps y.ps = 0 := h0
      rw [e] at hs
      refine .inl ?_
      rw [LL]
      simp at hs
      simp [-getElem?_pos, fn28B0, h1, i1, i2, hx, hy, rrow, hs]
    · have e : decide (cmpS x.ps y.ps = 0) = false := decide_eq_false h0
      rw [e] at hs
      rcases ih (k + 1) (by omega) with hr | ⟨hr, hq⟩
      · push_cast at hr
        refine .inl ?_
        rw [LL]
        simp [-getElem?_pos, fn28B0, h1, i1, i2, hx, hy, rrow, hs, w1, hr]
      · push_cast at hr
        refine .inr ⟨?_, fun j z h2 h3 hz => ?_⟩
        · rw [LL]
          simp [-getElem?_pos, fn28B0, h1, i1, i2, hx, hy, rrow, hs, w1, hr]
        · by_cases ej : j = k
          · subst ej
            rw [hy] at hz; cases hz; exact h0
          · exact hq j z (by omega) h3 hz

theorem dup_out {A : IV} {L : List Rw} (hA : SlA A 3 (L.map rrow)) (hok : ∀ r ∈ L, r.ok) (hl : L.length ≤ 900) : ∀ (d i : Nat), i + d = L.length →
    runW pg ro fn28L1 [(0, A), (3, .int .i64 i)] H = some (.ret, [(2, .bool true)], H) ∨
    ((∃ e', runW pg ro fn28L1 [(0, A), (3, .int .i64 i)] H = some (.exit 0, e', H)) ∧ ∀ (i' j : Nat) (x y : Rw), i ≤ i' → j < i' → L[i']? = some x → L[j]? = some y → cR x y ≠ 0) := by
  have LL : ∀ e, runW pg ro fn28L1 e H = seqO pg ro fn28L1 (runW pg ro fn28B1 (keepE [0, 3] e) H) := fun e => runW_loopO
  have hlen := hA.len
  rw [List.length_map] at hlen
  intro d
  induction d with
  | zero =>
    intro i hi
    have : i = L.length := by omega
    subst this
    refine .inr ⟨⟨[(0, A), (3, .int .i64 L.length), (8, .bool false)], by rw [LL]; simp [fn28B1, hlen]⟩, fun i' j x y h1 _ hx => ?_⟩
    have := (List.getElem?_eq_some_iff.1 hx).1
    omega
  | succ d ih =>
    intro i hi
    have h1 : (i : Int) < L.length := by omega
    have w1 : IntKind.i64.wrap ((i : Int) + 1) = i + 1 := by rw [IntKind.wrap_i64]; omega
    obtain ⟨x, hx⟩ : ∃ x, L[i]? = some x := ⟨_, List.getElem?_eq_getElem (by omega)⟩
    rcases dup_in (ro := ro) (H := H) hA hok hl hx i 0 (by omega) with hin | ⟨hin, hq⟩
    · refine .inl ?_
      simp at hin
      rw [LL]; simp [-getElem?_pos, fn28B1, hlen, h1, hin]
    · simp at hin
      rcases ih (i + 1) (by omega) with hr | ⟨⟨e', hr⟩, hq2⟩
      · push_cast at hr
        refine .inl ?_
        rw [LL]; simp [-getElem?_pos, fn28B1, hlen, h1, hin, w1, hr]
      · push_cast at hr
        refine .inr ⟨⟨e', ?_⟩, fun i' j x' y h2 h3 hx' hy => ?_⟩
        · rw [LL]; simp [-getElem?_pos, fn28B1, hlen, h1, hin, w1, hr]
        · by_cases ei : i' = i
          · subst ei
            rw [hx] at hx'; cases hx'
            exact hq j y (Nat.zero_le _) h3 hy
          · exact hq2 i' j x' y (by omega) h3 hx' hy

theorem dup_2 {A : IV} {L : List Rw} (hA : SlA A 3 (L.map rrow)) (hok : ∀ r ∈ L, r.ok) (hl : L.length ≤ 900) : ∃ r, doCall (callW pg) ro 2 (.fn 28 []) [A] H = some (.bool r, H) ∧ (r = false → List.Pairwise (fun a b => cR a b ≠ 0) L) := by
  rcases dup_out (ro := H.length) (H := H) hA hok hl L.length 0 (by omega) with hr | ⟨⟨e', hr⟩, hq⟩
  · refine ⟨true, ?_, fun h => by cases h⟩
    have h : callW pg H.length 28 [A] H = some (.bool true, H) := by
      simp at hr
      rw [callW_eqO (fn := fn28) rfl rfl]
      simp [-getElem?_pos, fn28, hr]
    exact call2 (args' := [A]) (by simp [SlA.self hA]) h rfl (.inl rfl)
  · refine ⟨false, ?_, fun _ => ?_⟩
    · have h : callW pg H.length 28 [A] H = some (.bool false, H) := by
        simp at hr
        rw [callW_eqO (fn := fn28) rfl rfl]
        simp [-getElem?_pos, fn28, hr]
      exact call2 (args' := [A]) (by simp [SlA.self hA]) h rfl (.inl rfl)
    · rw [List.pairwise_iff_getElem]
      intro i j hi hj hij
      have := hq j i L[j] L[i] (Nat.zero_le _) hij (List.getElem?_eq_getElem hj) (List.getElem?_eq_getElem hi)
      intro e
      have h2 := cR_anti L[j] L[i]
      omega
end Go.Proofs.Ytgpooiahnpemjaa
