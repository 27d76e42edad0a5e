import Derived.Test.YtinmpfflkcnkfaaTl10
/- The law 'LabelParts'. -/
namespace Go.Proofs.Ytinmpfflkcnkfaa
open Go Go.Vs
variable {ro : Nat} {H : Hp}

theorem cells_slA {N : IV} {rows : List (List IV)} (hN : SlA N 1 rows) : cellsO N = some [N] := by
  rcases hN.imm with ⟨rfl, _⟩ | ⟨f, rfl⟩ <;> rfl

theorem part_1i {f g : Nat} (hf : f = 23 ∧ g = 54 ∨ f = 24 ∧ g = 56) {A N : IV} {l : List Pr} {rows : List (List IV)} {so : List UInt8 → Bool} (hso : So g N so) (hA : SlA A 2 (l.map prow)) (hl : l.length ≤ 1000) (hN : SlA N 1 rows) :
    ∃ vi, doCall (callW pg) ro 1 (.fn f []) [A, N] H = some (vi, H) ∧ SlA vi 2 ((part so l).map prow) := by
  obtain ⟨v', H', h1, h2, h3⟩ := part_b (H := H) hf hso hA hl (cells_slA hN)
  obtain ⟨vi, h4, h5⟩ := frzK (k := 11) h2 h3 prow_plainK
  refine ⟨vi, ?_, h5⟩
  have ha : ([A, N] ++ []).map (frzArg H) = [A, N] := by simp [SlA.self hA, SlA.self hN]
  have hb : ([A, N] ++ []).flatMap (blks frzD H) = [] := by
    have e1 := blks_slA (H := H) hA
    have e2 : [N].flatMap (blks frzD H) = [] := by rcases hN.imm with ⟨rfl, _⟩ | ⟨f, rfl⟩ <;> rfl
    simp only [List.flatMap_cons, List.flatMap_nil, List.append_nil] at e1 e2
    simp only [List.append_nil, List.flatMap_cons, List.flatMap_nil, e1, e2]
  have h4 : frz frzD H' H.length v' = some vi := h4
  simp only [doCall, callP, ha, h1, Option.bind_some, h4, hb, markF]
  split <;> rfl

/-- Of names in the heap: they may be frozen. -/
theorem part_1a {f g : Nat} (hf : f = 23 ∧ g = 54 ∨ f = 24 ∧ g = 56) {A : IV} {l : List Pr} {names : List (List UInt8)} {so : List UInt8 → Bool} {b gn cap : Nat} {B : Bk} (hso : ∀ N, SlA N 1 (names.map strow) → So g N so) (hA : SlA A 2 (l.map prow)) (hl : l.length ≤ 1000)
    (hB : H[b]? = some B) (hg : B.gen = gn) (hrows : B.rows = names.map strow) (hro : ro ≤ b) :
    ∃ vi H' B', doCall (callW pg) ro 1 (.fn f []) [A, .arr b gn 0 names.length cap false] H = some (vi, H') ∧ SlA vi 2 ((part so l).map prow) ∧ H'[b]? = some B' ∧ B'.gen = gn ∧ B'.rows = names.map strow := by
  have hAb : blkAt H b gn = some B := by rw [blkAt_eq, hB, Option.bind_some, if_pos hg]
  have htk : (B.rows.drop 0).take names.length = names.map strow := by rw [List.drop_zero, hrows]; exact List.take_of_length_le (by simp)
  have hpl : ∀ r ∈ names.map strow, ∀ x ∈ r, plainD 10 x = true := by
    intro r hr x hx
    obtain ⟨y, _, rfl⟩ := List.mem_map.1 hr
    simp [strow] at hx
    subst hx; rfl
  have hmo : mapO (mapO (Vs.frz0 11 H)) (names.map strow) = some (names.map strow) := mapO_id fun r hr => mapO_id fun x hx => frz0_plain 11 H x (by
    obtain ⟨y, _, rfl⟩ := List.mem_map.1 hr
    simp [strow] at hx
    subst hx; rfl)
  have hfa : frzArg H (.arr b gn 0 names.length cap false) = .imm (names.map strow) false := by
    unfold frzArg
    show (Vs.frz0 (11 + 1) H _).getD _ = _
    rw [frz0_arr', hAb, Option.bind_some, if_pos (by rw [hrows, List.length_map]; omega), htk, hmo]
    rfl
  have hN : SlA (.imm (names.map strow) false) 1 (names.map strow) := slA_imm fun r hr => by
    obtain ⟨y, _, rfl⟩ := List.mem_map.1 hr; rfl
  have hbk : blks frzD H (.arr b gn 0 names.length cap false) = [b] := by
    show b :: (match blkAt H b gn with | some B => _ | none => _) = _
    rw [hAb]
    show b :: ((B.rows.drop 0).take names.length).flatMap _ = _
    rw [htk, blks_flat hpl]
  obtain ⟨v', H2, h1, h2, h3⟩ := part_b (H := H) hf (hso _ hN) hA hl (cells_slA hN)
  obtain ⟨vi, h4, h5⟩ := frzK (k := 11) h2 h3 prow_plainK
  have h4 : frz frzD H2 H.length v' = some vi := h4
  have ha : ([A, .arr b gn 0 names.length cap false] ++ []).map (frzArg H) = [A, .imm (names.map strow) false] := by simp [SlA.self hA, hfa]
  have hb : ([A, .arr b gn 0 names.length cap false] ++ []).flatMap (blks frzD H) = [b] := by
    have e1 := blks_slA (H := H) hA
    simp only [List.flatMap_cons, List.flatMap_nil, List.append_nil] at e1
    simp only [List.append_nil, List.flatMap_cons, List.flatMap_nil, e1, hbk, List.nil_append]
  cases hfl : flatV vi
  · refine ⟨vi, H.set b { B with frz := true }, { B with frz := true }, ?_, h5, ?_, hg, hrows⟩
    · simp only [doCall, callP, ha, h1, Option.bind_some, h4, hb, hfl, markF, hB, hro, if_true]
      rfl
    · rw [List.getElem?_set_self (List.getElem?_eq_some_iff.1 hB).1]
  · refine ⟨vi, H, B, ?_, h5, hB, hg, hrows⟩
    simp only [doCall, callP, ha, h1, Option.bind_some, h4, hfl, if_true]

/-! what is kept and what is left out -/
theorem isGo_iff : ∀ (l : List Pr) (o : Option (List UInt8)), isGo o l = true ↔ (∀ x ∈ l, nameB x.1 = true ∧ valB x.2 = true) ∧ List.Pairwise (fun a b => cN a b < 0) l ∧ ∀ x ∈ l, lessO o x.1 = true
  | [], o => by simp [isGo]
  | a :: l, o => by
    have ih := isGo_iff l (some a.1)
    simp only [isGo, Bool.and_eq_true, ih, List.pairwise_cons, List.forall_mem_cons]
    have e : ∀ x : Pr, lessO (some a.1) x.1 = true ↔ cN a x < 0 := fun x => by simp [lessO, cN]
    simp only [e]
    constructor
    · rintro ⟨⟨⟨h1, h2⟩, h3⟩, h4, h5, h6⟩
      refine ⟨⟨⟨h1, h2⟩, h4⟩, ⟨h6, h5⟩, h3, fun x hx => ?_⟩
      cases o with
      | none => rfl
      | some y =>
        simp only [lessO, decide_eq_true_eq] at h3 ⊢
        have := h6 x hx
        exact cmpL_3.lt_trans h3 (Int.le_of_lt this)
    · rintro ⟨⟨⟨h1, h2⟩, h4⟩, ⟨h6, h5⟩, h3, _⟩
      exact ⟨⟨⟨h1, h2⟩, h3⟩, h4, h5, h6⟩
theorem isB_iff {l : List Pr} : isB l = true ↔ (∀ x ∈ l, nameB x.1 = true ∧ valB x.2 = true) ∧ List.Pairwise (fun a b => cN a b < 0) l ∧ l.length ≤ 8 := by
  have e : ∀ x : Pr, lessO none x.1 = true := fun _ => rfl
  simp [isB, isGo_iff, e, and_assoc]
theorem isB_part {l : List Pr} (h : isB l = true) (so : List UInt8 → Bool) : isB (part so l) = true := by
  rw [isB_iff] at h ⊢
  exact ⟨fun x hx => h.1 x (List.mem_filter.1 hx).1, h.2.1.sublist List.filter_sublist, Nat.le_trans (List.length_filter_le _ _) h.2.2⟩
theorem val_ne {v : List UInt8} (h : valB v = true) : (v == []) = false := by
  cases v with
  | nil => simp [valB] at h
  | cons => rfl
theorem get_part {l : List Pr} (h : isB l = true) (so : List UInt8 → Bool) {x : Pr} (hx : x ∈ l) : (getB x.1 (part so l) == []) = !so x.1 := by
  rw [isB_iff] at h
  cases hs : so x.1
  · have : getB x.1 (part so l) = [] := get_not fun y hy e => by
      have := (List.mem_filter.1 hy).2
      simp only [e, hs] at this
      cases this
    simp [this]
  · have hm : x ∈ part so l := List.mem_filter.2 ⟨hx, hs⟩
    rw [get_mem (l := part so l) (h.2.1.sublist List.filter_sublist) hm, val_ne (h.1 x hx).2]
    rfl
theorem part_count (s t : List UInt8 → Bool) : ∀ (l : List Pr), (∀ x ∈ l, (s x.1 && t x.1) = false) → (part (fun n => s n || t n) l).length = (part s l).length + (part t l).length
  | [], _ => rfl
  | a :: l, h => by
    have ih := part_count s t l fun x hx => h x (List.mem_cons_of_mem _ hx)
    have ha := h a (List.mem_cons_self ..)
    unfold part at ih ⊢
    cases h1 : s a.1 <;> cases h2 : t a.1 <;> simp [h1, h2, ih] at ha ⊢ <;> omega
end Go.Proofs.Ytinmpfflkcnkfaa
