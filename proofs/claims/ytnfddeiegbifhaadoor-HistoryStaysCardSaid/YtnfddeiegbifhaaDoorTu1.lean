import Derived.Test.YtnfddeiegbifhaaDoorFnsLk
import Derived.Test.YtnfddeiegbifhaaDoorVsSort
/- Label sets, compared. -/
namespace Go.Proofs.YtnfddeiegbifhaaDoor
open Go Go.Vs
variable {ro : Nat} {H : Hp}

theorem SlA.self {A : IV} {sz : Nat} {rows : List (List IV)} (h : SlA A sz rows) : frzArg H A = A := by
  rcases h.imm with ⟨rfl, _⟩ | ⟨f, rfl⟩ <;> rfl

abbrev Pr := List UInt8 × List UInt8
def prow (p : Pr) : List IV := [.str (bs p.1), .str (bs p.2)]
def cmpPr : Pr → Pr → Int := pairC cmpL cmpL
def cmpS : List Pr → List Pr → Int := lex cmpPr
theorem cmpPr_3 : Cmp3 cmpPr := cmpL_3.pair cmpL_3
theorem cmpS_3 : Cmp3 cmpS := cmpPr_3.lex
theorem cmpL_rng (x y : List UInt8) : -1 ≤ cmpL x y ∧ cmpL x y ≤ 1 := lex_rng cmpB_rng x y
theorem cmpPr_rng (x y : Pr) : -1 ≤ cmpPr x y ∧ cmpPr x y ≤ 1 := pair_rng cmpL_rng cmpL_rng x y
theorem cmpS_rng (x y : List Pr) : -1 ≤ cmpS x y ∧ cmpS x y ≤ 1 := lex_rng cmpPr_rng x y

theorem compare_2 {a b : List UInt8} : doCall (callW pg) ro 2 (.fn 68 []) [.str (bs a), .str (bs b)] H = some (.int .i64 (cmpL a b), H) := by
  have h79 : ∀ H : Hp, callW pg H.length 76 [.str (bs a), .str (bs b)] H = some (.int .i64 (cmpL a b), H) := by
    intro H
    rw [callW_eqO (fn := fn76) rfl rfl]
    simp [fn76, prV, cmps_bs]
  have h2 : ∀ (ro : Nat) (H : Hp), doCall (callW pg) ro 2 (.fn 76 []) [.str (bs a), .str (bs b)] H = some (.int .i64 (cmpL a b), H) := fun ro H => call2p (h79 H) rfl rfl
  have h : callW pg H.length 68 [.str (bs a), .str (bs b)] H = some (.int .i64 (cmpL a b), H) := by
    rw [callW_eqO (fn := fn68) rfl rfl]
    simp [fn68, h2]
  exact call2p h rfl rfl

theorem or_2 {b : Nat} {x y : Int} (hb : H[b]? = some { rows := [[.int .i64 x], [.int .i64 y]] }) : doCall (callW pg) ro 2 (.fn 67 []) [.arr b 0 0 2 2 true] H = some (.int .i64 (orI x y), H) := by
  have hs : Sq H (.arr b 0 0 2 2 true) 1 [[.int .i64 x], [.int .i64 y]] := .inr ⟨b, 0, [], [], 2, true, rfl, by simp, by rw [hb]; rfl, by simp⟩
  have hA : SlA (frzArg H (.arr b 0 0 2 2 true)) 1 [[.int .i64 x], [.int .i64 y]] := hs.frzA (by simp [plainD])
  obtain ⟨A, eA⟩ : ∃ A, A = frzArg H (.arr b 0 0 2 2 true) := ⟨_, rfl⟩
  rw [← eA] at hA
  have L : ∀ e, runW pg H.length fn67L0 e H = seqO pg H.length fn67L0 (runW pg H.length fn67B0 (keepE [3, 6, 7, 8] e) H) := fun e => runW_loopO
  have hlen := hA.len
  have i0 := fun H => hA.idx H 0 (by simp)
  have i1 := fun H => hA.idx H 1 (by simp)
  have h : callW pg H.length 67 [A] H = some (.int .i64 (orI x y), H) := by
    rw [callW_eqO (fn := fn67) rfl rfl]
    have wz : IntKind.i64.wrap 1 = 1 := by decide
    have w2 : IntKind.i64.wrap 2 = 2 := by decide
    simp at hlen i0 i1
    unfold orI
    by_cases h0 : x = 0
    · by_cases h1 : y = 0
      · simp [-getElem?_pos, fn67, L, fn67B0, hlen, i0, i1, h0, h1, wz, w2]
      · simp [-getElem?_pos, fn67, L, fn67B0, hlen, i0, i1, h0, h1, wz, w2]
    · simp [-getElem?_pos, fn67, L, fn67B0, hlen, i0, i1, h0, wz, w2]
  exact call2 (args' := [A]) (by simp [eA]) h rfl (.inl rfl)

theorem cmpfn_2 {p q : Pr} : doCall (callW pg) ro 2 (.fn 66 []) [.agg (prow p), .agg (prow q)] H = some (.int .i64 (cmpPr p q), H) := by
  obtain ⟨a, b⟩ := p
  obtain ⟨c, d⟩ := q
  have h : ∃ H', callW pg H.length 66 [.agg (prow (a, b)), .agg (prow (c, d))] H = some (.int .i64 (cmpPr (a, b) (c, d)), H') := by
    have h1 := fun ro H => compare_2 (ro := ro) (H := H) (a := a) (b := c)
    have h2 := fun ro H => compare_2 (ro := ro) (H := H) (a := b) (b := d)
    obtain ⟨Z, hZ⟩ : ∃ Z : Hp, Z = H ++ [{ rows := [prow (a, b)] }, { rows := [prow (c, d)] }] ++ [{ rows := [[.int .i64 (cmpL a c)], [.int .i64 (cmpL b d)]] }] := ⟨_, rfl⟩
    refine ⟨Z, ?_⟩
    rw [callW_eqO (fn := fn66) rfl rfl]
    have h4 := or_2 (ro := H.length) (H := Z) (b := H.length + 2) (x := cmpL a c) (y := cmpL b d) (by rw [hZ, List.getElem?_append_right (by simp)]; simp)
    rw [hZ] at h4 ⊢
    unfold prow at h4 ⊢
    simp at h4
    simp [-getElem?_pos, fn66, h1, h2, h4, cmpPr, pairC]
  obtain ⟨H', h⟩ := h
  refine call2p h ?_ rfl
  simp [prow, plainD, frzD]

theorem cmp_loop {A B : IV} {l m : List Pr} (hA : SlA A 2 (l.map prow)) (hB : SlA B 2 (m.map prow)) (hl : l.length ≤ 9223372036854775807) : ∀ (d i : Nat) (H : Hp), i + d = l.length → ro ≤ H.length →
    (∃ H', runW pg ro fn65L0 [(0, A), (1, B), (2, .fn 66 []), (11, A), (12, .int .i64 l.length), (13, .int .i64 i)] H = some (.ret, [(6, .int .i64 (cmpS (l.drop i) (m.drop i)))], H')) ∨
    (∃ H', runW pg ro fn65L0 [(0, A), (1, B), (2, .fn 66 []), (11, A), (12, .int .i64 l.length), (13, .int .i64 i)] H = some (.exit 0, [(0, A), (1, B), (2, .fn 66 []), (11, A), (12, .int .i64 l.length), (13, .int .i64 l.length), (14, .bool false)], H') ∧
      cmpS (l.drop i) (m.drop i) = if l.length < m.length then -1 else 0) := by
  have L : ∀ e H, runW pg ro fn65L0 e H = seqO pg ro fn65L0 (runW pg ro fn65B0 (keepE [0, 1, 2, 11, 12, 13] e) H) := fun e H => runW_loopO
  have hlA := hA.len
  have hlB := hB.len
  rw [List.length_map] at hlA hlB
  intro d
  induction d with
  | zero =>
    intro i H hi _
    have : i = l.length := by omega
    subst this
    refine .inr ⟨H, ?_, ?_⟩
    · rw [L]; simp [fn65B0]
    · rw [List.drop_length]
      cases hm : m.drop l.length with
      | nil =>
        have : m.length ≤ l.length := List.drop_eq_nil_iff.1 hm
        rw [if_neg (by omega)]; rfl
      | cons y ys =>
        have : ¬ m.length ≤ l.length := fun h => by rw [List.drop_eq_nil_iff.2 h] at hm; cases hm
        rw [if_pos (by omega)]; rfl
  | succ d ih =>
    intro i H hi hro
    have h1 : (i : Int) < l.length := by omega
    have h2 : i < l.length := by omega
    have w1 : IntKind.i64.wrap ((i : Int) + 1) = i + 1 := by rw [IntKind.wrap_i64]; omega
    obtain ⟨x, hx⟩ : ∃ x, l[i]? = some x := ⟨_, List.getElem?_eq_getElem h2⟩
    have hdr : l.drop i = x :: l.drop (i + 1) := by
      have := List.drop_eq_getElem_cons h2
      rw [this]; congr 1
      rw [List.getElem?_eq_getElem h2] at hx; exact Option.some.inj hx
    have hrow : (l.map prow)[i]? = some (prow x) := by rw [List.getElem?_map, hx]; rfl
    have hidx := fun H => hA.idx H i (by simp; omega)
    rw [hdr]
    by_cases hm : m.length ≤ i
    · have hm1 : (m.length : Int) ≤ i := by omega
      refine .inl ⟨H ++ [{ rows := [prow x] }], ?_⟩
      have e : m.drop i = [] := List.drop_eq_nil_iff.2 hm
      rw [e, L]
      unfold prow
      simp [-getElem?_pos, fn65B0, hlB, h1, hidx, hx, prow, hro, hm, hm1, cmpS, lex]
    · have hm1 : ¬ (m.length : Int) ≤ i := by omega
      have hm2 : i < m.length := by omega
      have hm3 : (i : Int) < m.length := by omega
      obtain ⟨y, hy⟩ : ∃ y, m[i]? = some y := ⟨_, List.getElem?_eq_getElem hm2⟩
      have hdy : m.drop i = y :: m.drop (i + 1) := by
        have := List.drop_eq_getElem_cons hm2
        rw [this]; congr 1
        rw [List.getElem?_eq_getElem hm2] at hy; exact Option.some.inj hy
      have hrowy : (m.map prow)[i]? = some (prow y) := by rw [List.getElem?_map, hy]; rfl
      have hidy := fun H => hB.idx H i (by simp; omega)
      have hc := fun ro H => cmpfn_2 (ro := ro) (H := H) (p := x) (q := y)
      have ecm : cmpS (x :: l.drop (i + 1)) (y :: m.drop (i + 1)) = orI (cmpPr x y) (cmpS (l.drop (i + 1)) (m.drop (i + 1))) := rfl
      rw [hdy, ecm]
      by_cases h0 : cmpPr x y = 0
      · rw [h0] at hc
        have e0 : ∀ z, orI 0 z = z := fun z => rfl
        rw [h0, e0]
        rcases ih (i + 1) (H ++ [{ rows := [prow x] }, { rows := [prow y] }]) (by omega) (by simp; omega) with ⟨H', hr⟩ | ⟨H', hr, hg⟩
        · push_cast at hr
          refine .inl ⟨H', ?_⟩
          rw [L]
          unfold prow at hc hr
          simp [-getElem?_pos, fn65B0, hlB, h1, hidx, hx, prow, hro, hm, hm1, hm3, hidy, hy, hc, w1, hr]
        · push_cast at hr
          refine .inr ⟨H', ?_, hg⟩
          rw [L]
          unfold prow at hc hr
          simp [-getElem?_pos, fn65B0, hlB, h1, hidx, hx, prow, hro, hm, hm1, hm3, hidy, hy, hc, w1, hr]
      · have e0 : ∀ z, orI (cmpPr x y) z = cmpPr x y := fun z => if_neg h0
        rw [e0]
        refine .inl ⟨H ++ [{ rows := [prow x] }, { rows := [prow y] }], ?_⟩
        rw [L]
        unfold prow at hc ⊢
        simp [-getElem?_pos, fn65B0, hlB, h1, hidx, hx, prow, hro, hm, hm1, hm3, hidy, hy, hc, h0]

theorem cmp_2 {A B : IV} {l m : List Pr} (hA : SlA (frzArg H A) 2 (l.map prow)) (hB : SlA (frzArg H B) 2 (m.map prow)) (hl : l.length ≤ 9223372036854775807) : doCall (callW pg) ro 2 (.fn 49 []) [A, B] H = some (.int .i64 (cmpS l m), H) := by
  have h71 : ∀ (ro : Nat) (H : Hp) {A B : IV}, SlA A 2 (l.map prow) → SlA B 2 (m.map prow) → doCall (callW pg) ro 2 (.fn 65 []) [A, B, .fn 66 []] H = some (.int .i64 (cmpS l m), H) := by
    intro ro H A B hA hB
    have hlA := hA.len
    have hlB := hB.len
    rw [List.length_map] at hlA hlB
    have h : ∃ H', callW pg H.length 65 [A, B, .fn 66 []] H = some (.int .i64 (cmpS l m), H') := by
      rw [callW_eqO (fn := fn65) rfl rfl]
      rcases cmp_loop (ro := H.length) hA hB hl l.length 0 H (by omega) (Nat.le_refl _) with ⟨H', hr⟩ | ⟨H', hr, hg⟩
      · simp at hr
        exact ⟨H', by simp [-getElem?_pos, fn65, hlA, hr]⟩
      · simp at hr hg
        refine ⟨H', ?_⟩
        rw [hg]
        by_cases hlt : l.length < m.length
        · have hlt1 : (l.length : Int) < m.length := by omega
          simp [-getElem?_pos, fn65, hlA, hlB, hr, hlt, hlt1]
        · have hlt1 : ¬ (l.length : Int) < m.length := by omega
          simp [-getElem?_pos, fn65, hlA, hlB, hr, hlt, hlt1]
    obtain ⟨H', h⟩ := h
    exact call2 (args' := [A, B, .fn 66 []]) (by simp only [List.append_nil, List.map_cons, List.map_nil, SlA.self hA, SlA.self hB]; rfl) h rfl (.inl rfl)
  have h : callW pg H.length 49 [frzArg H A, frzArg H B] H = some (.int .i64 (cmpS l m), H) := by
    have h2 := fun ro H => h71 ro H hA hB
    rw [callW_eqO (fn := fn49) rfl rfl]
    simp [-getElem?_pos, fn49, h2]
  exact call2 (args' := [frzArg H A, frzArg H B]) (by simp) h rfl (.inl rfl)
end Go.Proofs.YtnfddeiegbifhaaDoor
