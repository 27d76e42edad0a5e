import Derived.Test.YtinmpfflkcnkfaaTl3
/- Values, sets of pairs, one pair's value. -/
namespace Go.Proofs.Ytinmpfflkcnkfaa
open Go Go.Vs
variable {ro : Nat} {H : Hp}

def valB (l : List UInt8) : Bool := decide (1 ≤ l.length ∧ l.length ≤ 30) && (l.findIdx? (· == 10)).isNone
theorem ixB_bs {l : List UInt8} : ixB (bs l) 10 = match l.findIdx? (· == 10) with | some i => (i : Int) | none => -1 := by
  unfold ixB; simp only [bs_dataL]; rfl
theorem value_2 {l : List UInt8} (hl : l.length < 9223372036854775807) : doCall (callW pg) ro 2 (.fn 41 []) [.str (bs l)] H = some (.bool (valB l), H) := by
  have h81 : ∀ ro H, doCall (callW pg) ro 2 (.fn 81 []) [.str (bs l), .int .u8 10] H = some (.int .i64 (ixB (bs l) 10), H) := fun ro H => by
    refine call2p (H2 := H) ?_ rfl rfl
    rw [callW_eqO (fn := fn81) rfl rfl]
    simp [fn81]
  have h68 : ∀ ro H, doCall (callW pg) ro 2 (.fn 68 []) [.str (bs l), .int .u8 10] H = some (.int .i64 (ixB (bs l) 10), H) := fun ro H => by
    refine call2p (H2 := H) ?_ rfl rfl
    rw [callW_eqO (fn := fn68) rfl rfl]
    simp [fn68, h81]
  refine call2p (H2 := H) ?_ rfl rfl
  rw [callW_eqO (fn := fn41) rfl rfl]
  unfold valB
  rw [ixB_bs] at h68
  have e2 : ((l.length : Int) ≤ 30) ↔ l.length ≤ 30 := by omega
  have e3 : ((1 : Int) ≤ l.length) ↔ 1 ≤ l.length := by omega
  by_cases c1 : 1 ≤ l.length
  · by_cases c2 : l.length ≤ 30
    · cases hf : l.findIdx? (· == 10) with
      | none =>
        rw [hf] at h68
        simp [fn41, e2, e3, c1, c2, h68]
      | some i =>
        rw [hf] at h68
        have e4 : ¬ (i : Int) < 0 := by omega
        simp [fn41, e2, e3, c1, c2, h68]
    · simp [fn41, e2, e3, c1, c2]
  · simp [fn41, e3, c1]

/-! a set -/
def lessO : Option (List UInt8) → List UInt8 → Bool
  | none, _ => true
  | some y, x => decide (cmpL y x < 0)
def isGo : Option (List UInt8) → List Pr → Bool
  | _, [] => true
  | p, x :: r => nameB x.1 && valB x.2 && lessO p x.1 && isGo (some x.1) r
def isB (l : List Pr) : Bool := isGo none l && decide (l.length ≤ 8)
def prevN (l : List Pr) (i : Nat) : Option (List UInt8) := if i = 0 then none else (l[i - 1]?).map (·.1)
def Short (l : List Pr) : Prop := ∀ p ∈ l, p.1.length < 9223372036854775807 ∧ p.2.length < 9223372036854775807

theorem is_loop {A : IV} {l : List Pr} (hA : SlA A 2 (l.map prow)) (hs : Short l) (hl : l.length < 9223372036854775807) : ∀ (d i : Nat) (H : Hp), i + d = l.length → ro ≤ H.length →
    (isGo (prevN l i) (l.drop i) = false ∧ ∃ H', runW pg ro fn17L0 [(0, A), (5, A), (6, .int .i64 l.length), (7, .int .i64 i)] H = some (.ret, [(2, .bool false)], H')) ∨
    (isGo (prevN l i) (l.drop i) = true ∧ ∃ H', runW pg ro fn17L0 [(0, A), (5, A), (6, .int .i64 l.length), (7, .int .i64 i)] H = some (.exit 0, [(0, A), (5, A), (6, .int .i64 l.length), (7, .int .i64 l.length), (8, .bool false)], H')) := by
  have L : ∀ e H, runW pg ro fn17L0 e H = seqO pg ro fn17L0 (runW pg ro fn17B0 (keepE [0, 5, 6, 7] e) H) := fun e H => runW_loopO
  intro d
  induction d with
  | zero =>
    intro i H hi _
    have : i = l.length := by omega
    subst this
    refine .inr ⟨by simp [isGo], H, ?_⟩
    rw [L]; simp [fn17B0]
  | succ d ih =>
    intro i H hi hro
    have h2 : i < l.length := by omega
    have h1 : (i : Int) < l.length := by omega
    have w1 : IntKind.i64.wrap ((i : Int) + 1) = i + 1 := by rw [IntKind.wrap_i64]; omega
    obtain ⟨x, hx⟩ : ∃ x, l[i]? = some x := ⟨_, List.getElem?_eq_getElem h2⟩
    have hdr : l.drop i = x :: l.drop (i + 1) := by
      have := List.drop_eq_getElem_cons h2
      rw [this]; congr 1
      rw [List.getElem?_eq_getElem h2] at hx; exact Option.some.inj hx
    have hidx := fun H => hA.idx H i (by simp; omega)
    have hsx := hs x (List.mem_of_getElem? hx)
    have hn := fun ro H => name_2 (ro := ro) (H := H) hsx.1
    have hv := fun ro H => value_2 (ro := ro) (H := H) hsx.2
    have hpv : prevN l (i + 1) = some x.1 := by simp [prevN, hx]
    rw [hdr]
    simp only [isGo]
    cases cn : nameB x.1
    · rw [cn] at hn
      refine .inl ⟨by simp, H ++ [{ rows := [prow x] }], ?_⟩
      rw [L]
      unfold prow
      simp [-getElem?_pos, fn17B0, h1, hidx, hx, prow, hro, hn]
    · rw [cn] at hn
      cases cv : valB x.2
      · rw [cv] at hv
        refine .inl ⟨by simp, H ++ [{ rows := [prow x] }], ?_⟩
        rw [L]
        unfold prow
        simp [-getElem?_pos, fn17B0, h1, hidx, hx, prow, hro, hn, hv]
      · rw [cv] at hv
        have step : lessO (prevN l i) x.1 = true → runW pg ro fn17L0 [(0, A), (5, A), (6, .int .i64 l.length), (7, .int .i64 i)] H = runW pg ro fn17L0 [(0, A), (5, A), (6, .int .i64 l.length), (7, .int .i64 (i + 1))] (H ++ [{ rows := [prow x] }]) := by
          intro hless
          by_cases c0 : i = 0
          · subst c0
            simp at h1
            have w0 : IntKind.i64.wrap 1 = 1 := by decide
            have hidx0 : ∀ H, idx H 2 A 0 = some (.eptr (l.map prow) 0 0) := fun H => hidx H
            rw [L]
            unfold prow
            simp [-getElem?_pos, fn17B0, h1, hidx0, hx, prow, hro, hn, hv, w0]
          · obtain ⟨y, hy⟩ : ∃ y, l[i - 1]? = some y := ⟨_, List.getElem?_eq_getElem (by omega)⟩
            have hidy := fun H => hA.idx H (i - 1) (by simp; omega)
            have e1 : ((i - 1 : Nat) : Int) = i - 1 := by omega
            rw [e1] at hidy
            have hp : 0 < i := by omega
            have w2 : IntKind.i64.wrap ((i : Int) - 1) = i - 1 := by rw [IntKind.wrap_i64]; omega
            have hle : ¬ 0 ≤ cmpL y.1 x.1 := by
              simp [prevN, c0, hy, lessO] at hless; omega
            rw [L]
            unfold prow
            simp [-getElem?_pos, fn17B0, h1, hidx, hx, prow, hro, hn, hv, hp, w2, hidy, hy, hle, w1]
        cases cl : lessO (prevN l i) x.1
        · have c0 : ¬ i = 0 := by
            intro e; subst e; simp [prevN, lessO] at cl
          obtain ⟨y, hy⟩ : ∃ y, l[i - 1]? = some y := ⟨_, List.getElem?_eq_getElem (by omega)⟩
          have hidy := fun H => hA.idx H (i - 1) (by simp; omega)
          have e1 : ((i - 1 : Nat) : Int) = i - 1 := by omega
          rw [e1] at hidy
          have hp : 0 < i := by omega
          have w2 : IntKind.i64.wrap ((i : Int) - 1) = i - 1 := by rw [IntKind.wrap_i64]; omega
          have hle : 0 ≤ cmpL y.1 x.1 := by
            simp [prevN, c0, hy, lessO] at cl; omega
          refine .inl ⟨by simp, H ++ [{ rows := [prow x] }], ?_⟩
          rw [L]
          unfold prow
          simp [-getElem?_pos, fn17B0, h1, hidx, hx, prow, hro, hn, hv, hp, w2, hidy, hy, hle]
        · have ih := ih (i + 1) (H ++ [{ rows := [prow x] }]) (by omega) (by simp; omega)
          rw [hpv] at ih
          push_cast at ih
          rw [step cl]
          simpa using ih

theorem is_2 {A : IV} {l : List Pr} (hA : SlA (frzArg H A) 2 (l.map prow)) (hs : Short l) (hl : l.length < 9223372036854775807) : doCall (callW pg) ro 2 (.fn 17 []) [A] H = some (.bool (isB l), H) := by
  have hlen := hA.len
  rw [List.length_map] at hlen
  have h : ∃ H', callW pg H.length 17 [frzArg H A] H = some (.bool (isB l), H') := by
    rw [callW_eqO (fn := fn17) rfl rfl]
    unfold isB
    rcases is_loop (ro := H.length) hA hs hl l.length 0 H (by omega) (Nat.le_refl _) with ⟨e, H', hr⟩ | ⟨e, H', hr⟩
    · rw [List.drop_zero] at e
      simp at hr
      have e' : isGo none l = false := e
      exact ⟨H', by simp [-getElem?_pos, fn17, hlen, hr, e']⟩
    · rw [List.drop_zero] at e
      simp at hr
      have e' : isGo none l = true := e
      have e2 : ((l.length : Int) ≤ 8) ↔ l.length ≤ 8 := by omega
      exact ⟨H', by simp [-getElem?_pos, fn17, hlen, hr, e', e2]⟩
  obtain ⟨H', h⟩ := h
  exact call2 (args' := [frzArg H A]) (by simp) h rfl (.inl rfl)

/-! one pair's value -/
def getB (n : List UInt8) : List Pr → List UInt8
  | [] => []
  | x :: r => if x.1 = n then x.2 else getB n r

theorem get_loop {A : IV} {l : List Pr} (hA : SlA A 2 (l.map prow)) (hl : l.length < 9223372036854775807) {n : List UInt8} : ∀ (d i : Nat) (H : Hp), i + d = l.length → ro ≤ H.length →
    (∃ H', runW pg ro fn22L0 [(1, .str (bs n)), (7, A), (8, .int .i64 l.length), (9, .int .i64 i)] H = some (.ret, [(4, .str (bs (getB n (l.drop i))))], H')) ∨
    (getB n (l.drop i) = [] ∧ ∃ e' H', runW pg ro fn22L0 [(1, .str (bs n)), (7, A), (8, .int .i64 l.length), (9, .int .i64 i)] H = some (.exit 0, e', H')) := by
  have L : ∀ e H, runW pg ro fn22L0 e H = seqO pg ro fn22L0 (runW pg ro fn22B0 (keepE [1, 7, 8, 9] e) H) := fun e H => runW_loopO
  intro d
  induction d with
  | zero =>
    intro i H hi _
    have : i = l.length := by omega
    subst this
    refine .inr ⟨by simp [getB], [(1, .str (bs n)), (7, A), (8, .int .i64 l.length), (9, .int .i64 l.length), (10, .bool false)], H, ?_⟩
    rw [L]; simp [fn22B0]
  | succ d ih =>
    intro i H hi hro
    have h2 : i < l.length := by omega
    have h1 : (i : Int) < l.length := by omega
    have w1 : IntKind.i64.wrap ((i : Int) + 1) = i + 1 := by rw [IntKind.wrap_i64]; omega
    obtain ⟨x, hx⟩ : ∃ x, l[i]? = some x := ⟨_, List.getElem?_eq_getElem h2⟩
    have hdr : l.drop i = x :: l.drop (i + 1) := by
      have := List.drop_eq_getElem_cons h2
      rw [this]; congr 1
      rw [List.getElem?_eq_getElem h2] at hx; exact Option.some.inj hx
    have hidx := fun H => hA.idx H i (by simp; omega)
    rw [hdr]
    simp only [getB]
    by_cases c : x.1 = n
    · rw [if_pos c]
      refine .inl ⟨H ++ [{ rows := [prow x] }], ?_⟩
      rw [L]
      unfold prow
      simp [-getElem?_pos, fn22B0, h1, hidx, hx, prow, hro, c]
    · rw [if_neg c]
      have ih := ih (i + 1) (H ++ [{ rows := [prow x] }]) (by omega) (by simp; omega)
      push_cast at ih
      have step : runW pg ro fn22L0 [(1, .str (bs n)), (7, A), (8, .int .i64 l.length), (9, .int .i64 i)] H = runW pg ro fn22L0 [(1, .str (bs n)), (7, A), (8, .int .i64 l.length), (9, .int .i64 (i + 1))] (H ++ [{ rows := [prow x] }]) := by
        rw [L]
        unfold prow
        have cb : (x.1 == n) = false := by simpa using c
        simp [-getElem?_pos, fn22B0, h1, hidx, hx, prow, hro, cb, w1]
      rw [step]
      exact ih

theorem get_2 {A : IV} {l : List Pr} (hA : SlA (frzArg H A) 2 (l.map prow)) (hl : l.length < 9223372036854775807) {n : List UInt8} : doCall (callW pg) ro 2 (.fn 22 []) [A, .str (bs n)] H = some (.str (bs (getB n l)), H) := by
  have hlen := hA.len
  rw [List.length_map] at hlen
  have h : ∃ H', callW pg H.length 22 [frzArg H A, .str (bs n)] H = some (.str (bs (getB n l)), H') := by
    rw [callW_eqO (fn := fn22) rfl rfl]
    rcases get_loop (ro := H.length) hA hl (n := n) l.length 0 H (by omega) (Nat.le_refl _) with ⟨H', hr⟩ | ⟨e, e', H', hr⟩
    · rw [List.drop_zero] at hr
      simp at hr
      exact ⟨H', by simp [-getElem?_pos, fn22, hlen, hr]⟩
    · rw [List.drop_zero] at e
      simp at hr
      exact ⟨H', by simp [-getElem?_pos, fn22, hlen, hr, e, bs0]⟩
  obtain ⟨H', h⟩ := h
  exact call2 (args' := [frzArg H A, .str (bs n)]) (by simp) h rfl (.inl rfl)

/-! the same pairs -/
theorem bs_beq {a b : List UInt8} : (bs a == bs b) = (a == b) := by
  show ((bs a).data == (bs b).data) = _
  simp [bs]
theorem same_loop {A B : IV} {l m : List Pr} (hA : SlA A 2 (l.map prow)) (hB : SlA B 2 (m.map prow)) (hl : l.length < 9223372036854775807) (hlm : l.length = m.length) : ∀ (d i : Nat), i + d = l.length →
    (l.drop i ≠ m.drop i ∧ runW pg ro fn15L0 [(0, A), (1, B), (5, .int .i64 i)] H = some (.ret, [(4, .bool false)], H)) ∨
    (l.drop i = m.drop i ∧ ∃ e', runW pg ro fn15L0 [(0, A), (1, B), (5, .int .i64 i)] H = some (.exit 0, e', H)) := by
  have L : ∀ e, runW pg ro fn15L0 e H = seqO pg ro fn15L0 (runW pg ro fn15B0 (keepE [0, 1, 5] e) H) := fun e => runW_loopO
  have hlen := hA.len
  rw [List.length_map] at hlen
  intro d
  induction d with
  | zero =>
    intro i hi
    have : i = l.length := by omega
    subst this
    refine .inr ⟨?_, [(0, A), (1, B), (5, .int .i64 l.length), (14, .bool false)], ?_⟩
    · rw [List.drop_length, hlm, List.drop_length]
    · rw [L]; simp [fn15B0, hlen]
  | succ d ih =>
    intro i hi
    have h2 : i < l.length := by omega
    have h1 : (i : Int) < l.length := by omega
    have w1 : IntKind.i64.wrap ((i : Int) + 1) = i + 1 := by rw [IntKind.wrap_i64]; omega
    obtain ⟨x, hx⟩ : ∃ x, l[i]? = some x := ⟨_, List.getElem?_eq_getElem h2⟩
    obtain ⟨y, hy⟩ : ∃ y, m[i]? = some y := ⟨_, List.getElem?_eq_getElem (by omega)⟩
    have hdr : l.drop i = x :: l.drop (i + 1) := by
      have := List.drop_eq_getElem_cons h2
      rw [this]; congr 1
      rw [List.getElem?_eq_getElem h2] at hx; exact Option.some.inj hx
    have hdm : m.drop i = y :: m.drop (i + 1) := by
      have := List.drop_eq_getElem_cons (show i < m.length by omega)
      rw [this]; congr 1
      rw [List.getElem?_eq_getElem (by omega)] at hy; exact Option.some.inj hy
    have hidx := hA.idx H i (by simp; omega)
    have hidy := hB.idx H i (by simp; omega)
    rw [hdr, hdm]
    obtain ⟨a, b⟩ := x
    obtain ⟨c, d'⟩ := y
    by_cases e1 : a = c ∧ b = d'
    · obtain ⟨rfl, rfl⟩ := e1
      rcases ih (i + 1) (by omega) with ⟨hne, hr⟩ | ⟨he, e', hr⟩
      · push_cast at hr
        refine .inl ⟨fun h => hne (List.cons.inj h).2, ?_⟩
        rw [L]; simp [-getElem?_pos, fn15B0, hlen, h1, hidx, hidy, hx, hy, prow, bs_beq, w1, hr]
      · push_cast at hr
        refine .inr ⟨by rw [he], e', ?_⟩
        rw [L]; simp [-getElem?_pos, fn15B0, hlen, h1, hidx, hidy, hx, hy, prow, bs_beq, w1, hr]
    · refine .inl ⟨fun h => e1 (by have := (List.cons.inj h).1; simpa using this), ?_⟩
      rw [L]
      by_cases e2 : a = c
      · have e3 : ¬ b = d' := fun h => e1 ⟨e2, h⟩
        have e4 : (b == d') = false := by simpa using e3
        simp [-getElem?_pos, fn15B0, hlen, h1, hidx, hidy, hx, hy, prow, e2, e4, bs_beq]
      · have e4 : (a == c) = false := by simpa using e2
        simp [-getElem?_pos, fn15B0, hlen, h1, hidx, hidy, hx, hy, prow, e4, bs_beq]

theorem same_2 {A B : IV} {l m : List Pr} (hA : SlA A 2 (l.map prow)) (hB : SlA B 2 (m.map prow)) (hl : l.length < 9223372036854775807) : doCall (callW pg) ro 2 (.fn 15 []) [A, B] H = some (.bool (decide (l = m)), H) := by
  have ha := hA.len
  have hb := hB.len
  rw [List.length_map] at ha hb
  refine call2 (H2 := H) (args' := [A, B]) (by simp [SlA.self hA, SlA.self hB]) ?_ rfl (.inl rfl)
  rw [callW_eqO (fn := fn15) rfl rfl]
  by_cases hlm : l.length = m.length
  · rcases same_loop (ro := H.length) (H := H) hA hB hl hlm l.length 0 (by omega) with ⟨hne, hr⟩ | ⟨he, e', hr⟩
    · rw [List.drop_zero, List.drop_zero] at hne
      simp at hr
      simp [-getElem?_pos, fn15, ha, hb, hlm, hne] at hr ⊢
      simp [hr]
    · rw [List.drop_zero, List.drop_zero] at he
      subst he
      simp at hr
      simp [-getElem?_pos, fn15, ha, hb, hr]
  · have hne : ¬ l = m := fun e => hlm (by rw [e])
    have hlm' : ¬ (l.length : Int) = m.length := by omega
    simp [-getElem?_pos, fn15, ha, hb, hlm, hlm', hne]
end Go.Proofs.Ytinmpfflkcnkfaa
