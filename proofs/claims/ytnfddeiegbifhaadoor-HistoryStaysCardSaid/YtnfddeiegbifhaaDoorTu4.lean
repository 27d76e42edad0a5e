import Derived.Test.YtnfddeiegbifhaaDoorTu3
/- Values, sets of pairs, one pair's value. -/
namespace Go.Proofs.YtnfddeiegbifhaaDoor
open Go Go.Vs
variable {ro : Nat} {H : Hp}

def valB (l : List UInt8) : Bool := decide (1 ≤ l.length ∧ l.length ≤ 30) && (l.findIdx? (· == 10)).isNone
theorem ixB_bs {l : List UInt8} : ixB (bs l) 10 = match l.findIdx? (· == 10) with | some i => (i : Int) | none => -1 := by
  unfold ixB; simp only [bs_dataL]; rfl
theorem value_2 {l : List UInt8} (hl : l.length < 9223372036854775807) : doCall (callW pg) ro 2 (.fn 46 []) [.str (bs l)] H = some (.bool (valB l), H) := by
  have h81 : ∀ ro H, doCall (callW pg) ro 2 (.fn 75 []) [.str (bs l), .int .u8 10] H = some (.int .i64 (ixB (bs l) 10), H) := fun ro H => by
    refine call2p (H2 := H) ?_ rfl rfl
    rw [callW_eqO (fn := fn75) rfl rfl]
    simp [fn75]
  have h68 : ∀ ro H, doCall (callW pg) ro 2 (.fn 64 []) [.str (bs l), .int .u8 10] H = some (.int .i64 (ixB (bs l) 10), H) := fun ro H => by
    refine call2p (H2 := H) ?_ rfl rfl
    rw [callW_eqO (fn := fn64) rfl rfl]
    simp [fn64, h81]
  refine call2p (H2 := H) ?_ rfl rfl
  rw [callW_eqO (fn := fn46) rfl rfl]
  unfold valB
  rw [ixB_bs] at h68
  have e2 : ((l.length : Int) ≤ 30) ↔ l.length ≤ 30 := by omega
  have e3 : ((1 : Int) ≤ l.length) ↔ 1 ≤ l.length := by omega
  by_cases c1 : 1 ≤ l.length
  · by_cases c2 : l.length ≤ 30
    · cases hf : l.findIdx? (· == 10) with
      | none =>
        rw [hf] at h68
        simp [fn46, e2, e3, c1, c2, h68]
      | some i =>
        rw [hf] at h68
        have e4 : ¬ (i : Int) < 0 := by omega
        simp [fn46, e2, e3, c1, c2, h68]
    · simp [fn46, e2, e3, c1, c2]
  · simp [fn46, e3, c1]

/-! a set -/
def lessO : Option (List UInt8) → List UInt8 → Bool
  | none, _ => true
  | some y, x => decide (cmpL y x < 0)
def isGo : Option (List UInt8) → List Pr → Bool
  | _, [] => true
  | p, x :: r => nameB x.1 && valB x.2 && lessO p x.1 && isGo (some x.1) r
def isB (l : List Pr) : Bool := isGo none l && decide (l.length ≤ 8)
def prevN (l : List Pr) (i : Nat) : Option (List UInt8) := if i = 0 then none else (l[i - 1]?).map (·.1)
def Short (l : List Pr) : Prop := ∀ p ∈ l, p.1.length < 9223372036854775807 ∧ p.2.length < 9223372036854775807

theorem is_loop {A : IV} {l : List Pr} (hA : SlA A 2 (l.map prow)) (hs : Short l) (hl : l.length < 9223372036854775807) : ∀ (d i : Nat) (H : Hp), i + d = l.length → ro ≤ H.length →
    (isGo (prevN l i) (l.drop i) = false ∧ ∃ H', runW pg ro fn21L0 [(0, A), (5, A), (6, .int .i64 l.length), (7, .int .i64 i)] H = some (.ret, [(2, .bool false)], H')) ∨
    (isGo (prevN l i) (l.drop i) = true ∧ ∃ H', runW pg ro fn21L0 [(0, A), (5, A), (6, .int .i64 l.length), (7, .int .i64 i)] H = some (.exit 0, [(0, A), (5, A), (6, .int .i64 l.length), (7, .int .i64 l.length), (8, .bool false)], H')) := by
  have L : ∀ e H, runW pg ro fn21L0 e H = seqO pg ro fn21L0 (runW pg ro fn21B0 (keepE [0, 5, 6, 7] e) H) := fun e H => runW_loopO
  intro d
  induction d with
  | zero =>
    intro i H hi _
    have : i = l.length := by omega
    subst this
    refine .inr ⟨by simp [isGo], H, ?_⟩
    rw [L]; simp [fn21B0]
  | succ d ih =>
    intro i H hi hro
    have h2 : i < l.length := by omega
    have h1 : (i : Int) < l.length := by omega
    have w1 : IntKind.i64.wrap ((i : Int) + 1) = i + 1 := by rw [IntKind.wrap_i64]; omega
    obtain ⟨x, hx⟩ : ∃ x, l[i]? = some x := ⟨_, List.getElem?_eq_getElem h2⟩
    have hdr : l.drop i = x :: l.drop (i + 1) := by
      have := List.drop_eq_getElem_cons h2
      rw [this]; congr 1
      rw [List.getElem?_eq_getElem h2] at hx; exact Option.some.inj hx
    have hidx := fun H => hA.idx H i (by simp; omega)
    have hsx := hs x (List.mem_of_getElem? hx)
    have hn := fun ro H => name_2 (ro := ro) (H := H) hsx.1
    have hv := fun ro H => value_2 (ro := ro) (H := H) hsx.2
    have hpv : prevN l (i + 1) = some x.1 := by simp [prevN, hx]
    rw [hdr]
    simp only [isGo]
    cases cn : nameB x.1
    · rw [cn] at hn
      refine .inl ⟨by simp, H ++ [{ rows := [prow x] }], ?_⟩
      rw [L]
      unfold prow
      simp [-getElem?_pos, fn21B0, h1, hidx, hx, prow, hro, hn]
    · rw [cn] at hn
      cases cv : valB x.2
      · rw [cv] at hv
        refine .inl ⟨by simp, H ++ [{ rows := [prow x] }], ?_⟩
        rw [L]
        unfold prow
        simp [-getElem?_pos, fn21B0, h1, hidx, hx, prow, hro, hn, hv]
      · rw [cv] at hv
        have step : lessO (prevN l i) x.1 = true → runW pg ro fn21L0 [(0, A), (5, A), (6, .int .i64 l.length), (7, .int .i64 i)] H = runW pg ro fn21L0 [(0, A), (5, A), (6, .int .i64 l.length), (7, .int .i64 (i + 1))] (H ++ [{ rows := [prow x] }]) := by
          intro hless
          by_cases c0 : i = 0
          · subst c0
            simp at h1
            have w0 : IntKind.i64.wrap 1 = 1 := by decide
            have hidx0 : ∀ H, idx H 2 A 0 = some (.eptr (l.map prow) 0 0) := fun H => hidx H
            rw [L]
            unfold prow
            simp [-getElem?_pos, fn21B0, h1, hidx0, hx, prow, hro, hn, hv, w0]
          · obtain ⟨y, hy⟩ : ∃ y, l[i - 1]? = some y := ⟨_, List.getElem?_eq_getElem (by omega)⟩
            have hidy := fun H => hA.idx H (i - 1) (by simp; omega)
            have e1 : ((i - 1 : Nat) : Int) = i - 1 := by omega
            rw [e1] at hidy
            have hp : 0 < i := by omega
            have w2 : IntKind.i64.wrap ((i : Int) - 1) = i - 1 := by rw [IntKind.wrap_i64]; omega
            have hle : ¬ 0 ≤ cmpL y.1 x.1 := by
              simp [prevN, c0, hy, lessO] at hless; omega
            rw [L]
            unfold prow
            simp [-getElem?_pos, fn21B0, h1, hidx, hx, prow, hro, hn, hv, hp, w2, hidy, hy, hle, w1]
        cases cl : lessO (prevN l i) x.1
        · have c0 : ¬ i = 0 := by
            intro e; subst e; simp [prevN, lessO] at cl
          obtain ⟨y, hy⟩ : ∃ y, l[i - 1]? = some y := ⟨_, List.getElem?_eq_getElem (by omega)⟩
          have hidy := fun H => hA.idx H (i - 1) (by simp; omega)
          have e1 : ((i - 1 : Nat) : Int) = i - 1 := by omega
          rw [e1] at hidy
          have hp : 0 < i := by omega
          have w2 : IntKind.i64.wrap ((i : Int) - 1) = i - 1 := by rw [IntKind.wrap_i64]; omega
          have hle : 0 ≤ cmpL y.1 x.1 := by
            simp [prevN, c0, hy, lessO] at cl; omega
          refine .inl ⟨by simp, H ++ [{ rows := [prow x] }], ?_⟩
          rw [L]
          unfold prow
          simp [-getElem?_pos, fn21B0, h1, hidx, hx, prow, hro, hn, hv, hp, w2, hidy, hy, hle]
        · have ih := ih (i + 1) (H ++ [{ rows := [prow x] }]) (by omega) (by simp; omega)
          rw [hpv] at ih
          push_cast at ih
          rw [step cl]
          simpa using ih

theorem is_2 {A : IV} {l : List Pr} (hA : SlA (frzArg H A) 2 (l.map prow)) (hs : Short l) (hl : l.length < 9223372036854775807) : doCall (callW pg) ro 2 (.fn 21 []) [A] H = some (.bool (isB l), H) := by
  have hlen := hA.len
  rw [List.length_map] at hlen
  have h : ∃ H', callW pg H.length 21 [frzArg H A] H = some (.bool (isB l), H') := by
    rw [callW_eqO (fn := fn21) rfl rfl]
    unfold isB
    rcases is_loop (ro := H.length) hA hs hl l.length 0 H (by omega) (Nat.le_refl _) with ⟨e, H', hr⟩ | ⟨e, H', hr⟩
    · rw [List.drop_zero] at e
      simp at hr
      have e' : isGo none l = false := e
      exact ⟨H', by simp [-getElem?_pos, fn21, hlen, hr, e']⟩
    · rw [List.drop_zero] at e
      simp at hr
      have e' : isGo none l = true := e
      have e2 : ((l.length : Int) ≤ 8) ↔ l.length ≤ 8 := by omega
      exact ⟨H', by simp [-getElem?_pos, fn21, hlen, hr, e', e2]⟩
  obtain ⟨H', h⟩ := h
  exact call2 (args' := [frzArg H A]) (by simp) h rfl (.inl rfl)

end Go.Proofs.YtnfddeiegbifhaaDoor
