import Derived.Test.YtnfddeiegbifhaaDoorTu2
/- Names, values, sets of pairs. -/
namespace Go.Proofs.YtnfddeiegbifhaaDoor
open Go Go.Vs
variable {ro : Nat} {H : Hp}

theorem less_cmpL : ∀ (a b : List UInt8), Op.bytesLess a b = decide (cmpL a b < 0)
  | [], [] => rfl
  | _ :: _, [] => rfl
  | [], _ :: _ => rfl
  | a :: x, b :: y => by
    have e : cmpL (a :: x) (b :: y) = orI (cmpB a b) (cmpL x y) := rfl
    rw [e]
    simp only [Op.bytesLess, less_cmpL x y, orI]
    by_cases h1 : a < b
    · have : cmpB a b = -1 := if_pos h1
      simp [h1, this]
    · by_cases h2 : b < a
      · have h3 : cmpB a b = 1 := by simp only [cmpB, if_neg h1, if_pos h2]
        have h4 : ¬ a = b := fun e => by subst e; exact h1 h2
        simp [h1, h3, h4]
      · have h3 : cmpB a b = 0 := by simp only [cmpB, if_neg h1, if_neg h2]
        have h4 : a = b := (cmpB_3.eq0 a b).1 h3
        subst h4
        simp [h1, h3]
@[simp] theorem bin_sgeq {a b : List UInt8} : binV .geq (.str (bs a)) (.str (bs b)) = some (.bool (decide (0 ≤ cmpL a b))) := by
  simp only [binV, binS, bs_toList, less_cmpL]
  congr 2
  by_cases h : cmpL a b < 0
  · have : ¬ 0 ≤ cmpL a b := by omega
    simp [h, this]
  · have : 0 ≤ cmpL a b := by omega
    simp [h, this]

/-! a name -/
def chB (f : Bool) (c : UInt8) : Bool := decide (97 ≤ c.toNat ∧ c.toNat ≤ 122) || decide (65 ≤ c.toNat ∧ c.toNat ≤ 90) || decide (c.toNat = 95) || (decide (48 ≤ c.toNat ∧ c.toNat ≤ 57) && !f)
def namB : Bool → List UInt8 → Bool
  | _, [] => true
  | f, c :: l => chB f c && namB false l
def nameB (l : List UInt8) : Bool := namB true l && decide (1 ≤ l.length ∧ l.length ≤ 20)

theorem name_loop {l : List UInt8} (hl : l.length < 9223372036854775807) : ∀ (d i : Nat), i + d = l.length →
    (namB (decide (i = 0)) (l.drop i) = false ∧ runW pg ro fn45L0 [(0, .str (bs l)), (6, .int .i64 l.length), (7, .int .i64 i)] H = some (.ret, [(2, .bool false)], H)) ∨
    (namB (decide (i = 0)) (l.drop i) = true ∧ runW pg ro fn45L0 [(0, .str (bs l)), (6, .int .i64 l.length), (7, .int .i64 i)] H = some (.exit 0, [(0, .str (bs l)), (6, .int .i64 l.length), (7, .int .i64 l.length), (8, .bool false)], H)) := by
  have L : ∀ e, runW pg ro fn45L0 e H = seqO pg ro fn45L0 (runW pg ro fn45B0 (keepE [0, 6, 7] e) H) := fun e => runW_loopO
  intro d
  induction d with
  | zero =>
    intro i hi
    have : i = l.length := by omega
    subst this
    refine .inr ⟨by simp [namB], ?_⟩
    rw [L]; simp [fn45B0]
  | succ d ih =>
    intro i hi
    have h2 : i < l.length := by omega
    have h1 : (i : Int) < l.length := by omega
    have w1 : IntKind.i64.wrap ((i : Int) + 1) = i + 1 := by rw [IntKind.wrap_i64]; omega
    obtain ⟨c, hc⟩ : ∃ c, l[i]? = some c := ⟨_, List.getElem?_eq_getElem h2⟩
    have hdr : l.drop i = c :: l.drop (i + 1) := by
      have := List.drop_eq_getElem_cons h2
      rw [this]; congr 1
      rw [List.getElem?_eq_getElem h2] at hc; exact Option.some.inj hc
    obtain ⟨n, hn⟩ : ∃ n, n = c.toNat := ⟨_, rfl⟩
    have hi0 : ((0 : Int) < i) ↔ ¬ i = 0 := by omega
    rw [hdr]
    simp only [namB]
    have e1 : decide (i + 1 = 0) = false := by simp
    have key : runW pg ro fn45L0 [(0, .str (bs l)), (6, .int .i64 l.length), (7, .int .i64 i)] H =
        if chB (decide (i = 0)) c = true then runW pg ro fn45L0 [(0, .str (bs l)), (6, .int .i64 l.length), (7, .int .i64 (i + 1))] H else some (.ret, [(2, .bool false)], H) := by
      rw [L]
      unfold chB
      rw [← hn]
      have g1 : ((97 : Int) ≤ n) ↔ 97 ≤ n := by omega
      have g2 : ((n : Int) ≤ 122) ↔ n ≤ 122 := by omega
      have g3 : ((65 : Int) ≤ n) ↔ 65 ≤ n := by omega
      have g4 : ((n : Int) ≤ 90) ↔ n ≤ 90 := by omega
      have g5 : ((n : Int) = 95) ↔ n = 95 := by omega
      have g6 : ((48 : Int) ≤ n) ↔ 48 ≤ n := by omega
      have g7 : ((n : Int) ≤ 57) ↔ n ≤ 57 := by omega
      by_cases c1 : 97 ≤ n ∧ n ≤ 122
      · simp [-getElem?_pos, fn45B0, h1, hc, ← hn, g1, g2, c1, w1]
      by_cases c2 : 65 ≤ n ∧ n ≤ 90
      · have c1' : ¬ 97 ≤ n := by omega
        simp [-getElem?_pos, fn45B0, h1, hc, ← hn, g1, g2, c1', g3, g4, c2, w1]
      by_cases c3 : n = 95
      · have c1' : ¬ 97 ≤ n := by omega
        have c2' : ¬ n ≤ 90 := by omega
        have c2'' : 65 ≤ n := by omega
        simp [-getElem?_pos, fn45B0, h1, hc, ← hn, g1, g2, c1', g3, g4, c2', c2'', g5, c3, w1]
      by_cases c4 : 48 ≤ n ∧ n ≤ 57
      · have c1' : ¬ 97 ≤ n := by omega
        have c2' : ¬ 65 ≤ n := by omega
        by_cases c5 : i = 0
        · subst c5
          simp at h1
          simp [-getElem?_pos, fn45B0, h1, hc, ← hn, g1, g2, c1', g3, g4, c2', g5, c3, g6, g7, c4]
        · have c6 : 0 < i := by omega
          simp [-getElem?_pos, fn45B0, h1, hc, ← hn, g1, g2, c1', g3, g4, c2', g5, c3, g6, g7, c4, c5, c6, w1]
      · by_cases d1 : 97 ≤ n
        · have d2 : ¬ n ≤ 122 := by omega
          have d3 : ¬ n ≤ 90 := by omega
          have d4 : 65 ≤ n := by omega
          have d5 : ¬ n ≤ 57 := by omega
          have d6 : 48 ≤ n := by omega
          simp [-getElem?_pos, fn45B0, h1, hc, ← hn, g1, g2, d1, d2, g3, g4, d3, d4, g5, c3, g6, g7, d5, d6]
        · by_cases d4 : 65 ≤ n
          · have d3 : ¬ n ≤ 90 := by omega
            have d5 : ¬ n ≤ 57 := by omega
            have d6 : 48 ≤ n := by omega
            simp [-getElem?_pos, fn45B0, h1, hc, ← hn, g1, d1, g3, g4, d3, d4, g5, c3, g6, g7, d5, d6]
          · by_cases d6 : 48 ≤ n
            · have d5 : ¬ n ≤ 57 := by omega
              simp [-getElem?_pos, fn45B0, h1, hc, ← hn, g1, d1, g3, d4, g5, c3, g6, g7, d5, d6]
            · simp [-getElem?_pos, fn45B0, h1, hc, ← hn, g1, d1, g3, d4, g5, c3, g6, d6]
    cases hch : chB (decide (i = 0)) c
    · refine .inl ⟨by simp, ?_⟩
      rw [key, hch]; rfl
    · rw [hch, if_pos rfl] at key
      have ih := ih (i + 1) (by omega)
      rw [e1] at ih
      push_cast at ih
      rw [key, Bool.true_and]
      exact ih

theorem name_2 {l : List UInt8} (hl : l.length < 9223372036854775807) : doCall (callW pg) ro 2 (.fn 45 []) [.str (bs l)] H = some (.bool (nameB l), H) := by
  refine call2p (H2 := H) ?_ rfl rfl
  rw [callW_eqO (fn := fn45) rfl rfl]
  unfold nameB
  rcases name_loop (ro := H.length) (H := H) hl l.length 0 (by omega) with ⟨e, hr⟩ | ⟨e, hr⟩
  · rw [List.drop_zero] at e
    simp at hr e
    simp [-getElem?_pos, fn45, hr, e]
  · rw [List.drop_zero] at e
    simp at hr e
    have e2 : ((l.length : Int) ≤ 20) ↔ l.length ≤ 20 := by omega
    have e3 : ((1 : Int) ≤ l.length) ↔ 1 ≤ l.length := by omega
    by_cases c : 1 ≤ l.length
    · simp [-getElem?_pos, fn45, hr, e, e2, e3, c]
    · simp [-getElem?_pos, fn45, hr, e, e3, c]
end Go.Proofs.YtnfddeiegbifhaaDoor
