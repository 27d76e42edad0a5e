/- Names, texts, matchers: what is one. -/
import Derived.Test.YtpmgmepanbdfpaaDoorTpat8
namespace Go.Proofs.YtpmgmepanbdfpaaDoor
open Go Go.Vs
variable {ro : Nat} {H : Hp}

/-- A sign of a name, at its place. -/
def nmc (i : Nat) (c : UInt8) : Bool :=
  (decide (97 ≤ c.toNat) && decide (c.toNat ≤ 122)) || (decide (65 ≤ c.toNat) && decide (c.toNat ≤ 90)) || decide (c.toNat = 95) || (decide (48 ≤ c.toNat) && decide (c.toNat ≤ 57) && decide (0 < i))
def nameL : Nat → List UInt8 → Bool
  | _, [] => true
  | i, c :: s => nmc i c && nameL (i + 1) s
def nameOk (s : List UInt8) : Bool := nameL 0 s && decide (1 ≤ s.length) && decide (s.length ≤ 20)
def textOk (s : List UInt8) : Bool := decide (s.length ≤ 30) && !s.contains 10

theorem nm_step {s : List UInt8} (hs : s.length ≤ 9223372036854775807) {i : Nat} {c : UInt8} (hc : s[i]? = some c) :
    runW pg ro fn17L0 [(0, .str (bs s)), (6, .int .i64 s.length), (7, .int .i64 i)] H = if nmc i c = true then runW pg ro fn17L0 [(0, .str (bs s)), (6, .int .i64 s.length), (7, .int .i64 (i + 1 : Nat))] H else some (.ret, [(2, .bool false)], H) := by
  have L : ∀ e, runW pg ro fn17L0 e H = seqO pg ro fn17L0 (runW pg ro fn17B0 (keepE [0, 6, 7] e) H) := fun e => runW_loopO
  have h2 := (List.getElem?_eq_some_iff.1 hc).1
  have h1 : (i : Int) < s.length := by omega
  have w1 : IntKind.i64.wrap ((i : Int) + 1) = i + 1 := by rw [IntKind.wrap_i64]; omega
  rw [L]
  rcases (by omega : c.toNat < 48 ∨ (48 ≤ c.toNat ∧ c.toNat ≤ 57) ∨ (57 < c.toNat ∧ c.toNat < 65) ∨ (65 ≤ c.toNat ∧ c.toNat ≤ 90) ∨ (90 < c.toNat ∧ c.toNat < 95) ∨ c.toNat = 95 ∨ c.toNat = 96 ∨ (97 ≤ c.toNat ∧ c.toNat ≤ 122) ∨ 122 < c.toNat) with h | h | h | h | h | h | h | h | h
  all_goals
    first | have a1 : 97 ≤ c.toNat := by omega | have a1 : ¬ 97 ≤ c.toNat := by omega
    first | have a2 : c.toNat ≤ 122 := by omega | have a2 : ¬ c.toNat ≤ 122 := by omega
    first | have a3 : 65 ≤ c.toNat := by omega | have a3 : ¬ 65 ≤ c.toNat := by omega
    first | have a4 : c.toNat ≤ 90 := by omega | have a4 : ¬ c.toNat ≤ 90 := by omega
    first | have a5 : c.toNat = 95 := by omega | have a5 : ¬ c.toNat = 95 := by omega
    first | have a6 : 48 ≤ c.toNat := by omega | have a6 : ¬ 48 ≤ c.toNat := by omega
    first | have a7 : c.toNat ≤ 57 := by omega | have a7 : ¬ c.toNat ≤ 57 := by omega
    first | have b1 : (97 : Int) ≤ c.toNat := by omega | have b1 : ¬ (97 : Int) ≤ c.toNat := by omega
    first | have b2 : (c.toNat : Int) ≤ 122 := by omega | have b2 : ¬ (c.toNat : Int) ≤ 122 := by omega
    first | have b3 : (65 : Int) ≤ c.toNat := by omega | have b3 : ¬ (65 : Int) ≤ c.toNat := by omega
    first | have b4 : (c.toNat : Int) ≤ 90 := by omega | have b4 : ¬ (c.toNat : Int) ≤ 90 := by omega
    first | have b5 : (c.toNat : Int) = 95 := by omega | have b5 : ¬ (c.toNat : Int) = 95 := by omega
    first | have b6 : (48 : Int) ≤ c.toNat := by omega | have b6 : ¬ (48 : Int) ≤ c.toNat := by omega
    first | have b7 : (c.toNat : Int) ≤ 57 := by omega | have b7 : ¬ (c.toNat : Int) ≤ 57 := by omega
    by_cases h0 : 0 < i
    · have h0' : (0 : Int) < i := by omega
      simp [-getElem?_pos, fn17B0, nmc, hc, h1, h2, w1, h0, h0', a1, a2, a3, a4, a5, a6, a7, b1, b2, b3, b4, b5, b6, b7]
    · have h0' : ¬ (0 : Int) < i := by omega
      simp [-getElem?_pos, fn17B0, nmc, hc, h1, h2, w1, h0, h0', a1, a2, a3, a4, a5, a6, a7, b1, b2, b3, b4, b5, b6, b7]

theorem nm_loop {s : List UInt8} (hs : s.length ≤ 9223372036854775807) : ∀ (d i : Nat), i + d = s.length →
    runW pg ro fn17L0 [(0, .str (bs s)), (6, .int .i64 s.length), (7, .int .i64 i)] H = if nameL i (s.drop i) = true then some (.exit 0, [(0, .str (bs s)), (6, .int .i64 s.length), (7, .int .i64 s.length), (8, .bool false)], H) else some (.ret, [(2, .bool false)], H) := by
  have L : ∀ e, runW pg ro fn17L0 e H = seqO pg ro fn17L0 (runW pg ro fn17B0 (keepE [0, 6, 7] e) H) := fun e => runW_loopO
  intro d
  induction d with
  | zero =>
    intro i hi
    have : i = s.length := by omega
    subst this
    rw [L]; simp [fn17B0, nameL]
  | succ d ih =>
    intro i hi
    have h2 : i < s.length := by omega
    obtain ⟨c, hc⟩ : ∃ c, s[i]? = some c := ⟨_, List.getElem?_eq_getElem h2⟩
    rw [nm_step hs hc, ih (i + 1) (by omega), Vs.drop_cons hc, nameL]
    cases nmc i c <;> simp
theorem name_2 {s : List UInt8} (hs : s.length ≤ 9223372036854775807) : doCall (callW pg) ro 2 (.fn 17 []) [.str (bs s)] H = some (.bool (nameOk s), H) := by
  have h : callW pg H.length 17 [.str (bs s)] H = some (.bool (nameOk s), H) := by
    have hl := nm_loop (ro := H.length) (H := H) hs s.length 0 (by omega)
    rw [List.drop_zero, Int.natCast_zero] at hl
    rw [callW_eqO (fn := fn17) rfl rfl]
    by_cases hn : nameL 0 s = true
    · rw [if_pos hn] at hl
      by_cases h1 : 1 ≤ s.length
      · have h1' : (1 : Int) ≤ s.length := by omega
        have h20 : ((s.length : Int) ≤ 20) = (s.length ≤ 20) := by apply propext; omega
        simp [fn17, hl, h1, h1', h20, nameOk, hn]
      · have h1' : ¬ (1 : Int) ≤ s.length := by omega
        simp [fn17, hl, h1, h1', nameOk]
    · rw [if_neg hn] at hl
      have hn' : nameL 0 s = false := by simpa using hn
      simp [fn17, hl, nameOk, hn']
  exact call2p h rfl rfl
theorem nm_step19 {s : List UInt8} (hs : s.length ≤ 9223372036854775807) {i : Nat} {c : UInt8} (hc : s[i]? = some c) :
    runW pg ro fn19L0 [(0, .str (bs s)), (3, .int .i64 i)] H = if nmc i c = true then runW pg ro fn19L0 [(0, .str (bs s)), (3, .int .i64 (i + 1 : Nat))] H else some (.ret, [(2, .bool false)], H) := by
  have L : ∀ e, runW pg ro fn19L0 e H = seqO pg ro fn19L0 (runW pg ro fn19B0 (keepE [0, 3] e) H) := fun e => runW_loopO
  have h2 := (List.getElem?_eq_some_iff.1 hc).1
  have h1 : (i : Int) < s.length := by omega
  have w1 : IntKind.i64.wrap ((i : Int) + 1) = i + 1 := by rw [IntKind.wrap_i64]; omega
  rw [L]
  rcases (by omega : c.toNat < 48 ∨ (48 ≤ c.toNat ∧ c.toNat ≤ 57) ∨ (57 < c.toNat ∧ c.toNat < 65) ∨ (65 ≤ c.toNat ∧ c.toNat ≤ 90) ∨ (90 < c.toNat ∧ c.toNat < 95) ∨ c.toNat = 95 ∨ c.toNat = 96 ∨ (97 ≤ c.toNat ∧ c.toNat ≤ 122) ∨ 122 < c.toNat) with h | h | h | h | h | h | h | h | h
  all_goals
    first | have a1 : 97 ≤ c.toNat := by omega | have a1 : ¬ 97 ≤ c.toNat := by omega
    first | have a2 : c.toNat ≤ 122 := by omega | have a2 : ¬ c.toNat ≤ 122 := by omega
    first | have a3 : 65 ≤ c.toNat := by omega | have a3 : ¬ 65 ≤ c.toNat := by omega
    first | have a4 : c.toNat ≤ 90 := by omega | have a4 : ¬ c.toNat ≤ 90 := by omega
    first | have a5 : c.toNat = 95 := by omega | have a5 : ¬ c.toNat = 95 := by omega
    first | have a6 : 48 ≤ c.toNat := by omega | have a6 : ¬ 48 ≤ c.toNat := by omega
    first | have a7 : c.toNat ≤ 57 := by omega | have a7 : ¬ c.toNat ≤ 57 := by omega
    first | have b1 : (97 : Int) ≤ c.toNat := by omega | have b1 : ¬ (97 : Int) ≤ c.toNat := by omega
    first | have b2 : (c.toNat : Int) ≤ 122 := by omega | have b2 : ¬ (c.toNat : Int) ≤ 122 := by omega
    first | have b3 : (65 : Int) ≤ c.toNat := by omega | have b3 : ¬ (65 : Int) ≤ c.toNat := by omega
    first | have b4 : (c.toNat : Int) ≤ 90 := by omega | have b4 : ¬ (c.toNat : Int) ≤ 90 := by omega
    first | have b5 : (c.toNat : Int) = 95 := by omega | have b5 : ¬ (c.toNat : Int) = 95 := by omega
    first | have b6 : (48 : Int) ≤ c.toNat := by omega | have b6 : ¬ (48 : Int) ≤ c.toNat := by omega
    first | have b7 : (c.toNat : Int) ≤ 57 := by omega | have b7 : ¬ (c.toNat : Int) ≤ 57 := by omega
    by_cases h0 : 0 < i
    · have h0' : (0 : Int) < i := by omega
      simp [-getElem?_pos, fn19B0, nmc, hc, h1, h2, w1, h0, h0', a1, a2, a3, a4, a5, a6, a7, b1, b2, b3, b4, b5, b6, b7]
    · have h0' : ¬ (0 : Int) < i := by omega
      simp [-getElem?_pos, fn19B0, nmc, hc, h1, h2, w1, h0, h0', a1, a2, a3, a4, a5, a6, a7, b1, b2, b3, b4, b5, b6, b7]

theorem nm_loop19 {s : List UInt8} (hs : s.length ≤ 9223372036854775807) : ∀ (d i : Nat), i + d = s.length →
    runW pg ro fn19L0 [(0, .str (bs s)), (3, .int .i64 i)] H = if nameL i (s.drop i) = true then some (.exit 0, [(0, .str (bs s)), (3, .int .i64 s.length), (8, .bool false)], H) else some (.ret, [(2, .bool false)], H) := by
  have L : ∀ e, runW pg ro fn19L0 e H = seqO pg ro fn19L0 (runW pg ro fn19B0 (keepE [0, 3] e) H) := fun e => runW_loopO
  intro d
  induction d with
  | zero =>
    intro i hi
    have : i = s.length := by omega
    subst this
    rw [L]; simp [fn19B0, nameL]
  | succ d ih =>
    intro i hi
    have h2 : i < s.length := by omega
    obtain ⟨c, hc⟩ : ∃ c, s[i]? = some c := ⟨_, List.getElem?_eq_getElem h2⟩
    rw [nm_step19 hs hc, ih (i + 1) (by omega), Vs.drop_cons hc, nameL]
    cases nmc i c <;> simp
theorem name19_2 {s : List UInt8} (hs : s.length ≤ 9223372036854775807) : doCall (callW pg) ro 2 (.fn 19 []) [.str (bs s)] H = some (.bool (nameOk s), H) := by
  have h : callW pg H.length 19 [.str (bs s)] H = some (.bool (nameOk s), H) := by
    have hl := nm_loop19 (ro := H.length) (H := H) hs s.length 0 (by omega)
    rw [List.drop_zero, Int.natCast_zero] at hl
    rw [callW_eqO (fn := fn19) rfl rfl]
    by_cases hn : nameL 0 s = true
    · rw [if_pos hn] at hl
      by_cases h1 : 1 ≤ s.length
      · have h1' : (1 : Int) ≤ s.length := by omega
        have h20 : ((s.length : Int) ≤ 20) = (s.length ≤ 20) := by apply propext; omega
        simp [fn19, hl, h1, h1', h20, nameOk, hn]
      · have h1' : ¬ (1 : Int) ≤ s.length := by omega
        simp [fn19, hl, h1, h1', nameOk]
    · rw [if_neg hn] at hl
      have hn' : nameL 0 s = false := by simpa using hn
      simp [fn19, hl, nameOk, hn']
  exact call2p h rfl rfl

/-! texts -/
theorem ixb_neg {s : List UInt8} : ixB (bs s) 10 < 0 ↔ s.contains 10 = false := by
  have e : ((10 : Int).toNat.toUInt8) = 10 := rfl
  unfold ixB
  rw [bs_dataL, e]
  cases h : s.findIdx? (· == (10 : UInt8)) with
  | none =>
    rw [List.findIdx?_eq_none_iff] at h
    simp only [Int.reduceNeg, Int.reduceLT, true_iff]
    cases hc : s.contains 10
    · rfl
    · rw [List.contains_iff_mem] at hc
      have := h 10 hc
      simp at this
  | some i =>
    rw [List.findIdx?_eq_some_iff_getElem] at h
    obtain ⟨hi, he, _⟩ := h
    have hm : (10 : UInt8) ∈ s := by
      have : s[i] = 10 := by simpa using he
      rw [← this]; exact List.getElem_mem hi
    rw [List.contains_iff_mem.2 hm]
    simp
theorem ixb_2 {s : List UInt8} : doCall (callW pg) ro 2 (.fn 25 []) [.str (bs s), .int .u8 10] H = some (.int .i64 (ixB (bs s) 10), H) := by
  have h34 : ∀ H : Hp, callW pg H.length 34 [.str (bs s), .int .u8 10] H = some (.int .i64 (ixB (bs s) 10), H) := by
    intro H
    rw [callW_eqO (fn := fn34) rfl rfl]
    simp [fn34]
  have h2 : ∀ (ro : Nat) (H : Hp), doCall (callW pg) ro 2 (.fn 34 []) [.str (bs s), .int .u8 10] H = some (.int .i64 (ixB (bs s) 10), H) := fun ro H => call2p (h34 H) rfl rfl
  have h : callW pg H.length 25 [.str (bs s), .int .u8 10] H = some (.int .i64 (ixB (bs s) 10), H) := by
    rw [callW_eqO (fn := fn25) rfl rfl]
    simp [fn25, h2]
  exact call2p h rfl rfl
theorem text_2 {s : List UInt8} : doCall (callW pg) ro 2 (.fn 18 []) [.str (bs s)] H = some (.bool (textOk s), H) := by
  have h : callW pg H.length 18 [.str (bs s)] H = some (.bool (textOk s), H) := by
    rw [callW_eqO (fn := fn18) rfl rfl]
    have hx := fun ro H => ixb_2 (ro := ro) (H := H) (s := s)
    by_cases h1 : s.length ≤ 30
    · have h1' : (s.length : Int) ≤ 30 := by omega
      have e : decide (ixB (bs s) 10 < 0) = !s.contains 10 := by
        rw [Bool.eq_iff_iff]; simp only [decide_eq_true_eq, ixb_neg]; cases s.contains 10 <;> simp
      simp only [textOk, ← e]
      simp [fn18, h1, h1', hx]
    · have h1' : ¬ (s.length : Int) ≤ 30 := by omega
      simp [fn18, h1, h1', textOk]
  exact call2p h rfl rfl
theorem b10 {a : UInt8} : ((a.toNat : Int) = 10) ↔ a = 10 := by
  constructor
  · intro h; apply UInt8.toNat_inj.1; show a.toNat = 10; omega
  · rintro rfl; rfl
theorem val_loop {s : List UInt8} (hs : s.length ≤ 9223372036854775807) : ∀ (d i : Nat), i + d = s.length →
    runW pg ro fn20L0 [(0, .str (bs s)), (3, .int .i64 i)] H = if (s.drop i).contains 10 = false then some (.exit 0, [(0, .str (bs s)), (3, .int .i64 s.length), (7, .bool false)], H) else some (.ret, [(2, .bool false)], H) := by
  have L : ∀ e, runW pg ro fn20L0 e H = seqO pg ro fn20L0 (runW pg ro fn20B0 (keepE [0, 3] e) H) := fun e => runW_loopO
  intro d
  induction d with
  | zero =>
    intro i hi
    have : i = s.length := by omega
    subst this
    rw [L]; simp [fn20B0]
  | succ d ih =>
    intro i hi
    have h2 : i < s.length := by omega
    have h1 : (i : Int) < s.length := by omega
    have w1 : IntKind.i64.wrap ((i : Int) + 1) = i + 1 := by rw [IntKind.wrap_i64]; omega
    obtain ⟨c, hc⟩ : ∃ c, s[i]? = some c := ⟨_, List.getElem?_eq_getElem h2⟩
    have hih := ih (i + 1) (by omega)
    push_cast at hih
    rw [Vs.drop_cons hc, List.contains_cons]
    by_cases e : c = 10
    · subst e
      rw [L]; simp [-getElem?_pos, fn20B0, hc, h1, h2]
    · have e2 : ((10 : UInt8) == c) = false := by simpa using fun h : (10 : UInt8) = c => e h.symm
      rw [e2, Bool.false_or]
      rw [L]; simp only [fn20B0]; simp [-getElem?_pos, hc, h1, h2, b10, e, w1, hih]
theorem value_2 {s : List UInt8} (hs : s.length ≤ 9223372036854775807) : doCall (callW pg) ro 2 (.fn 20 []) [.str (bs s)] H = some (.bool (textOk s), H) := by
  have h : callW pg H.length 20 [.str (bs s)] H = some (.bool (textOk s), H) := by
    have hl := val_loop (ro := H.length) (H := H) hs s.length 0 (by omega)
    rw [List.drop_zero, Int.natCast_zero] at hl
    rw [callW_eqO (fn := fn20) rfl rfl]
    cases hc : s.contains 10
    · rw [if_pos hc] at hl
      have h30 : ((s.length : Int) ≤ 30) = (s.length ≤ 30) := by apply propext; omega
      simp only [textOk, hc]
      simp [fn20, hl, h30]
    · rw [if_neg (by rw [hc]; decide)] at hl
      simp only [textOk, hc]
      simp [fn20, hl]
  exact call2p h rfl rfl

/-! matchers -/
def isM (m : Mt) : Bool := nameOk m.1 && decide (1 ≤ m.2.1) && decide (m.2.1 ≤ 4) && textOk m.2.2
theorem is_2 {n t : List UInt8} {k : Int} (hn : n.length ≤ 9223372036854775807) : doCall (callW pg) ro 2 (.fn 9 []) [.agg [.str (bs n), .int .i64 k, .str (bs t)]] H = some (.bool (isM (n, k, t)), H) := by
  have h : ∃ H', callW pg H.length 9 [.agg [.str (bs n), .int .i64 k, .str (bs t)]] H = some (.bool (isM (n, k, t)), H') := by
    refine ex_of_map ?_
    rw [callW_eqO (fn := fn9) rfl rfl]
    have h1 := fun ro H => name_2 (ro := ro) (H := H) hn
    have h2 := fun ro H => text_2 (ro := ro) (H := H) (s := t)
    cases e : nameOk n
    · rw [e] at h1
      simp [fn9, h1, isM, e]
    · rw [e] at h1
      by_cases k1 : 1 ≤ k
      · by_cases k2 : k ≤ 4
        · simp [fn9, h1, h2, isM, e, k1, k2]
        · simp [fn9, h1, h2, isM, e, k1, k2]
      · simp [fn9, h1, h2, isM, e, k1]
  obtain ⟨H', h⟩ := h
  exact call2p h rfl rfl
theorem ref_is_2 {n t : List UInt8} {k : Int} (hn : n.length ≤ 9223372036854775807) (ht : t.length ≤ 9223372036854775807) : doCall (callW pg) ro 2 (.fn 10 []) [.agg [.str (bs n), .int .i64 k, .str (bs t)]] H = some (.bool (isM (n, k, t)), H) := by
  have h : ∃ H', callW pg H.length 10 [.agg [.str (bs n), .int .i64 k, .str (bs t)]] H = some (.bool (isM (n, k, t)), H') := by
    refine ex_of_map ?_
    rw [callW_eqO (fn := fn10) rfl rfl]
    have h1 := fun ro H => name19_2 (ro := ro) (H := H) hn
    have h2 := fun ro H => value_2 (ro := ro) (H := H) (s := t) ht
    cases e : nameOk n
    · rw [e] at h1
      simp [fn10, h1, isM, e]
    · rw [e] at h1
      by_cases k1 : 1 ≤ k
      · by_cases k2 : k ≤ 4
        · simp [fn10, h1, h2, isM, e, k1, k2]
        · simp [fn10, h1, h2, isM, e, k1, k2]
      · simp [fn10, h1, h2, isM, e, k1]
  obtain ⟨H', h⟩ := h
  exact call2p h rfl rfl
end Go.Proofs.YtpmgmepanbdfpaaDoor
