/- The program's matcher. -/
import Derived.Test.YtpmgmepanbdfpaaDoorFnsLe
import Derived.Test.YtpmgmepanbdfpaaDoorVsGlob
namespace Go.Proofs.YtpmgmepanbdfpaaDoor
open Go Go.Vs
variable {ro : Nat} {H : Hp}

theorem b42 {a : UInt8} : ((a.toNat : Int) = 42) ↔ a = 42 := by
  constructor
  · intro h; apply UInt8.toNat_inj.1; show a.toNat = 42; omega
  · rintro rfl; rfl
theorem b63 {a : UInt8} : ((a.toNat : Int) = 63) ↔ a = 63 := by
  constructor
  · intro h; apply UInt8.toNat_inj.1; show a.toNat = 63; omega
  · rintro rfl; rfl

theorem dw_nil {p : UInt8 → Bool} : ∀ {l : List UInt8}, l.dropWhile p = [] ↔ ∀ x ∈ l, p x = true
  | [] => by simp
  | a :: l => by
    rw [List.dropWhile_cons]
    by_cases h : p a = true
    · rw [if_pos h, dw_nil]; simp [h]
    · rw [if_neg h]; simp [h]

/-! what is cut off -/
def trimL (c : UInt8) (l : List UInt8) : List UInt8 := l.dropWhile (· == c)
def trimR (c : UInt8) (l : List UInt8) : List UInt8 := (l.reverse.dropWhile (· == c)).reverse

theorem trimL_loop {c : UInt8} : ∀ (l : List UInt8), l.length ≤ 9223372036854775807 → ∃ e', runW pg ro fn27L0 [(0, .str (bs l)), (1, .int .u8 c.toNat)] H = some (.exit 0, e', H) ∧ get e' 0 = .str (bs (trimL c l)) := by
  have L : ∀ e, runW pg ro fn27L0 e H = seqO pg ro fn27L0 (runW pg ro fn27B0 (keepE [0, 1] e) H) := fun e => runW_loopO
  intro l
  induction l with
  | nil =>
    intro _
    refine ⟨[(0, .str (bs [])), (1, .int .u8 c.toNat), (13, .bool false)], ?_, rfl⟩
    rw [L]; simp [fn27B0]
  | cons x l ih =>
    intro hl
    simp at hl
    have h0 : (0 : Int) < (l.length : Int) + 1 := by omega
    by_cases hx : x = c
    · subst hx
      obtain ⟨e', h1, h2⟩ := ih (by omega)
      refine ⟨e', ?_, by rw [h2]; simp [trimL]⟩
      rw [L]; simp [fn27B0, h0, h1]
    · refine ⟨[(0, .str (bs (x :: l))), (1, .int .u8 c.toNat), (13, .bool false)], ?_, by simp [trimL, hx]⟩
      rw [L]; simp [fn27B0, h0, u8_eq, hx]

theorem trimL_c {c : UInt8} {l : List UInt8} (hl : l.length ≤ 9223372036854775807) : callW pg ro 27 [.str (bs l), .int .u8 c.toNat] H = some (.str (bs (trimL c l)), H) := by
  obtain ⟨e', h1, h2⟩ := trimL_loop (ro := ro) (H := H) (c := c) l hl
  rw [callW_eqO (fn := fn27) rfl rfl]
  simp [fn27, h1, h2]

theorem trimR_loop {c : UInt8} : ∀ (n : Nat) (l : List UInt8), l.length = n → n ≤ 9223372036854775807 → ∃ e', runW pg ro fn28L0 [(0, .str (bs l)), (1, .int .u8 c.toNat)] H = some (.exit 0, e', H) ∧ get e' 0 = .str (bs (trimR c l)) := by
  have L : ∀ e, runW pg ro fn28L0 e H = seqO pg ro fn28L0 (runW pg ro fn28B0 (keepE [0, 1] e) H) := fun e => runW_loopO
  intro n
  induction n with
  | zero =>
    intro l hl _
    have : l = [] := List.eq_nil_of_length_eq_zero hl
    subst this
    refine ⟨[(0, .str (bs [])), (1, .int .u8 c.toNat), (16, .bool false)], ?_, rfl⟩
    rw [L]; simp [fn28B0]
  | succ n ih =>
    intro l hl hn
    obtain ⟨l', x, rfl⟩ : ∃ l' x, l = l' ++ [x] := by
      rcases List.eq_nil_or_concat l with rfl | ⟨l', x, h⟩
      · simp at hl
      · exact ⟨l', x, by rw [h, List.concat_eq_append]⟩
    simp at hl
    have h0 : (0 : Int) < (l'.length : Int) + 1 := by omega
    have w1 : IntKind.i64.wrap ((l'.length : Int) + 1 - 1) = l'.length := by rw [IntKind.wrap_i64]; omega
    have w2 : IntKind.i64.wrap (l'.length : Int) = l'.length := by rw [IntKind.wrap_i64]; omega
    by_cases hx : x = c
    · subst hx
      obtain ⟨e', h1, h2⟩ := ih l' hl (by omega)
      refine ⟨e', ?_, by rw [h2]; simp [trimR]⟩
      rw [L]; simp [fn28B0, h0, w1, w2, h1]
    · refine ⟨[(0, .str (bs (l' ++ [x]))), (1, .int .u8 c.toNat), (16, .bool false)], ?_, by simp [trimR, hx]⟩
      rw [L]; simp [fn28B0, h0, w1, w2, u8_eq, hx]

theorem trimR_c {c : UInt8} {l : List UInt8} (hl : l.length ≤ 9223372036854775807) : callW pg ro 28 [.str (bs l), .int .u8 c.toNat] H = some (.str (bs (trimR c l)), H) := by
  obtain ⟨e', h1, h2⟩ := trimR_loop (ro := ro) (H := H) (c := c) l.length l rfl hl
  rw [callW_eqO (fn := fn28) rfl rfl]
  simp [fn28, h1, h2]

theorem trimR_len {c : UInt8} {l : List UInt8} : (trimR c l).length ≤ l.length := by
  unfold trimR
  rw [List.length_reverse]
  have := (List.dropWhile_sublist (p := (· == c)) (l := l.reverse)).length_le
  simpa using this
theorem trim_nil {c : UInt8} {l : List UInt8} : trimL c (trimR c l) = [] ↔ ∀ x ∈ l, x = c := by
  unfold trimL
  rw [dw_nil]
  unfold trimR
  constructor
  · intro h x hx
    by_cases hc : x = c
    · exact hc
    · exfalso
      -- the last one that is not c stays
      have : (l.reverse.dropWhile (· == c)) ≠ [] := by
        intro h0
        rw [dw_nil] at h0
        have := h0 x (by simpa using hx)
        simp at this; exact hc this
      have h1 := List.head_dropWhile_not (p := (· == c)) (l := l.reverse) this
      have h2 := h ((l.reverse.dropWhile (· == c)).head this) (by simp)
      rw [h1] at h2; cases h2
  · intro h x hx
    have : x ∈ l.reverse := (List.dropWhile_sublist (p := (· == c)) (l := l.reverse)).subset (by simpa using hx)
    simpa using h x (by simpa using this)

set_option maxRecDepth 100000 in
theorem trim_2 {l : List UInt8} (hl : l.length ≤ 9223372036854775807) : doCall (callW pg) ro 2 (.fn 22 []) [.str (bs l), .str ⟨#[42]⟩] H = some (.str (bs (trimL 42 (trimR 42 l))), H) := by
  have h : callW pg H.length 22 [.str (bs l), .str ⟨#[42]⟩] H = some (.str (bs (trimL 42 (trimR 42 l))), H) := by
    have e : (⟨#[42]⟩ : ByteArray) = bs [42] := rfl
    have r := fun ro H => trimR_c (ro := ro) (H := H) (c := 42) hl
    have lf := fun ro H => trimL_c (ro := ro) (H := H) (c := 42) (l := trimR 42 l) (Nat.le_trans trimR_len hl)
    have e42 : ((42 : UInt8).toNat : Int) = 42 := rfl
    rw [e42] at r lf
    have r2 : ∀ ro H, doCall (callW pg) ro 2 (.fn 28 []) [.str (bs l), .int .u8 42] H = some (.str (bs (trimR 42 l)), H) := fun ro H => call2p (r H.length H) rfl rfl
    have l2 : ∀ ro H, doCall (callW pg) ro 2 (.fn 27 []) [.str (bs (trimR 42 l)), .int .u8 42] H = some (.str (bs (trimL 42 (trimR 42 l))), H) := fun ro H => call2p (lf H.length H) rfl rfl
    rw [e, callW_eqO (fn := fn22) rfl rfl]
    by_cases h0 : l = []
    · subst h0
      simp [fn22, bs0]
      rfl
    · have hE : l.isEmpty = false := by simpa using h0
      simp [fn22, bs0, hE, r2, l2]
  exact call2p h rfl rfl

end Go.Proofs.YtpmgmepanbdfpaaDoor
