import Derived.Test.YtdaajnaphkepmaaTring1
import Derived.Test.YtdaajnaphkepmaaVsKnuth
namespace Go.Proofs.Ytdaajnaphkepmaa
open Go Go.Vs
variable {ro : Nat} {H : Hp}
set_option maxRecDepth 100000

theorem ist_gen {cf : CallF} {e : Env} {x i : Opd} {s : ByteArray} {k : IntKind} {n : Nat} (hs : ev e x = .str s) (hi : ev e i = .int k n) (hn : n < s.size) : doIns cf ro e H (.ist x i) = some (.int .u8 (s[n]'hn).toNat, H) := by
  simp only [doIns, hs, hi]
  rw [if_pos (by omega), Int.toNat_natCast, Array.getElem?_eq_getElem (show n < s.data.size from hn)]
  rfl

theorem tab_c {e : Env} {n : Nat} {x : Opd} (hx : ev e x = .int .u8 n) (hn : n < 256) : doIns (callW pg) ro e H (.ist (.c (.string ⟨#[0, 1, 2, 2, 3, 3, 3, 3, 4, 4, 4, 4, 4, 4, 4, 4, 5, 5, 5, 5, 5, 5, 5, 5, 5, 5, 5, 5, 5, 5, 5, 5, 6, 6, 6, 6, 6, 6, 6, 6, 6, 6, 6, 6, 6, 6, 6, 6, 6, 6, 6, 6, 6, 6, 6, 6, 6, 6, 6, 6, 6, 6, 6, 6, 7, 7, 7, 7, 7, 7, 7, 7, 7, 7, 7, 7, 7, 7, 7, 7, 7, 7, 7, 7, 7, 7, 7, 7, 7, 7, 7, 7, 7, 7, 7, 7, 7, 7, 7, 7, 7, 7, 7, 7, 7, 7, 7, 7, 7, 7, 7, 7, 7, 7, 7, 7, 7, 7, 7, 7, 7, 7, 7, 7, 7, 7, 7, 7, 8, 8, 8, 8, 8, 8, 8, 8, 8, 8, 8, 8, 8, 8, 8, 8, 8, 8, 8, 8, 8, 8, 8, 8, 8, 8, 8, 8, 8, 8, 8, 8, 8, 8, 8, 8, 8, 8, 8, 8, 8, 8, 8, 8, 8, 8, 8, 8, 8, 8, 8, 8, 8, 8, 8, 8, 8, 8, 8, 8, 8, 8, 8, 8, 8, 8, 8, 8, 8, 8, 8, 8, 8, 8, 8, 8, 8, 8, 8, 8, 8, 8, 8, 8, 8, 8, 8, 8, 8, 8, 8, 8, 8, 8, 8, 8, 8, 8, 8, 8, 8, 8, 8, 8, 8, 8, 8, 8, 8, 8, 8, 8, 8, 8, 8, 8, 8, 8, 8, 8, 8, 8, 8, 8, 8, 8, 8, 8]⟩)) x) = some (.int .u8 (bitLen n), H) := by
  have h' : n < (⟨#[0, 1, 2, 2, 3, 3, 3, 3, 4, 4, 4, 4, 4, 4, 4, 4, 5, 5, 5, 5, 5, 5, 5, 5, 5, 5, 5, 5, 5, 5, 5, 5, 6, 6, 6, 6, 6, 6, 6, 6, 6, 6, 6, 6, 6, 6, 6, 6, 6, 6, 6, 6, 6, 6, 6, 6, 6, 6, 6, 6, 6, 6, 6, 6, 7, 7, 7, 7, 7, 7, 7, 7, 7, 7, 7, 7, 7, 7, 7, 7, 7, 7, 7, 7, 7, 7, 7, 7, 7, 7, 7, 7, 7, 7, 7, 7, 7, 7, 7, 7, 7, 7, 7, 7, 7, 7, 7, 7, 7, 7, 7, 7, 7, 7, 7, 7, 7, 7, 7, 7, 7, 7, 7, 7, 7, 7, 7, 7, 8, 8, 8, 8, 8, 8, 8, 8, 8, 8, 8, 8, 8, 8, 8, 8, 8, 8, 8, 8, 8, 8, 8, 8, 8, 8, 8, 8, 8, 8, 8, 8, 8, 8, 8, 8, 8, 8, 8, 8, 8, 8, 8, 8, 8, 8, 8, 8, 8, 8, 8, 8, 8, 8, 8, 8, 8, 8, 8, 8, 8, 8, 8, 8, 8, 8, 8, 8, 8, 8, 8, 8, 8, 8, 8, 8, 8, 8, 8, 8, 8, 8, 8, 8, 8, 8, 8, 8, 8, 8, 8, 8, 8, 8, 8, 8, 8, 8, 8, 8, 8, 8, 8, 8, 8, 8, 8, 8, 8, 8, 8, 8, 8, 8, 8, 8, 8, 8, 8, 8, 8, 8, 8, 8, 8, 8, 8, 8]⟩ : ByteArray).size := hn
  rw [ist_gen (s := ⟨#[0, 1, 2, 2, 3, 3, 3, 3, 4, 4, 4, 4, 4, 4, 4, 4, 5, 5, 5, 5, 5, 5, 5, 5, 5, 5, 5, 5, 5, 5, 5, 5, 6, 6, 6, 6, 6, 6, 6, 6, 6, 6, 6, 6, 6, 6, 6, 6, 6, 6, 6, 6, 6, 6, 6, 6, 6, 6, 6, 6, 6, 6, 6, 6, 7, 7, 7, 7, 7, 7, 7, 7, 7, 7, 7, 7, 7, 7, 7, 7, 7, 7, 7, 7, 7, 7, 7, 7, 7, 7, 7, 7, 7, 7, 7, 7, 7, 7, 7, 7, 7, 7, 7, 7, 7, 7, 7, 7, 7, 7, 7, 7, 7, 7, 7, 7, 7, 7, 7, 7, 7, 7, 7, 7, 7, 7, 7, 7, 8, 8, 8, 8, 8, 8, 8, 8, 8, 8, 8, 8, 8, 8, 8, 8, 8, 8, 8, 8, 8, 8, 8, 8, 8, 8, 8, 8, 8, 8, 8, 8, 8, 8, 8, 8, 8, 8, 8, 8, 8, 8, 8, 8, 8, 8, 8, 8, 8, 8, 8, 8, 8, 8, 8, 8, 8, 8, 8, 8, 8, 8, 8, 8, 8, 8, 8, 8, 8, 8, 8, 8, 8, 8, 8, 8, 8, 8, 8, 8, 8, 8, 8, 8, 8, 8, 8, 8, 8, 8, 8, 8, 8, 8, 8, 8, 8, 8, 8, 8, 8, 8, 8, 8, 8, 8, 8, 8, 8, 8, 8, 8, 8, 8, 8, 8, 8, 8, 8, 8, 8, 8, 8, 8, 8, 8, 8, 8]⟩) (n := n) rfl hx h', len8tab_get n h']

theorem stage (n k : Nat) (h : 2 ^ k ≤ n) : ∃ m : Nat, (n : Int) / 2 ^ k = m ∧ m = n / 2 ^ k ∧ bitLen n = k + bitLen m := by
  have hp : 0 < 2 ^ k := Nat.two_pow_pos k
  refine ⟨n / 2 ^ k, by push_cast; rfl, rfl, bitLen_shift n k ?_⟩
  have := Nat.div_pos h hp
  omega

/-- The number of a number's digits. -/
theorem len64_c {n : Nat} (h1 : n < 18446744073709551616) : callW pg ro 67 [.int .u64 n] H = some (.int .i64 (bitLen n), H) := by
  have tab : ∀ (m : Nat), m < 256 → ∀ {e : Env} {x : Opd}, ev e x = .int .u8 (m : Int) → doIns (callW pg) ro e H (.ist (.c (.string ⟨#[0, 1, 2, 2, 3, 3, 3, 3, 4, 4, 4, 4, 4, 4, 4, 4, 5, 5, 5, 5, 5, 5, 5, 5, 5, 5, 5, 5, 5, 5, 5, 5, 6, 6, 6, 6, 6, 6, 6, 6, 6, 6, 6, 6, 6, 6, 6, 6, 6, 6, 6, 6, 6, 6, 6, 6, 6, 6, 6, 6, 6, 6, 6, 6, 7, 7, 7, 7, 7, 7, 7, 7, 7, 7, 7, 7, 7, 7, 7, 7, 7, 7, 7, 7, 7, 7, 7, 7, 7, 7, 7, 7, 7, 7, 7, 7, 7, 7, 7, 7, 7, 7, 7, 7, 7, 7, 7, 7, 7, 7, 7, 7, 7, 7, 7, 7, 7, 7, 7, 7, 7, 7, 7, 7, 7, 7, 7, 7, 8, 8, 8, 8, 8, 8, 8, 8, 8, 8, 8, 8, 8, 8, 8, 8, 8, 8, 8, 8, 8, 8, 8, 8, 8, 8, 8, 8, 8, 8, 8, 8, 8, 8, 8, 8, 8, 8, 8, 8, 8, 8, 8, 8, 8, 8, 8, 8, 8, 8, 8, 8, 8, 8, 8, 8, 8, 8, 8, 8, 8, 8, 8, 8, 8, 8, 8, 8, 8, 8, 8, 8, 8, 8, 8, 8, 8, 8, 8, 8, 8, 8, 8, 8, 8, 8, 8, 8, 8, 8, 8, 8, 8, 8, 8, 8, 8, 8, 8, 8, 8, 8, 8, 8, 8, 8, 8, 8, 8, 8, 8, 8, 8, 8, 8, 8, 8, 8, 8, 8, 8, 8, 8, 8, 8, 8, 8, 8]⟩)) x) = some (.int .u8 (bitLen m), H) := fun m hm e x hx => tab_c hx hm
  have b8 : ∀ m : Nat, m < 256 → IntKind.u8.wrap (m : Int) = m ∧ IntKind.i64.wrap (bitLen m : Int) = bitLen m ∧ bitLen m ≤ 8 := fun m h => by
    have := bitLen_le8 m h
    exact ⟨by rw [IntKind.wrap_u8]; omega, by rw [IntKind.wrap_i64]; omega, this⟩
  rw [callW_eqO (fn := fn67) rfl rfl]
  unfold fn67
  generalize (⟨#[0, 1, 2, 2, 3, 3, 3, 3, 4, 4, 4, 4, 4, 4, 4, 4, 5, 5, 5, 5, 5, 5, 5, 5, 5, 5, 5, 5, 5, 5, 5, 5, 6, 6, 6, 6, 6, 6, 6, 6, 6, 6, 6, 6, 6, 6, 6, 6, 6, 6, 6, 6, 6, 6, 6, 6, 6, 6, 6, 6, 6, 6, 6, 6, 7, 7, 7, 7, 7, 7, 7, 7, 7, 7, 7, 7, 7, 7, 7, 7, 7, 7, 7, 7, 7, 7, 7, 7, 7, 7, 7, 7, 7, 7, 7, 7, 7, 7, 7, 7, 7, 7, 7, 7, 7, 7, 7, 7, 7, 7, 7, 7, 7, 7, 7, 7, 7, 7, 7, 7, 7, 7, 7, 7, 7, 7, 7, 7, 8, 8, 8, 8, 8, 8, 8, 8, 8, 8, 8, 8, 8, 8, 8, 8, 8, 8, 8, 8, 8, 8, 8, 8, 8, 8, 8, 8, 8, 8, 8, 8, 8, 8, 8, 8, 8, 8, 8, 8, 8, 8, 8, 8, 8, 8, 8, 8, 8, 8, 8, 8, 8, 8, 8, 8, 8, 8, 8, 8, 8, 8, 8, 8, 8, 8, 8, 8, 8, 8, 8, 8, 8, 8, 8, 8, 8, 8, 8, 8, 8, 8, 8, 8, 8, 8, 8, 8, 8, 8, 8, 8, 8, 8, 8, 8, 8, 8, 8, 8, 8, 8, 8, 8, 8, 8, 8, 8, 8, 8, 8, 8, 8, 8, 8, 8, 8, 8, 8, 8, 8, 8, 8, 8, 8, 8, 8, 8]⟩ : ByteArray) = T at tab ⊢
  have k8 : IntKind.i64.wrap 8 = 8 := rfl
  have k16 : IntKind.i64.wrap 16 = 16 := rfl
  have k24 : IntKind.i64.wrap 24 = 24 := rfl
  have k40 : IntKind.i64.wrap 40 = 40 := rfl
  have k48 : IntKind.i64.wrap 48 = 48 := rfl
  have k56 : IntKind.i64.wrap 56 = 56 := rfl
  by_cases a0 : 4294967296 ≤ n
  · obtain ⟨m0, d0, e0, l0⟩ := stage n 32 (by simpa using a0)
    simp at d0 e0
    have i0 : (4294967296 : Int) ≤ n := by omega
    by_cases a1 : 65536 ≤ m0
    · obtain ⟨m1, d1, e1, l1⟩ := stage m0 16 (by simpa using a1)
      simp at d1 e1
      have i1 : (65536 : Int) ≤ m0 := by omega
      by_cases a2 : 256 ≤ m1
      · obtain ⟨m2, d2, e2, l2⟩ := stage m1 8 (by simpa using a2)
        simp at d2 e2
        have i2 : (256 : Int) ≤ m1 := by omega
        have hm : m2 < 256 := by omega
        obtain ⟨w1, w2, w3⟩ := b8 m2 hm
        have w4 : IntKind.i64.wrap (56 + (bitLen m2 : Int)) = bitLen n := by rw [IntKind.wrap_i64]; omega
        simp [-getElem?_pos, k8, k16, k24, k40, k48, k56, w4, i0, d0, i1, d1, i2, d2, w1, w2, tab m2 hm]
      · have i2 : ¬ (256 : Int) ≤ m1 := by omega
        have hm : m1 < 256 := by omega
        obtain ⟨w1, w2, w3⟩ := b8 m1 hm
        have w4 : IntKind.i64.wrap (48 + (bitLen m1 : Int)) = bitLen n := by rw [IntKind.wrap_i64]; omega
        simp [-getElem?_pos, k8, k16, k24, k40, k48, k56, w4, i0, d0, i1, d1, i2, w1, w2, tab m1 hm]
    · have i1 : ¬ (65536 : Int) ≤ m0 := by omega
      by_cases a2 : 256 ≤ m0
      · obtain ⟨m2, d2, e2, l2⟩ := stage m0 8 (by simpa using a2)
        simp at d2 e2
        have i2 : (256 : Int) ≤ m0 := by omega
        have hm : m2 < 256 := by omega
        obtain ⟨w1, w2, w3⟩ := b8 m2 hm
        have w4 : IntKind.i64.wrap (40 + (bitLen m2 : Int)) = bitLen n := by rw [IntKind.wrap_i64]; omega
        simp [-getElem?_pos, k8, k16, k24, k40, k48, k56, w4, i0, d0, i1, i2, d2, w1, w2, tab m2 hm]
      · have i2 : ¬ (256 : Int) ≤ m0 := by omega
        have hm : m0 < 256 := by omega
        obtain ⟨w1, w2, w3⟩ := b8 m0 hm
        have w4 : IntKind.i64.wrap (32 + (bitLen m0 : Int)) = bitLen n := by rw [IntKind.wrap_i64]; omega
        simp [-getElem?_pos, k8, k16, k24, k40, k48, k56, w4, i0, d0, i1, i2, w1, w2, tab m0 hm]
  · have i0 : ¬ (4294967296 : Int) ≤ n := by omega
    by_cases a1 : 65536 ≤ n
    · obtain ⟨m1, d1, e1, l1⟩ := stage n 16 (by simpa using a1)
      simp at d1 e1
      have i1 : (65536 : Int) ≤ n := by omega
      by_cases a2 : 256 ≤ m1
      · obtain ⟨m2, d2, e2, l2⟩ := stage m1 8 (by simpa using a2)
        simp at d2 e2
        have i2 : (256 : Int) ≤ m1 := by omega
        have hm : m2 < 256 := by omega
        obtain ⟨w1, w2, w3⟩ := b8 m2 hm
        have w4 : IntKind.i64.wrap (24 + (bitLen m2 : Int)) = bitLen n := by rw [IntKind.wrap_i64]; omega
        simp [-getElem?_pos, k8, k16, k24, k40, k48, k56, w4, i0, i1, d1, i2, d2, w1, w2, tab m2 hm]
      · have i2 : ¬ (256 : Int) ≤ m1 := by omega
        have hm : m1 < 256 := by omega
        obtain ⟨w1, w2, w3⟩ := b8 m1 hm
        have w4 : IntKind.i64.wrap (16 + (bitLen m1 : Int)) = bitLen n := by rw [IntKind.wrap_i64]; omega
        simp [-getElem?_pos, k8, k16, k24, k40, k48, k56, w4, i0, i1, d1, i2, w1, w2, tab m1 hm]
    · have i1 : ¬ (65536 : Int) ≤ n := by omega
      by_cases a2 : 256 ≤ n
      · obtain ⟨m2, d2, e2, l2⟩ := stage n 8 (by simpa using a2)
        simp at d2 e2
        have i2 : (256 : Int) ≤ n := by omega
        have hm : m2 < 256 := by omega
        obtain ⟨w1, w2, w3⟩ := b8 m2 hm
        have w4 : IntKind.i64.wrap (8 + (bitLen m2 : Int)) = bitLen n := by rw [IntKind.wrap_i64]; omega
        simp [-getElem?_pos, k8, k16, k24, k40, k48, k56, w4, i0, i1, i2, d2, w1, w2, tab m2 hm]
      · have i2 : ¬ (256 : Int) ≤ n := by omega
        have hm : n < 256 := by omega
        obtain ⟨w1, w2, w3⟩ := b8 n hm
        have w4 : IntKind.i64.wrap (0 + (bitLen n : Int)) = bitLen n := by rw [IntKind.wrap_i64]; omega
        simp [-getElem?_pos, k8, k16, k24, k40, k48, k56, w4, i0, i1, i2, w1, w2, tab n hm]

theorem lz_2 {n : Nat} (h1 : n < 18446744073709551616) (h0 : 0 < n) : ∃ s : Nat, s ≤ 63 ∧ 9223372036854775808 ≤ (n : Int) * 2 ^ s ∧ (n : Int) * 2 ^ s < 18446744073709551616 ∧ ∀ ro (H : Hp), doCall (callW pg) ro 2 (.fn 58 []) [.int .u64 n] H = some (.int .i64 s, H) := by
  obtain ⟨b1, b2⟩ := bitLen_spec n
  have b2 := b2 (by omega)
  have hb : bitLen n ≤ 64 := by
    unfold bitLen
    rw [if_neg (by omega)]
    have := (Nat.log2_lt (show n ≠ 0 by omega)).2 (show n < 2 ^ 64 by omega)
    omega
  have hb0 : 1 ≤ bitLen n := by
    unfold bitLen; rw [if_neg (by omega)]; omega
  have p1 : (2 : Nat) ^ bitLen n * 2 ^ (64 - bitLen n) = 2 ^ 64 := by rw [← Nat.pow_add, show bitLen n + (64 - bitLen n) = 64 by omega]
  have p2 : (2 : Nat) ^ (bitLen n - 1) * 2 ^ (64 - bitLen n) = 2 ^ 63 := by rw [← Nat.pow_add, show bitLen n - 1 + (64 - bitLen n) = 63 by omega]
  have hp : 0 < (2 : Nat) ^ (64 - bitLen n) := Nat.two_pow_pos _
  have q1 : n * 2 ^ (64 - bitLen n) < 2 ^ 64 := by rw [← p1]; exact Nat.mul_lt_mul_of_pos_right b1 hp
  have q2 : 2 ^ 63 ≤ n * 2 ^ (64 - bitLen n) := by rw [← p2]; exact Nat.mul_le_mul_right _ b2
  have c : (n : Int) * 2 ^ (64 - bitLen n) = ((n * 2 ^ (64 - bitLen n) : Nat) : Int) := by push_cast; rfl
  refine ⟨64 - bitLen n, by omega, by rw [c]; omega, by rw [c]; omega, fun ro H => call2p (H2 := H) ?_ rfl rfl⟩
  have hl := fun ro => call2p (ro := ro) (len64_c (ro := H.length) (H := H) h1) rfl rfl
  have w : IntKind.i64.wrap (64 - (bitLen n : Int)) = ((64 - bitLen n : Nat) : Int) := by rw [IntKind.wrap_i64]; omega
  rw [callW_eqO (fn := fn58) rfl rfl]
  simp [-getElem?_pos, fn58, hl, w]

theorem D0_eq {e : Env} : runW pg ro fn44L0 e H = seqO pg ro fn44L0 (runW pg ro fn44B0 (keepE [2, 8, 9, 10, 11, 13, 14, 15, 16] e) H) := runW_loopO
theorem D1_eq {e : Env} : runW pg ro fn44L1 e H = seqO pg ro fn44L1 (runW pg ro fn44B1 (keepE [2, 8, 9, 10, 14, 15, 16, 17, 18] e) H) := runW_loopO

theorem dloop0 {v2 v8 v11 v14 : IV} {y1 y0 u d : Int} : ∀ (n : Nat) (q r : Int), Kn y1 y0 u d q r → 4294967296 - r ≤ n * 2147483648 →
    ∃ e', get e' 2 = v2 ∧ get e' 8 = v8 ∧ get e' 9 = .int .u64 y1 ∧ get e' 10 = .int .u64 y0 ∧ get e' 11 = v11 ∧ get e' 13 = .int .u64 d ∧ get e' 14 = v14 ∧ get e' 15 = .int .u64 ((u * 4294967296 + d) / (y1 * 4294967296 + y0)) ∧
      runW pg ro fn44L0 [(2, v2), (8, v8), (9, .int .u64 y1), (10, .int .u64 y0), (11, v11), (13, .int .u64 d), (14, v14), (15, .int .u64 q), (16, .int .u64 r)] H = some (.exit 0, e', H) := by
  intro n
  induction n with
  | zero => intro q r h hn; have := h.r1; omega
  | succ n ih =>
    intro q r h hn
    have a1 := h.a1
    have a2 := h.a2
    have r0 := h.r0
    have r1 := h.r1
    have d0 := h.d0
    have d1 := h.d1
    have q0 := h.q0
    have q1 := h.q1
    have wr : IntKind.u64.wrap (4294967296 * r) = 4294967296 * r := by rw [IntKind.wrap_u64]; omega
    have wd : IntKind.u64.wrap (4294967296 * r + d) = 4294967296 * r + d := by rw [IntKind.wrap_u64]; omega
    by_cases hc : 4294967296 ≤ q ∨ 4294967296 * r + d < q * y0
    · have w1 : IntKind.u64.wrap (q - 1) = q - 1 := by have := (h.step hc).1; rw [IntKind.wrap_u64]; omega
      have w2 : IntKind.u64.wrap (r + y1) = r + y1 := by rw [IntKind.wrap_u64]; omega
      by_cases hr : 4294967296 ≤ r + y1
      · refine ⟨[(2, v2), (8, v8), (9, .int .u64 y1), (10, .int .u64 y0), (11, v11), (13, .int .u64 d), (14, v14), (15, .int .u64 (q - 1)), (16, .int .u64 (r + y1)), (85, .bool true)], rfl, rfl, rfl, rfl, rfl, rfl, rfl, ?_, ?_⟩
        · rw [h.last hc hr]; rfl
        · rw [D0_eq]
          by_cases hq : 4294967296 ≤ q
          · simp [-getElem?_pos, fn44B0, hq, w1, w2, hr]
          · obtain ⟨_, m0, m1⟩ := h.ask (by omega)
            have wm : IntKind.u64.wrap (q * y0) = q * y0 := by rw [IntKind.wrap_u64]; omega
            have hc' : 4294967296 * r + d < q * y0 := by omega
            simp [-getElem?_pos, fn44B0, hq, wm, wr, wd, hc', w1, w2, hr]
      · obtain ⟨e', g2, g8, g9, g10, g11, g13, g14, g15, hrun⟩ := ih (q - 1) (r + y1) (h.next hc (by omega)) (by omega)
        refine ⟨e', g2, g8, g9, g10, g11, g13, g14, g15, ?_⟩
        rw [D0_eq]
        by_cases hq : 4294967296 ≤ q
        · simp [-getElem?_pos, fn44B0, hq, w1, w2, hr]
          rw [D0_eq] at hrun ⊢; exact hrun
        · obtain ⟨_, m0, m1⟩ := h.ask (by omega)
          have wm : IntKind.u64.wrap (q * y0) = q * y0 := by rw [IntKind.wrap_u64]; omega
          have hc' : 4294967296 * r + d < q * y0 := by omega
          simp [-getElem?_pos, fn44B0, hq, wm, wr, wd, hc', w1, w2, hr]
          rw [D0_eq] at hrun ⊢; exact hrun
    · have hq : ¬ 4294967296 ≤ q := fun e => hc (.inl e)
      have hc' : ¬ 4294967296 * r + d < q * y0 := fun e => hc (.inr e)
      obtain ⟨_, m0, m1⟩ := h.ask (by omega)
      have wm : IntKind.u64.wrap (q * y0) = q * y0 := by rw [IntKind.wrap_u64]; omega
      refine ⟨[(2, v2), (8, v8), (9, .int .u64 y1), (10, .int .u64 y0), (11, v11), (13, .int .u64 d), (14, v14), (15, .int .u64 q), (16, .int .u64 r), (78, .bool false)], rfl, rfl, rfl, rfl, rfl, rfl, rfl, ?_, ?_⟩
      · rw [h.done (by omega) hc']; rfl
      · rw [D0_eq]
        simp [-getElem?_pos, fn44B0, hq, wm, wr, wd, hc']

theorem dloop1 {v2 v8 v15 v17 : IV} {y1 y0 u d : Int} : ∀ (n : Nat) (q r : Int), Kn y1 y0 u d q r → 4294967296 - r ≤ n * 2147483648 →
    ∃ e', get e' 2 = v2 ∧ get e' 8 = v8 ∧ get e' 14 = .int .u64 d ∧ get e' 15 = v15 ∧ get e' 17 = v17 ∧ get e' 18 = .int .u64 ((u * 4294967296 + d) / (y1 * 4294967296 + y0)) ∧
      runW pg ro fn44L1 [(2, v2), (8, v8), (9, .int .u64 y1), (10, .int .u64 y0), (14, .int .u64 d), (15, v15), (16, .int .u64 r), (17, v17), (18, .int .u64 q)] H = some (.exit 2, e', H) := by
  intro n
  induction n with
  | zero => intro q r h hn; have := h.r1; omega
  | succ n ih =>
    intro q r h hn
    have a1 := h.a1
    have a2 := h.a2
    have r0 := h.r0
    have r1 := h.r1
    have d0 := h.d0
    have d1 := h.d1
    have q0 := h.q0
    have q1 := h.q1
    have wr : IntKind.u64.wrap (4294967296 * r) = 4294967296 * r := by rw [IntKind.wrap_u64]; omega
    have wd : IntKind.u64.wrap (4294967296 * r + d) = 4294967296 * r + d := by rw [IntKind.wrap_u64]; omega
    by_cases hc : 4294967296 ≤ q ∨ 4294967296 * r + d < q * y0
    · have w1 : IntKind.u64.wrap (q - 1) = q - 1 := by have := (h.step hc).1; rw [IntKind.wrap_u64]; omega
      have w2 : IntKind.u64.wrap (r + y1) = r + y1 := by rw [IntKind.wrap_u64]; omega
      by_cases hr : 4294967296 ≤ r + y1
      · refine ⟨[(2, v2), (8, v8), (9, .int .u64 y1), (10, .int .u64 y0), (14, .int .u64 d), (15, v15), (16, .int .u64 (r + y1)), (17, v17), (18, .int .u64 (q - 1)), (120, .bool true)], rfl, rfl, rfl, rfl, rfl, ?_, ?_⟩
        · rw [h.last hc hr]; rfl
        · rw [D1_eq]
          by_cases hq : 4294967296 ≤ q
          · simp [-getElem?_pos, fn44B1, hq, w1, w2, hr]
          · obtain ⟨_, m0, m1⟩ := h.ask (by omega)
            have wm : IntKind.u64.wrap (q * y0) = q * y0 := by rw [IntKind.wrap_u64]; omega
            have hc' : 4294967296 * r + d < q * y0 := by omega
            simp [-getElem?_pos, fn44B1, hq, wm, wr, wd, hc', w1, w2, hr]
      · obtain ⟨e', g2, g8, g14, g15, g17, g18, hrun⟩ := ih (q - 1) (r + y1) (h.next hc (by omega)) (by omega)
        refine ⟨e', g2, g8, g14, g15, g17, g18, ?_⟩
        rw [D1_eq]
        by_cases hq : 4294967296 ≤ q
        · simp [-getElem?_pos, fn44B1, hq, w1, w2, hr]
          rw [D1_eq] at hrun ⊢; exact hrun
        · obtain ⟨_, m0, m1⟩ := h.ask (by omega)
          have wm : IntKind.u64.wrap (q * y0) = q * y0 := by rw [IntKind.wrap_u64]; omega
          have hc' : 4294967296 * r + d < q * y0 := by omega
          simp [-getElem?_pos, fn44B1, hq, wm, wr, wd, hc', w1, w2, hr]
          rw [D1_eq] at hrun ⊢; exact hrun
    · have hq : ¬ 4294967296 ≤ q := fun e => hc (.inl e)
      have hc' : ¬ 4294967296 * r + d < q * y0 := fun e => hc (.inr e)
      obtain ⟨_, m0, m1⟩ := h.ask (by omega)
      have wm : IntKind.u64.wrap (q * y0) = q * y0 := by rw [IntKind.wrap_u64]; omega
      refine ⟨[(2, v2), (8, v8), (9, .int .u64 y1), (10, .int .u64 y0), (14, .int .u64 d), (15, v15), (16, .int .u64 r), (17, v17), (18, .int .u64 q), (113, .bool false)], rfl, rfl, rfl, rfl, rfl, ?_, ?_⟩
      · rw [h.done (by omega) hc']; rfl
      · rw [D1_eq]
        simp [-getElem?_pos, fn44B1, hq, wm, wr, wd, hc']

theorem div64_g {hi lo y : Int} (h0 : 0 ≤ hi) (h1 : hi < y) (h2 : y < 18446744073709551616) (l0 : 0 ≤ lo) (l1 : lo < 18446744073709551616) :
    callW pg ro 44 [.int .u64 hi, .int .u64 lo, .int .u64 y] H = some (.tup [.int .u64 ((hi * 18446744073709551616 + lo) / y), .int .u64 ((hi * 18446744073709551616 + lo) % y)], H) := by
  by_cases hz : hi = 0
  · subst hz
    rw [div64_c l0 l1 h1 h2]
    simp
  obtain ⟨n, rfl⟩ := Int.eq_ofNat_of_zero_le (show 0 ≤ y by omega)
  obtain ⟨s, hs, y1, y2, hlz⟩ := lz_2 (n := n) (by omega) (by omega)
  obtain ⟨e1, u0, u1, hor, hh0, hh1⟩ := shifted hs h0 h1 l0 l1 y2
  have hP : (0 : Int) < 2 ^ s := Int.pow_pos (by decide)
  have qd : (hi * 18446744073709551616 + lo) / (n : Int) = (hi * 18446744073709551616 + lo) * 2 ^ s / ((n : Int) * 2 ^ s) := by
    rw [Int.mul_comm _ (2 ^ s), Int.mul_comm _ (2 ^ s), Int.mul_ediv_mul_of_pos _ _ hP]
  have qm : (hi * 18446744073709551616 + lo) % (n : Int) = (hi * 18446744073709551616 + lo) * 2 ^ s % ((n : Int) * 2 ^ s) / 2 ^ s := by
    rw [Int.mul_comm _ (2 ^ s), Int.mul_comm _ (2 ^ s), Int.mul_emod_mul_of_pos _ _ hP, Int.mul_ediv_cancel_left _ (by omega)]
  rw [qd, qm, ← e1]
  have f1 : IntKind.u64.wrap (s : Int) = s := by rw [IntKind.wrap_u64]; omega
  have m1 : min s 64 = s := by omega
  have m2 : min (64 - s) 64 = 64 - s := by omega
  have f5 : IntKind.u64.wrap (64 - (s : Int)) = ((64 - s : Nat) : Int) := by rw [IntKind.wrap_u64]; omega
  have f4 : IntKind.u64.wrap (hi * 2 ^ s) = hi * 2 ^ s := by rw [IntKind.wrap_u64]; omega
  have f8 : IntKind.u64.wrap (lo * 2 ^ s) = lo * 2 ^ s % 18446744073709551616 := IntKind.wrap_u64 _
  have f2 : IntKind.u64.wrap ((n : Int) * 2 ^ s) = (n : Int) * 2 ^ s := by rw [IntKind.wrap_u64]; omega
  have L0 := Int.emod_nonneg (lo * 2 ^ s) (show (18446744073709551616 : Int) ≠ 0 by decide)
  have L1 := Int.emod_lt_of_pos (lo * 2 ^ s) (show (0 : Int) < 18446744073709551616 by decide)
  obtain ⟨Y, hY⟩ : ∃ Y, (n : Int) * 2 ^ s = Y := ⟨_, rfl⟩
  obtain ⟨L, hL⟩ : ∃ L, lo * 2 ^ s % 18446744073709551616 = L := ⟨_, rfl⟩
  obtain ⟨U, hU⟩ : ∃ U, hi * 2 ^ s + lo / 2 ^ (64 - s) = U := ⟨_, rfl⟩
  rw [hU] at u0 u1 hor ⊢
  rw [hL] at f8 L0 L1 ⊢
  rw [hY] at y1 y2 u1 f2 ⊢
  have a3 := and_low32 Y (by omega) (by omega)
  have a4 := and_low32 L L0 L1
  obtain ⟨t1, t2⟩ := two_digits (Y := Y) (h' := U) (l' := L) (by omega) L0 L1 u0 u1
  have b1 : 2147483648 ≤ Y / 4294967296 := by omega
  have b2 : Y / 4294967296 < 4294967296 := by omega
  have b3 : 0 ≤ Y % 4294967296 := by omega
  have b4 : Y % 4294967296 < 4294967296 := by omega
  have b5 : 0 ≤ L / 4294967296 := by omega
  have b6 : L / 4294967296 < 4294967296 := by omega
  have b7 : 0 ≤ L % 4294967296 := by omega
  have b8 : L % 4294967296 < 4294967296 := by omega
  have eY : Y / 4294967296 * 4294967296 + Y % 4294967296 = Y := by omega
  obtain ⟨Y1, hY1⟩ : ∃ Y1, Y / 4294967296 = Y1 := ⟨_, rfl⟩
  obtain ⟨Y0, hY0⟩ : ∃ Y0, Y % 4294967296 = Y0 := ⟨_, rfl⟩
  obtain ⟨D1, hD1⟩ : ∃ D1, L / 4294967296 = D1 := ⟨_, rfl⟩
  obtain ⟨D0, hD0⟩ : ∃ D0, L % 4294967296 = D0 := ⟨_, rfl⟩
  rw [hY1] at b1 b2 eY
  rw [hY0] at b3 b4 a3 eY
  rw [hD1] at b5 b6 t1 t2
  rw [hD0] at b7 b8 a4 t1 t2
  have K1 := Kn.start b1 b2 b3 b4 b5 b6 u0 (by omega)
  have g1 := Kn.dig b1 b3 b5 b6 u0 (by omega)
  rw [eY] at g1
  have r1 := Int.emod_nonneg (U * 4294967296 + D1) (show Y ≠ 0 by omega)
  have r2 := Int.emod_lt_of_pos (U * 4294967296 + D1) (show 0 < Y by omega)
  have r3 := Int.emod_add_mul_ediv (U * 4294967296 + D1) Y
  obtain ⟨e', q2, q8, q9, q10, q11, q13, q14, q15, hl0⟩ := dloop0 (ro := ro) (H := H) (v2 := .int .u64 Y) (v8 := .int .u64 s) (v11 := .int .u64 U) (v14 := .int .u64 D0) 2 _ _ K1 (by have := K1.r0; omega)
  rw [eY] at q15
  obtain ⟨Q1, hQ1⟩ : ∃ Q1, (U * 4294967296 + D1) / Y = Q1 := ⟨_, rfl⟩
  obtain ⟨R1, hR1⟩ : ∃ R1, (U * 4294967296 + D1) % Y = R1 := ⟨_, rfl⟩
  rw [hQ1] at g1 r3 q15 t1
  rw [hR1] at r1 r2 r3 t1 t2
  have K2 := Kn.start b1 b2 b3 b4 b7 b8 r1 (by omega)
  have g2 := Kn.dig b1 b3 b7 b8 r1 (by omega)
  rw [eY] at g2
  have r4 := Int.emod_nonneg (R1 * 4294967296 + D0) (show Y ≠ 0 by omega)
  have r5 := Int.emod_lt_of_pos (R1 * 4294967296 + D0) (show 0 < Y by omega)
  have r6 := Int.emod_add_mul_ediv (R1 * 4294967296 + D0) Y
  obtain ⟨e2, p2, p8, p14, p15, p17, p18, hl1⟩ := dloop1 (ro := ro) (H := H) (v2 := .int .u64 Y) (v8 := .int .u64 s) (v15 := .int .u64 Q1) (v17 := .int .u64 R1) 2 _ _ K2 (by have := K2.r0; omega)
  rw [eY] at p18
  obtain ⟨Q0, hQ0⟩ : ∃ Q0, (R1 * 4294967296 + D0) / Y = Q0 := ⟨_, rfl⟩
  obtain ⟨R0, hR0⟩ : ∃ R0, (R1 * 4294967296 + D0) % Y = R0 := ⟨_, rfl⟩
  rw [hQ0] at g2 r6 p18 t1
  rw [hR0] at r4 r5 r6 t2
  rw [← t1, ← t2]
  have z1 : ¬ Y1 = 0 := by omega
  have x1 : binV .quo (.int .u64 U) (.int .u64 Y1) = some (.int .u64 (U / Y1)) := by
    rw [bin_quo z1, Int.tdiv_eq_ediv_of_nonneg u0]
    have := K1.q0; have := K1.q1
    rw [IntKind.wrap_u64]; congr 2; omega
  have x2 : IntKind.u64.wrap (U / Y1 * Y1) = U / Y1 * Y1 := by
    have := K1.e; have := K1.r0; have : 0 ≤ U / Y1 * Y1 := Int.mul_nonneg K1.q0 (by omega)
    rw [IntKind.wrap_u64]; omega
  have x3 : IntKind.u64.wrap (U - U / Y1 * Y1) = U - U / Y1 * Y1 := by
    have := K1.r0; have := K1.r1; rw [IntKind.wrap_u64]; omega
  have x4 : binV .quo (.int .u64 R1) (.int .u64 Y1) = some (.int .u64 (R1 / Y1)) := by
    rw [bin_quo z1, Int.tdiv_eq_ediv_of_nonneg r1]
    have := K2.q0; have := K2.q1
    rw [IntKind.wrap_u64]; congr 2; omega
  have x5 : IntKind.u64.wrap (R1 / Y1 * Y1) = R1 / Y1 * Y1 := by
    have := K2.e; have := K2.r0; have : 0 ≤ R1 / Y1 * Y1 := Int.mul_nonneg K2.q0 (by omega)
    rw [IntKind.wrap_u64]; omega
  have x6 : IntKind.u64.wrap (R1 - R1 / Y1 * Y1) = R1 - R1 / Y1 * Y1 := by
    have := K2.r0; have := K2.r1; rw [IntKind.wrap_u64]; omega
  have c1 : Y * Q1 = Q1 * Y := Int.mul_comm _ _
  have c2 : Y * Q0 = Q0 * Y := Int.mul_comm _ _
  have x7 : IntKind.u64.wrap (IntKind.u64.wrap (IntKind.u64.wrap (U * 4294967296) + D1) - IntKind.u64.wrap (Q1 * Y)) = R1 := by
    simp only [IntKind.wrap_u64]; omega
  have x8 : IntKind.u64.wrap (IntKind.u64.wrap (IntKind.u64.wrap (R1 * 4294967296) + D0) - IntKind.u64.wrap (Q0 * Y)) = R0 := by
    simp only [IntKind.wrap_u64]; omega
  have x9 : IntKind.u64.wrap (IntKind.u64.wrap (Q1 * 4294967296) + Q0) = Q1 * 4294967296 + Q0 := by
    simp only [IntKind.wrap_u64]; omega
  have n0 : ¬ (n : Int) = 0 := by omega
  have n1 : ¬ (n : Int) ≤ hi := by omega
  have n2 : ¬ n = 0 := by omega
  have n3 : ¬ (s : Int) < 0 := by omega
  have n4 : ¬ ((64 - s : Nat) : Int) < 0 := by omega
  rw [callW_eqO (fn := fn44) rfl rfl]
  simp [-getElem?_pos, fn44, n3, n4, n0, n1, n2, hz, hlz, f1, hY, f2, m1, hY1, a3, f4, f5, m2, hor, f8, hD1, a4, x1, x2, x3, hl0, q2, q8, q9, q10, q11, q13, q14, q15, x7, x4, x5, x6, hl1, p2, p8, p14, p15, p17, p18, x8, x9]

end Go.Proofs.Ytdaajnaphkepmaa
