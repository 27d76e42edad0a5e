import Derived.Test.YtdaajnaphkepmaaTring4
import Derived.Test.YtdaajnaphkepmaaVsLaw
namespace Go.Proofs.Ytdaajnaphkepmaa
open Go Go.Vs
variable {ro : Nat} {H : Hp}

theorem known_c : ∃ H', callW pg 0 8 [] [] = some (.bool true, H') := callW_of (n := 40) (by kernel_rfl)

theorem RingAt.app {R : Nat} {v : IV} {r : Ring} (h : RingAt H R v r) (Y : Hp) : RingAt (H ++ Y) R v r := by
  refine ⟨by rw [List.getElem?_append_left (List.getElem?_eq_some_iff.1 h.at_).1]; exact h.at_, ?_, h.ne⟩
  rcases h.sl with h | ⟨b, g, pre, rfl, h1, h2, h3⟩
  · exact .inl h
  · exact .inr ⟨b, g, pre, rfl, by rw [List.getElem?_append_left (List.getElem?_eq_some_iff.1 h1).1]; exact h1, h2, h3⟩

theorem of_2 {n : Int} (h1 : -9000000000000 ≤ n) (h2 : n ≤ 9000000000000) : doCall (callW pg) ro 2 (.fn 10 []) [.int .i64 n] H = some (.agg [.bool false, .int .i64 (n * 1000000)], H) := by
  obtain ⟨H2, h⟩ := of_c (ro := H.length) (H := H) (Nat.le_refl _) h1 h2
  exact call2p h rfl rfl

theorem sumNum_plain (S o : Int) : plainD frzD (sumNum S o) = true ∧ flatV (sumNum S o) = true := by unfold sumNum; split <;> exact ⟨rfl, rfl⟩

theorem sum_2 {R : Nat} {v : IV} {r : Ring} (h : RingAt H R v r) (ho : RingOk r) : doCall (callW pg) ro 2 (.fn 13 []) [.ptr R 0 0 0] H = some (sumNum (sumS r.l) (cntO r.l), H) := by
  obtain ⟨H2, h⟩ := sum_c h (ro := H.length) (Nat.le_refl _) ho
  exact call2 (args' := [.ptr R 0 0 0]) (by simp) h (sumNum_plain _ _).1 (.inl (sumNum_plain _ _).2)

/-! the law 'RingOvf' -/
namespace Ovf

def smp (o j : Nat) : Int × Bool × Int := if j = o then (j, true, 0) else (j, false, j * 1000000)
def seg (o : Nat) : Nat → Nat → List (Int × Bool × Int)
  | _, 0 => []
  | a, n + 1 => smp o a :: seg o (a + 1) n
theorem seg_snoc (o : Nat) : ∀ (n a : Nat), seg o a (n + 1) = seg o a n ++ [smp o (a + n)]
  | 0, a => rfl
  | n + 1, a => by
    rw [seg, seg_snoc o n (a + 1), seg]
    simp [Nat.add_assoc, Nat.add_comm 1 n]
theorem smp_t {o j : Nat} : (smp o j).1 = j := by unfold smp; split <;> rfl
theorem strip_seg {o : Nat} {c : Int} : ∀ (n a : Nat), c < a → strip c (seg o a n) = seg o a n
  | 0, _, _ => rfl
  | n + 1, a, h => by
    rw [seg, strip, smp_t, if_neg (by omega)]
theorem len_seg {o : Nat} : ∀ (n a : Nat), (seg o a n).length = n
  | 0, _ => rfl
  | n + 1, a => by simp [seg, len_seg n]
theorem mem_seg {o : Nat} : ∀ (n a : Nat) {s}, s ∈ seg o a n → ∃ j, j < a + n ∧ s = smp o j
  | 0, _, s, h => by simp [seg] at h
  | n + 1, a, s, h => by
    rcases List.mem_cons.1 h with rfl | h
    · exact ⟨a, by omega, rfl⟩
    · obtain ⟨j, h1, h2⟩ := mem_seg n (a + 1) h
      exact ⟨j, by omega, h2⟩
def T : Nat → Nat → Int
  | _, 0 => 0
  | a, n + 1 => a + T (a + 1) n
theorem T_le : ∀ (n a : Nat), 0 ≤ T a n ∧ T a n ≤ n * (a + n)
  | 0, a => by simp [T]
  | n + 1, a => by
    have := T_le n (a + 1)
    simp only [T]
    constructor
    · omega
    · have e : ((n + 1 : Nat) : Int) * (a + (n + 1 : Nat)) = n * ((a + 1 : Nat) + n) + (a + n + 1) := by push_cast; grind
      omega
theorem sum_out {o : Nat} : ∀ (n a : Nat), (o < a ∨ a + n ≤ o) → sumS (seg o a n) = T a n * 1000000 ∧ cntO (seg o a n) = 0
  | 0, _, _ => by simp [seg, sumS, cntO, T]
  | n + 1, a, h => by
    have h1 := sum_out (o := o) n (a + 1) (by omega)
    have h2 : a ≠ o := by omega
    simp only [seg, sumS, cntO, T, h1.1, h1.2]
    simp [smp, h2, sv, so]
    omega
theorem cnt_in {o : Nat} : ∀ (n a : Nat), a ≤ o → o < a + n → 0 < cntO (seg o a n)
  | 0, _, _, _ => by omega
  | n + 1, a, h, h' => by
    simp only [seg, cntO]
    by_cases e : a = o
    · have := (cntO_le (seg o (a + 1) n)).1
      simp [smp, e, so]; subst e; omega
    · have := cnt_in (o := o) n (a + 1) (by omega) (by omega)
      have := so_01 (smp o a)
      omega

theorem L0_eq {e : Env} : runW pg 0 fn3L0 e H = seqO pg 0 fn3L0 (runW pg 0 fn3B0 (keepE [5, 6, 7, 8, 10, 11, 12] e) H) := runW_loopO

theorem inner {p k o b : IV} {i : Nat} (hi : i ≤ 100) : ∀ (n j : Nat) (s : Int), j + n = i + 1 → 0 ≤ s → s + 200 * n ≤ 1000000 →
    runW pg 0 fn3L0 [(5, p), (6, k), (7, o), (8, .int .i64 i), (10, b), (11, .int .i64 s), (12, .int .i64 j)] H =
      some (.exit 2, [(5, p), (6, k), (7, o), (8, .int .i64 i), (10, b), (11, .int .i64 (s + T j n)), (12, .int .i64 ((i : Int) + 1)), (58, .bool false)], H)
  | 0, j, s, h1, h2, h3 => by
    have e : j = i + 1 := by omega
    subst e
    have hf : ¬ ((i : Int) + 1 ≤ (i : Int)) := by omega
    rw [L0_eq]
    simp [fn3B0, T, hf]
  | n + 1, j, s, h1, h2, h3 => by
    have hle : (j : Int) ≤ i := by omega
    have w1 : IntKind.i64.wrap (s + j) = s + j := by rw [IntKind.wrap_i64]; omega
    have w2 : IntKind.i64.wrap ((j : Int) + 1) = (j : Int) + 1 := by rw [IntKind.wrap_i64]; omega
    have ih := inner (p := p) (k := k) (o := o) (b := b) hi n (j + 1) (s + j) (by omega) (by omega) (by omega)
    have e : s + j + T (j + 1) n = s + T j (n + 1) := by simp only [T]; omega
    rw [e] at ih
    push_cast at ih
    rw [L0_eq]
    simp [fn3B0, hle, w1, w2, ih]

/-- The ring ahead of round i. -/
def rg (o i : Nat) : Ring := ⟨10, ((i - 1 : Nat) : Int), (i : Int) - 1, seg o (i - 10) (min i 10)⟩

theorem smp_held {o j : Nat} (h : j ≤ 100) : heldS (smp o j) = smp o j := by
  unfold heldS smp
  by_cases e : j = o
  · simp [e, okNum]
  · simp [e, okNum]; omega

theorem rg_ok {o i : Nat} (hi : i ≤ 100) : RingOk (rg o i) := by
  refine ⟨by simp [rg], by simp [rg], by simp [rg], by simp [rg]; omega, by simp [rg, len_seg]; omega, fun s hs => ?_⟩
  obtain ⟨j, _, rfl⟩ := mem_seg _ _ hs
  intro h
  unfold smp at h ⊢
  split at h
  · cases h
  · rename_i e
    simp only [if_neg e]
    have := (mem_seg (o := o) (min i 10) (i - 10) hs)
    simp only [rg] at *
    omega

theorem rg_adv {o i : Nat} (hi : i ≤ 100) : (rg o i).adv i = ⟨10, i, (i : Int) - 1, seg o (i - 9) (min i 9)⟩ := by
  have e1 : max ((i - 1 : Nat) : Int) (min (i : Int) 1000000) = i := by omega
  simp only [Ring.adv, rg, e1]
  congr 1
  by_cases h : i < 10
  · have e2 : i - 10 = 0 := by omega
    have e3 : i - 9 = 0 := by omega
    rw [e2, e3, strip_seg _ _ (by omega), show min i 10 = min i 9 by omega]
  · have e2 : min i 10 = 9 + 1 := by omega
    have e3 : min i 9 = 9 := by omega
    have e4 : i - 10 + 1 = i - 9 := by omega
    rw [e2, e3, seg, strip, smp_t, if_pos (by omega), e4, strip_seg _ _ (by omega)]

theorem rg_add {o i : Nat} (hi : i ≤ 100) : Ring.add ⟨10, i, (i : Int) - 1, seg o (i - 9) (min i 9)⟩ (smp o i) = rg o (i + 1) ∧ takes 10 i ((i : Int) - 1) (smp o i).1 = 0 := by
  have w1 : IntKind.i64.wrap ((i : Int) - 10) = i - 10 := by rw [IntKind.wrap_i64]; omega
  have ht : takes 10 i ((i : Int) - 1) (smp o i).1 = 0 := by
    rw [smp_t]; unfold takes; rw [w1, if_neg (by omega), if_neg (by omega)]
  refine ⟨?_, ht⟩
  have ht' := ht
  rw [smp_t] at ht'
  simp only [Ring.add, smp_t, ht', if_true, smp_held hi]
  have e1 : i + 1 - 10 = i - 9 := by omega
  have e2 : min (i + 1) 10 = min i 9 + 1 := by omega
  have e3 : i - 9 + min i 9 = i := by omega
  simp only [rg, e1, e2, seg_snoc, e3]
  simp

theorem L1_eq {e : Env} : runW pg 0 fn3L1 e H = seqO pg 0 fn3L1 (runW pg 0 fn3B1 (keepE [5, 6, 7, 8] e) H) := runW_loopO

theorem body {R k o i : Nat} {v : IV} (hk : k ≤ 40) (hi : i < k) (hok : o < k) (h : RingAt H R v (rg o i)) : ∃ H' v', RingAt H' R v' (rg o (i + 1)) ∧
    runW pg 0 fn3B1 [(5, .ptr R 0 0 0), (6, .int .i64 k), (7, .int .i64 o), (8, .int .i64 i)] H = some (.nrm, [(5, .ptr R 0 0 0), (6, .int .i64 k), (7, .int .i64 o), (8, .int .i64 ((i : Int) + 1))], H') := by
  have hR := h.at_
  have hlt : R < H.length := (List.getElem?_eq_some_iff.1 hR).1
  obtain ⟨O, N, hs, hON⟩ : ∃ O N, smp o i = ((i : Int), O, N) ∧ ((O = true ∧ N = 0 ∧ i = o) ∨ (O = false ∧ N = i * 1000000 ∧ i ≠ o)) := by
    unfold smp
    by_cases e : i = o
    · exact ⟨true, 0, by simp [e], .inl ⟨rfl, rfl, e⟩⟩
    · exact ⟨false, i * 1000000, by simp [e], .inr ⟨rfl, rfl, e⟩⟩
  obtain ⟨H2, v2, hadv, hat2, hk2, _⟩ := adv_c (n := i) (h.app [{ rows := [[.bool O, .int .i64 N]] }]) (rg_ok (o := o) (i := i) (by omega))
  rw [rg_adv (by omega)] at hat2
  have hcell : H2[H.length]? = some { rows := [[.bool O, .int .i64 N]] } := by
    rw [hk2.same H.length (by simp) (by omega) (by simp [blkV])]; simp
  have hok2 : RingOk ⟨10, (i : Int), (i : Int) - 1, seg o (i - 9) (min i 9)⟩ := by
    refine ⟨by simp, by simp, by simp, by simp; omega, by simp [len_seg]; omega, fun s hs => ?_⟩
    obtain ⟨j, hj, rfl⟩ := mem_seg _ _ hs
    intro h
    unfold smp at h ⊢
    split at h
    · cases h
    · rename_i e
      simp only [if_neg e]
      omega
  obtain ⟨hadd, htk⟩ := rg_add (o := o) (i := i) (by omega)
  obtain ⟨H3, v3, hadc, hat3, _, _⟩ := add_yes (s := smp o i) hat2 hok2 htk (by rw [hs]; rcases hON with ⟨_, e, _⟩ | ⟨_, e, _⟩ <;> (simp only [e]; omega)) (by rw [hs]; rcases hON with ⟨_, e, _⟩ | ⟨_, e, _⟩ <;> (simp only [e]; omega))
  rw [hadd] at hat3
  rw [hs] at hadc
  refine ⟨H3, v3, hat3, ?_⟩
  have hik : (i : Int) < k := by omega
  have hof := fun (ro : Nat) (H : Hp) => of_2 (ro := ro) (H := H) (n := (i : Int)) (by omega) (by omega)
  have hsum := fun ro => sum_2 (ro := ro) hat3 (rg_ok (by omega))
  have w9 : IntKind.i64.wrap ((i : Int) - 9) = i - 9 := by rw [IntKind.wrap_i64]; omega
  have m9 : max 0 ((i : Int) - 9) = ((i - 9 : Nat) : Int) := by omega
  have w1 : IntKind.i64.wrap ((i : Int) + 1) = i + 1 := by rw [IntKind.wrap_i64]; omega
  have wo : IntKind.i64.wrap ((i : Int) - o) = i - o := by rw [IntKind.wrap_i64]; omega
  have hT := T_le (min i 9 + 1) (i - 9)
  have hin := fun (b : IV) => inner (H := H3) (p := .ptr R 0 0 0) (k := .int .i64 k) (o := .int .i64 o) (b := b) (i := i) (by omega) (min i 9 + 1) (i - 9) 0 (by omega) (by omega) (by omega)
  simp only [Int.zero_add] at hin
  have hofT := fun (ro : Nat) (H : Hp) => of_2 (ro := ro) (H := H) (n := T (i - 9) (min i 9 + 1)) (by omega) (by
    have : ((min i 9 + 1 : Nat) : Int) * ((i - 9 : Nat) + (min i 9 + 1 : Nat)) ≤ 10 * 100 := Int.mul_le_mul (by omega) (by omega) (by omega) (by omega)
    omega)
  have hl : (rg o (i + 1)).l = seg o (i - 9) (min i 9 + 1) := by
    have e1 : i + 1 - 10 = i - 9 := by omega
    have e2 : min (i + 1) 10 = min i 9 + 1 := by omega
    simp only [rg, e1, e2]
  rw [hl] at hsum
  by_cases hwin : o ≤ i ∧ i < o + 10
  · have hc := cnt_in (o := o) (min i 9 + 1) (i - 9) (by omega) (by omega)
    have hs1 : sumNum (sumS (seg o (i - 9) (min i 9 + 1))) (cntO (seg o (i - 9) (min i 9 + 1))) = .agg [.bool true, .int .i64 0] := by
      unfold sumNum; rw [if_pos (.inl hc)]
    rw [hs1] at hsum
    have c1 : (o : Int) ≤ i := by omega
    have c2 : (i : Int) - o < 10 := by omega
    rcases hON with ⟨rfl, rfl, e⟩ | ⟨rfl, rfl, e⟩
    · subst e
      have w0 : IntKind.i64.wrap 0 = 0 := rfl
      simp [-getElem?_pos, fn3B1, hik, hof, hadv, hcell, hadc, w9, m9, w1, w0, hin, hsum]
    · have e' : ¬ (i : Int) = o := by omega
      simp [-getElem?_pos, fn3B1, hik, hof, e', hadv, hcell, hadc, w9, m9, w1, wo, c1, c2, hin, hsum]
  · have hc := sum_out (o := o) (min i 9 + 1) (i - 9) (by omega)
    have hs1 : sumNum (sumS (seg o (i - 9) (min i 9 + 1))) (cntO (seg o (i - 9) (min i 9 + 1))) = .agg [.bool false, .int .i64 (T (i - 9) (min i 9 + 1) * 1000000)] := by
      have : ((min i 9 + 1 : Nat) : Int) * ((i - 9 : Nat) + (min i 9 + 1 : Nat)) ≤ 10 * 100 := Int.mul_le_mul (by omega) (by omega) (by omega) (by omega)
      unfold sumNum; rw [hc.1, hc.2, if_neg (by omega)]
    rw [hs1] at hsum
    rcases hON with ⟨rfl, rfl, e⟩ | ⟨rfl, rfl, e⟩
    · exact absurd ⟨by omega, by omega⟩ hwin
    · have e' : ¬ (i : Int) = o := by omega
      by_cases c1 : (o : Int) ≤ i
      · have c2 : ¬ (i : Int) - o < 10 := by omega
        simp [-getElem?_pos, fn3B1, hik, hof, e', hadv, hcell, hadc, w9, m9, w1, wo, c1, c2, hin, hsum, hofT]
      · simp [-getElem?_pos, fn3B1, hik, hof, e', hadv, hcell, hadc, w9, m9, w1, wo, c1, hin, hsum, hofT]

theorem outer {R k o : Nat} (hk : k ≤ 40) (hok : o < k) : ∀ (m i : Nat) (H : Hp) (v : IV), i + m = k → RingAt H R v (rg o i) →
    ∃ e' H', runW pg 0 fn3L1 [(5, .ptr R 0 0 0), (6, .int .i64 k), (7, .int .i64 o), (8, .int .i64 i)] H = some (.exit 0, e', H')
  | 0, i, H, v, hm, h => by
    have e : i = k := by omega
    subst e
    rw [L1_eq]
    simp [fn3B1]
  | m + 1, i, H, v, hm, h => by
    obtain ⟨H', v', h', hb⟩ := body hk (i := i) (by omega) hok h
    obtain ⟨e', H'', hr⟩ := outer hk hok m (i + 1) H' v' (by omega) h'
    push_cast at hr
    refine ⟨e', H'', ?_⟩
    rw [L1_eq]
    simp [hb, hr]

/-- The law, in the ideal machine. -/
theorem law {a n : Int} (ha0 : 0 ≤ a) (ha : a < 256) (hn0 : 0 ≤ n) (hn : n < 256) : ∃ H', callW pg 0 3 [.int .u8 a, .int .u8 n] [] = some (.bool true, H') := by
  obtain ⟨Hk, hk⟩ := known_c
  have hk2 : doCall (callW pg) 0 2 (.fn 8 []) [] [] = some (.bool true, []) := call2p hk rfl rfl
  have hnew := new_c (ro := 0) (H := []) (n := 10) (Nat.le_refl _)
  obtain ⟨k, hkk⟩ : ∃ k : Nat, (k : Int) = n % 40 + 1 := ⟨(n % 40 + 1).toNat, by omega⟩
  obtain ⟨o, hoo⟩ : ∃ o : Nat, (o : Int) = a % k := ⟨(a % k).toNat, by have := Int.emod_nonneg a (show (k : Int) ≠ 0 by omega); omega⟩
  have hok : o < k := by have := Int.emod_lt_of_pos a (show (0 : Int) < k by omega); omega
  have t1 : n.tmod 40 = n % 40 := Int.tmod_eq_emod_of_nonneg hn0
  have t2 : a.tmod k = a % k := Int.tmod_eq_emod_of_nonneg ha0
  have w1 : IntKind.i64.wrap (n % 40) = n % 40 := by rw [IntKind.wrap_i64]; omega
  have w2 : IntKind.i64.wrap (n % 40 + 1) = k := by rw [IntKind.wrap_i64]; omega
  have w3 : IntKind.i64.wrap a = a := by rw [IntKind.wrap_i64]; omega
  have hk0 : (k : Int) ≠ 0 := by omega
  have hmin : min (max (10 : Int) 1) 100 = 10 := by decide
  rw [hmin] at hnew
  have hrem : binV .rem (.int .i64 a) (.int .i64 k) = some (.int .i64 o) := by rw [bin_rem hk0, t2, hoo]
  have hrem2 : binV .rem (.int .u8 n) (.int .u8 40) = some (.int .u8 (n % 40)) := by rw [bin_rem (by decide), t1]
  have hat : RingAt [{ rows := [Ring.row ⟨10, 0, -1, []⟩ .nsl] }] 0 .nsl (rg o 0) := ⟨by simp [rg, Ring.row, seg], .inl ⟨rfl, by simp [rg, seg]⟩, by simp [blkV]⟩
  obtain ⟨e', H', hr⟩ := outer (k := k) (o := o) (by omega) hok k 0 _ _ (by omega) hat
  refine ⟨H', ?_⟩
  rw [callW_eqO (fn := fn3) rfl rfl]
  simp at hnew hr
  simp [-getElem?_pos, fn3, hk2, hnew, hrem, hrem2, w1, w2, w3, hr]

theorem wf {a n : Int} (h0 : (Lit.int .u8 a).wf = true) (h1 : (Lit.int .u8 n).wf = true) : ∃ H', callW pg 0 3 [.int .u8 a, .int .u8 n] [] = some (.bool true, H') := by
  simp [Lit.wf, IntKind.min, IntKind.max, IntKind.signed, IntKind.bits] at h0 h1
  exact law (by omega) (by omega) (by omega) (by omega)

end Ovf
end Go.Proofs.Ytdaajnaphkepmaa
