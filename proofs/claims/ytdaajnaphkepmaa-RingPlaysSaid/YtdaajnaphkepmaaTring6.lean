import Derived.Test.YtdaajnaphkepmaaTring5
namespace Go.Proofs.Ytdaajnaphkepmaa
open Go Go.Vs
variable {ro : Nat} {H : Hp}

theorem first_c {R : Nat} {v : IV} {r : Ring} {s : Int × Bool × Int} {l : List (Int × Bool × Int)} (h : RingAt H R v r) (hl : r.l = s :: l) (hr : ro ≤ H.length) : ∃ H2, callW pg ro 15 [.ptr R 0 0 0] H = some (.tup [.agg [.int .i64 s.1, .bool s.2.1, .int .i64 s.2.2], .bool true], H2) := by
  have hR := h.at_
  have hlt : R < H.length := (List.getElem?_eq_some_iff.1 hR).1
  rcases h.sl with ⟨_, hl'⟩ | ⟨b, g, pre, rfl, hB, hpos, hpre⟩
  · rw [hl] at hl'; cases hl'
  have hblt : b < H.length := (List.getElem?_eq_some_iff.1 hB).1
  have hsz : szOk 3 (pre ++ srow s :: l.map srow) = true := szOk_all (all3 (l := s :: l) hpre)
  rw [callW_eqO (fn := fn15) rfl rfl]
  rw [hl] at hB
  simp only [List.map_cons, srow] at hB hsz
  have hne0 : ¬ ((l.length : Int) + 1 = 0) := by omega
  simp [-getElem?_pos, fn15, hR, Ring.row, hne0, hl, hr, hlt, hblt, hB, hsz, List.getElem?_append_left]

theorem first_2 {R : Nat} {v : IV} {r : Ring} {s : Int × Bool × Int} {l : List (Int × Bool × Int)} (h : RingAt H R v r) (hl : r.l = s :: l) : doCall (callW pg) ro 2 (.fn 15 []) [.ptr R 0 0 0] H = some (.tup [.agg [.int .i64 s.1, .bool s.2.1, .int .i64 s.2.2], .bool true], H) := by
  obtain ⟨H2, h⟩ := first_c h hl (ro := H.length) (Nat.le_refl _)
  exact call2 (args' := [.ptr R 0 0 0]) (by simp) h rfl (.inl rfl)

theorem len_2 {R : Nat} {v : IV} {r : Ring} (h : RingAt H R v r) : doCall (callW pg) ro 2 (.fn 14 []) [.ptr R 0 0 0] H = some (.int .i64 r.l.length, H) :=
  call2 (args' := [.ptr R 0 0 0]) (by simp) (len_c h) rfl (.inl rfl)

theorem of1_2 : doCall (callW pg) ro 2 (.fn 10 []) [.int .i64 1] H = some (.agg [.bool false, .int .i64 1000000], H) := of_2 (n := 1) (by decide) (by decide)

namespace Bnd

def smp (j : Nat) : Int × Bool × Int := (j, false, 1000000)
def seg : Nat → Nat → List (Int × Bool × Int)
  | _, 0 => []
  | a, n + 1 => smp a :: seg (a + 1) n
theorem smp_t {j : Nat} : (smp j).1 = j := rfl
theorem seg_snoc : ∀ (n a : Nat), seg a (n + 1) = seg a n ++ [smp (a + n)]
  | 0, a => rfl
  | n + 1, a => by
    rw [seg, seg_snoc n (a + 1), seg]
    simp [Nat.add_assoc, Nat.add_comm 1 n]
theorem strip_seg {c : Int} : ∀ (n a : Nat), c < a → strip c (seg a n) = seg a n
  | 0, _, _ => rfl
  | n + 1, a, h => by
    rw [seg, strip, smp_t, if_neg (by omega)]
theorem strip_all {c : Int} : ∀ (n a : Nat), ((a + n : Nat) : Int) ≤ c + 1 → strip c (seg a n) = []
  | 0, _, _ => rfl
  | n + 1, a, h => by
    rw [seg, strip, smp_t, if_pos (by omega)]; exact strip_all n (a + 1) (by omega)
theorem len_seg : ∀ (n a : Nat), (seg a n).length = n
  | 0, _ => rfl
  | n + 1, a => by simp [seg, len_seg n]
theorem mem_seg : ∀ (n a : Nat) {s}, s ∈ seg a n → ∃ j, s = smp j
  | 0, _, s, h => by simp [seg] at h
  | n + 1, a, s, h => by
    rcases List.mem_cons.1 h with rfl | h
    · exact ⟨a, rfl⟩
    · exact mem_seg n (a + 1) h
theorem sum_seg : ∀ (n a : Nat), sumS (seg a n) = n * 1000000 ∧ cntO (seg a n) = 0
  | 0, _ => by simp [seg, sumS, cntO]
  | n + 1, a => by
    have h1 := sum_seg n (a + 1)
    simp only [seg, sumS, cntO, h1.1, h1.2]
    simp [smp, sv, so]
    omega

/-- The ring ahead of round i. -/
def rg (k i : Nat) : Ring := ⟨k, ((i - 1 : Nat) : Int), (i : Int) - 1, seg (i - k) (min i k)⟩

theorem ok_of {k : Nat} {now last : Int} {a n : Nat} (hk : 1 ≤ k) (hk2 : k ≤ 100) (h1 : 0 ≤ now) (h2 : now ≤ 1000000) (h3 : n ≤ 1000000) : RingOk ⟨k, now, last, seg a n⟩ := by
  refine ⟨by simp; omega, by simp; omega, h1, h2, by simp [len_seg]; omega, fun s hs => ?_⟩
  obtain ⟨j, rfl⟩ := mem_seg _ _ hs
  intro _
  simp [smp]

theorem rg_adv {k i : Nat} (hk : 1 ≤ k) (hi : i ≤ 1000) : (rg k i).adv i = ⟨k, i, (i : Int) - 1, seg (i + 1 - k) (min i (k - 1))⟩ := by
  have e1 : max ((i - 1 : Nat) : Int) (min (i : Int) 1000000) = i := by omega
  simp only [Ring.adv, rg, e1]
  congr 1
  by_cases h : i < k
  · rw [strip_seg _ _ (by omega), show i - k = i + 1 - k by omega, show min i k = min i (k - 1) by omega]
  · have e2 : min i k = (k - 1) + 1 := by omega
    have e3 : min i (k - 1) = k - 1 := by omega
    have e4 : i - k + 1 = i + 1 - k := by omega
    rw [e2, e3, seg, strip, smp_t, if_pos (by omega), e4, strip_seg _ _ (by omega)]

theorem rg_add {k i : Nat} (hk : 1 ≤ k) (hk2 : k ≤ 100) (hi : i ≤ 1000) : Ring.add ⟨k, i, (i : Int) - 1, seg (i + 1 - k) (min i (k - 1))⟩ (smp i) = rg k (i + 1) ∧ takes k i ((i : Int) - 1) i = 0 := by
  have w1 : IntKind.i64.wrap ((i : Int) - k) = i - k := by rw [IntKind.wrap_i64]; omega
  have ht : takes k i ((i : Int) - 1) i = 0 := by
    unfold takes; rw [w1, if_neg (by omega), if_neg (by omega)]
  refine ⟨?_, ht⟩
  have hh : heldS (smp i) = smp i := by simp [heldS, smp, okNum]
  have e0 : (smp i).1 = (i : Int) := rfl
  simp only [Ring.add, e0, ht, if_true, hh]
  have e2 : min (i + 1) k = min i (k - 1) + 1 := by omega
  have e3 : i + 1 - k + min i (k - 1) = i := by omega
  simp only [rg, e2, seg_snoc, e3]
  simp

theorem L0_eq {e : Env} : runW pg 0 fn4L0 e H = seqO pg 0 fn4L0 (runW pg 0 fn4B0 (keepE [1, 5, 6, 7] e) H) := runW_loopO

theorem body {R k i m : Nat} {n : Int} {v : IV} (hk : 1 ≤ k) (hk2 : k ≤ 100) (hm : (m : Int) = n % 400) (hn : 0 ≤ n) (hi : i ≤ m) (h : RingAt H R v (rg k i)) : ∃ H' v', RingAt H' R v' (rg k (i + 1)) ∧
    runW pg 0 fn4B0 [(1, .int .u16 n), (5, .int .i64 k), (6, .ptr R 0 0 0), (7, .int .i64 i)] H = some (.nrm, [(1, .int .u16 n), (5, .int .i64 k), (6, .ptr R 0 0 0), (7, .int .i64 ((i : Int) + 1))], H') := by
  have hm400 : m < 400 := by omega
  obtain ⟨H2, v2, hadv, hat2, _, _⟩ := adv_c (n := i) h (ok_of hk hk2 (by omega) (by omega) (by omega))
  rw [rg_adv hk (by omega)] at hat2
  obtain ⟨hadd, htk⟩ := rg_add (k := k) (i := i) hk hk2 (by omega)
  obtain ⟨H3, v3, hadc, hat3, _, _⟩ := add_yes (s := smp i) hat2 (ok_of hk hk2 (by omega) (by omega) (by omega)) htk (by simp [smp]) (by simp [smp])
  rw [hadd] at hat3
  simp only [smp] at hadc
  have hl : (rg k (i + 1)).l = smp (i + 1 - k) :: seg (i + 1 - k + 1) (min i (k - 1)) := by
    have e2 : min (i + 1) k = min i (k - 1) + 1 := by omega
    simp only [rg, e2, seg]
  have hlen := fun ro => len_2 (ro := ro) hat3
  have hsum := fun ro => sum_2 (ro := ro) hat3 (ok_of hk hk2 (by omega) (by omega) (by omega))
  have hfst := fun ro => first_2 (ro := ro) hat3 hl
  have hs1 : sumNum (sumS (rg k (i + 1)).l) (cntO (rg k (i + 1)).l) = .agg [.bool false, .int .i64 (min ((i : Int) + 1) k * 1000000)] := by
    have := sum_seg (min (i + 1) k) (i + 1 - k)
    simp only [rg]
    rw [this.1, this.2]
    have e : ((min (i + 1) k : Nat) : Int) = min ((i : Int) + 1) k := by omega
    rw [e]
    unfold sumNum
    rw [if_neg (by omega)]
  have hl1 : ((rg k (i + 1)).l.length : Int) = min ((i : Int) + 1) k := by
    simp only [rg, len_seg]; omega
  rw [hs1] at hsum
  rw [hl1] at hlen
  simp only [smp] at hfst
  have t1 : binV .rem (.int .u16 n) (.int .u16 400) = some (.int .u16 m) := by rw [bin_rem (by decide), Int.tmod_eq_emod_of_nonneg hn, hm]
  have w0 : IntKind.i64.wrap (m : Int) = m := by rw [IntKind.wrap_i64]; omega
  have w1 : IntKind.i64.wrap ((i : Int) + 1) = i + 1 := by rw [IntKind.wrap_i64]; omega
  have w2 : IntKind.i64.wrap ((i : Int) - k) = i - k := by rw [IntKind.wrap_i64]; omega
  have w3 : IntKind.i64.wrap ((i : Int) - k + 1) = i - k + 1 := by rw [IntKind.wrap_i64]; omega
  have hle : (i : Int) ≤ m := by omega
  have hof := fun (ro : Nat) (H : Hp) => of_2 (ro := ro) (H := H) (n := min ((i : Int) + 1) k) (by omega) (by omega)
  have hmx : ((i + 1 - k : Nat) : Int) = max 0 ((i : Int) - k + 1) := by omega
  rw [hmx] at hfst
  refine ⟨_, v3, hat3.app [{ rows := [[.int .i64 (max 0 ((i : Int) - k + 1)), .bool false, .int .i64 1000000]] }], ?_⟩
  simp [-getElem?_pos, fn4B0, t1, w0, hle, hadv, of1_2, hadc, hlen, w1, hsum, hof, hfst, w2, w3]

theorem outer {R k m : Nat} {n : Int} (hk : 1 ≤ k) (hk2 : k ≤ 100) (hm : (m : Int) = n % 400) (hn : 0 ≤ n) : ∀ (d i : Nat) (H : Hp) (v : IV), i + d = m + 1 → RingAt H R v (rg k i) →
    ∃ H' v', RingAt H' R v' (rg k (m + 1)) ∧ runW pg 0 fn4L0 [(1, .int .u16 n), (5, .int .i64 k), (6, .ptr R 0 0 0), (7, .int .i64 i)] H = some (.exit 0, [(1, .int .u16 n), (5, .int .i64 k), (6, .ptr R 0 0 0), (7, .int .i64 ((m : Int) + 1)), (23, .bool false)], H')
  | 0, i, H, v, hd, h => by
    have e : i = m + 1 := by omega
    subst e
    have t1 : binV .rem (.int .u16 n) (.int .u16 400) = some (.int .u16 m) := by rw [bin_rem (by decide), Int.tmod_eq_emod_of_nonneg hn, hm]
    have w0 : IntKind.i64.wrap (m : Int) = m := by rw [IntKind.wrap_i64]; omega
    have hf : ¬ ((m : Int) + 1 ≤ m) := by omega
    refine ⟨H, v, h, ?_⟩
    rw [L0_eq]
    simp [fn4B0, t1, w0, hf]
  | d + 1, i, H, v, hd, h => by
    obtain ⟨H1, v1, h1, hb⟩ := body hk hk2 hm hn (i := i) (by omega) h
    obtain ⟨H2, v2, h2, hr⟩ := outer hk hk2 hm hn d (i + 1) H1 v1 (by omega) h1
    push_cast at hr
    refine ⟨H2, v2, h2, ?_⟩
    rw [L0_eq]
    simp [hb, hr]

theorem law {a n : Int} (ha0 : 0 ≤ a) (ha : a < 256) (hn0 : 0 ≤ n) (hn : n < 65536) : ∃ H', callW pg 0 4 [.int .u8 a, .int .u16 n] [] = some (.bool true, H') := by
  obtain ⟨Hk, hkn⟩ := known_c
  have hk2 : doCall (callW pg) 0 2 (.fn 8 []) [] [] = some (.bool true, []) := call2p hkn rfl rfl
  obtain ⟨k, hkk⟩ : ∃ k : Nat, (k : Int) = a % 100 + 1 := ⟨(a % 100 + 1).toNat, by omega⟩
  obtain ⟨m, hm⟩ : ∃ m : Nat, (m : Int) = n % 400 := ⟨(n % 400).toNat, by omega⟩
  have hnew := new_c (ro := 0) (H := []) (n := (k : Int)) (Nat.le_refl _)
  have hmin : min (max (k : Int) 1) 100 = k := by omega
  rw [hmin] at hnew
  have t1 : binV .rem (.int .u8 a) (.int .u8 100) = some (.int .u8 (a % 100)) := by rw [bin_rem (by decide), Int.tmod_eq_emod_of_nonneg ha0]
  have t2 : binV .rem (.int .u16 n) (.int .u16 400) = some (.int .u16 m) := by rw [bin_rem (by decide), Int.tmod_eq_emod_of_nonneg hn0, hm]
  have w1 : IntKind.i64.wrap (a % 100) = a % 100 := by rw [IntKind.wrap_i64]; omega
  have w2 : IntKind.i64.wrap (a % 100 + 1) = k := by rw [IntKind.wrap_i64]; omega
  have w3 : IntKind.i64.wrap (m : Int) = m := by rw [IntKind.wrap_i64]; omega
  have w4 : IntKind.i64.wrap ((m : Int) + k) = m + k := by rw [IntKind.wrap_i64]; omega
  have hat : RingAt [{ rows := [Ring.row ⟨k, 0, -1, []⟩ .nsl] }] 0 .nsl (rg k 0) := ⟨by simp [rg, Ring.row, seg], .inl ⟨rfl, by simp [rg, seg]⟩, by simp [blkV]⟩
  obtain ⟨H1, v1, h1, hr⟩ := outer (k := k) (m := m) (n := n) (by omega) (by omega) hm hn0 (m + 1) 0 _ _ (by omega) hat
  obtain ⟨H2, v2, hadv, h2, _, _⟩ := adv_c (n := (m : Int) + k) h1 (ok_of (by omega) (by omega) (by omega) (by omega) (by omega))
  have hr2 : (rg k (m + 1)).adv ((m : Int) + k) = ⟨k, (m : Int) + k, m, []⟩ := by
    have e1 : max ((m + 1 - 1 : Nat) : Int) (min ((m : Int) + k) 1000000) = (m : Int) + k := by omega
    simp only [Ring.adv, rg, e1]
    rw [strip_all _ _ (by omega)]
    congr 1
    push_cast; omega
  rw [hr2] at h2
  have hlen := fun ro => len_2 (ro := ro) h2
  have htk : takes k ((m : Int) + k) m m = 152 := by
    have w : IntKind.i64.wrap ((m : Int) + k - k) = m := by rw [IntKind.wrap_i64]; omega
    unfold takes; rw [w, if_pos (by omega)]
  have hadd := add_no (s := ((m : Int), false, 1000000)) h2 (by show takes k ((m : Int) + k) m m ≠ 0; rw [htk]; decide)
  simp only [htk, srow] at hadd
  simp at hnew hr hadd
  rw [callW_eqO (fn := fn4) rfl rfl]
  simp [-getElem?_pos, fn4, hk2, hnew, t1, t2, w1, w2, w3, w4, hr, hadv, hlen, of1_2, hadd]

theorem wf {a n : Int} (h0 : (Lit.int .u8 a).wf = true) (h1 : (Lit.int .u16 n).wf = true) : ∃ H', callW pg 0 4 [.int .u8 a, .int .u16 n] [] = some (.bool true, H') := by
  simp [Lit.wf, IntKind.min, IntKind.max, IntKind.signed, IntKind.bits] at h0 h1
  exact law (by omega) (by omega) (by omega) (by omega)

end Bnd
end Go.Proofs.Ytdaajnaphkepmaa
