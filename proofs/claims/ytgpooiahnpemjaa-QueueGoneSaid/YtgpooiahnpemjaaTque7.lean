/- The law 'QueueDrops'. -/
import Derived.Test.YtgpooiahnpemjaaTque6
namespace Go.Proofs.Ytgpooiahnpemjaa
open Go Go.Vs
variable {ro : Nat} {H : Hp}

namespace Drp

/-- The latest drops, of m. -/
def dl (m : Nat) : List Int := (List.range (min m 1000)).map fun j => ((m - min m 1000 + 1 + j : Nat) : Int)
theorem dl_len {m : Nat} : (dl m).length = min m 1000 := by simp [dl]
theorem dl_at {m j : Nat} (h : j < min m 1000) : (dl m)[j]? = some ((m - min m 1000 + 1 + j : Nat) : Int) := by
  rw [dl, List.getElem?_map, List.getElem?_range h]; rfl
theorem dl_put {m : Nat} : lastOf (dl m ++ [((m : Int) + 1)]) = dl (m + 1) := by
  apply List.ext_getElem?
  intro j
  unfold lastOf
  rw [List.getElem?_drop, List.length_append, dl_len, List.length_singleton]
  by_cases hj : j < min (m + 1) 1000
  · rw [dl_at hj]
    by_cases h1 : min m 1000 + 1 - 1000 + j < min m 1000
    · rw [List.getElem?_append_left (by rw [dl_len]; exact h1), dl_at h1]
      congr 1; omega
    · rw [List.getElem?_append_right (by rw [dl_len]; omega), dl_len]
      have : min m 1000 + 1 - 1000 + j - min m 1000 = 0 := by omega
      rw [this]
      show some ((m : Int) + 1) = _
      congr 1; omega
  · rw [List.getElem?_eq_none (by rw [List.length_append, dl_len, List.length_singleton]; omega), List.getElem?_eq_none (by rw [dl_len]; omega)]

structure D (q : Que) (i : Nat) : Prop where
  run : Run q (i - 6) i
  dr : q.dr = dl (i - 6)

theorem D.put {q : Que} {i : Nat} {t : Int} (h : D q i) : D (q.put t) (i + 1) := by
  have hr := h.run.put (t := t) (by omega)
  have e : (if 6 ≤ i - (i - 6) then i - 6 + 1 else i - 6) = i + 1 - 6 := by split <;> omega
  rw [e] at hr
  refine ⟨hr, ?_⟩
  have hlen := h.run.len
  show q.cut.dr = _
  unfold Que.cut
  cases hl : q.l with
  | nil =>
    rw [hl] at hlen
    simp at hlen
    have : i = 0 := by omega
    subst this
    exact h.dr
  | cons b l =>
    dsimp only
    have hb := h.run.at_ 0 b (by rw [hl]; rfl)
    rw [hl] at hlen
    split
    · rename_i h6
      have hi : 6 ≤ i := by rw [hlen] at h6; omega
      dsimp only
      rw [h.dr]
      have e1 : b.1 = ((i - 6 : Nat) : Int) + 1 := by simpa using hb
      rw [e1, dl_put]
      congr 1; omega
    · rename_i h6
      have e1 : i + 1 - 6 = i - 6 := by rw [hlen] at h6; omega
      rw [e1]; exact h.dr

theorem loop {k : Nat} (hk : k < 1500) : ∀ (d i : Nat) (H : Hp) (q : Que), i + d = k → D q i → Hold H (QO 0 q) →
    ∃ (H' : Hp) (q' : Que), runW pg 0 fn4L0 [(3, .ptr 0 0 0 0), (4, .int .i64 k), (5, .int .i64 i)] H = some (.exit 0, [(3, .ptr 0 0 0 0), (4, .int .i64 k), (5, .int .i64 k), (17, .bool false)], H') ∧ D q' k ∧ Hold H' (QO 0 q') := by
  have L : ∀ e H, runW pg 0 fn4L0 e H = seqO pg 0 fn4L0 (runW pg 0 fn4B0 (keepE [3, 4, 5] e) H) := fun e H => runW_loopO
  intro d
  induction d with
  | zero =>
    intro i H q hi hr h
    have : i = k := by omega
    subst this
    refine ⟨H, q, ?_, hr, h⟩
    rw [L]; simp [fn4B0]
  | succ d ih =>
    intro i H q hi hr h
    have hlen := hr.run.len
    have hdl := hr.dr
    have hdl2 : q.dr.length = min (i - 6) 1000 := by rw [hdl, dl_len]
    have hnx := hr.run.next
    obtain ⟨H1, hp, h1⟩ := put_h (t := 1) h ⟨by omega, by omega, by omega, by omega⟩
    obtain ⟨H', q', h2, h3, h4⟩ := ih (i + 1) H1 _ (by omega) hr.put h1
    refine ⟨H', q', ?_, h3, h4⟩
    have hlt : (i : Int) < k := by omega
    have w1 : IntKind.i64.wrap ((i : Int) + 1) = i + 1 := by rw [IntKind.wrap_i64]; omega
    push_cast at h2
    rw [L]
    simp [-getElem?_pos, fn4B0, hlt, hp, w1, h2]

theorem told {A : IV} {m : Nat} (hm : m < 1500) (hA : SlA A 1 ((dl m).map nrow)) : ∀ (d i : Nat), i + d = min m 1000 →
    ∃ e', runW pg 0 fn4L1 [(6, A), (7, .int .i64 m), (8, .int .i64 i)] H = some (.exit 2, e', H) := by
  have L : ∀ e, runW pg 0 fn4L1 e H = seqO pg 0 fn4L1 (runW pg 0 fn4B1 (keepE [6, 7, 8] e) H) := fun e => runW_loopO
  have hlen := hA.len
  rw [List.length_map, dl_len] at hlen
  obtain ⟨N, hN⟩ : ∃ N, N = min m 1000 := ⟨_, rfl⟩
  rw [← hN] at hlen
  rw [← hN]
  intro d
  induction d with
  | zero =>
    intro i hi
    have : i = N := by omega
    subst this
    refine ⟨[(6, A), (7, .int .i64 m), (8, .int .i64 i), (55, .bool false)], ?_⟩
    rw [L]; simp [fn4B1, hlen]
  | succ d ih =>
    intro i hi
    obtain ⟨e', hr⟩ := ih (i + 1) (by omega)
    refine ⟨e', ?_⟩
    have hlt : (i : Int) < N := by omega
    have w1 : IntKind.i64.wrap ((i : Int) + 1) = i + 1 := by rw [IntKind.wrap_i64]; omega
    have w2 : IntKind.i64.wrap ((m : Int) - N) = ((m - N : Nat) : Int) := by rw [IntKind.wrap_i64]; omega
    have w3 : IntKind.i64.wrap (((m - N : Nat) : Int) + 1) = ((m - N + 1 : Nat) : Int) := by rw [IntKind.wrap_i64]; omega
    have w4 : IntKind.i64.wrap (((m - N + 1 : Nat) : Int) + i) = ((m - N + 1 + i : Nat) : Int) := by rw [IntKind.wrap_i64]; omega
    have hrow : ((dl m).map nrow)[i]? = some [.int .i64 ((m - N + 1 + i : Nat) : Int)] := by
      rw [List.getElem?_map, dl_at (by omega), hN]; rfl
    have hidx := fun H => hA.idx H i (by rw [List.length_map, dl_len]; omega)
    push_cast at hr
    obtain ⟨X, hX⟩ : ∃ X : Int, X = ((m - N + 1 + i : Nat) : Int) := ⟨_, rfl⟩
    obtain ⟨Y, hY⟩ : ∃ Y : Int, Y = ((m - N + 1 : Nat) : Int) := ⟨_, rfl⟩
    obtain ⟨Z, hZ⟩ : ∃ Z : Int, Z = ((m - N : Nat) : Int) := ⟨_, rfl⟩
    rw [← hX] at w4 hrow
    rw [← hY] at w3 w4
    rw [← hZ] at w2 w3
    rw [L]
    simp [-getElem?_pos, fn4B1, hlen, hlt, hidx, hrow, w1, w2, w3, w4, hr]

theorem law {n : Int} (hn : 0 ≤ n ∧ n < 65536) : ∃ H', callW pg 0 4 [.int .u16 n] [] = some (.bool true, H') := by
  rw [callW_eqO (fn := fn4) rfl rfl]
  obtain ⟨k, hk⟩ : ∃ k : Nat, (k : Int) = n % 1500 := ⟨(n % 1500).toNat, by omega⟩
  have hk20 : k < 1500 := by omega
  have hrem : binV .rem (.int .u16 n) (.int .u16 1500) = some (.int .u16 k) := by rw [bin_rem (by decide), Int.tmod_eq_emod_of_nonneg hn.1, hk]
  have w1 : IntKind.i64.wrap (k : Int) = k := by rw [IntKind.wrap_i64]; omega
  have w2 : IntKind.i64.wrap ((k : Int) + 1) = k + 1 := by rw [IntKind.wrap_i64]; omega
  have w3 : IntKind.i64.wrap ((k : Int) - 6) = k - 6 := by rw [IntKind.wrap_i64]; omega
  obtain ⟨H1, q, hr, hD, h1⟩ := loop (k := k) hk20 k 0 _ ⟨[], [], 1⟩ (by omega) ⟨⟨rfl, rfl, by omega, by simp, by simp⟩, rfl⟩ start
  have hdl : q.dr.length = min (k - 6) 1000 := by rw [hD.dr, dl_len]
  obtain ⟨vd, v, hat⟩ := QO.at h1
  obtain ⟨vi, hdr, hsl⟩ := drops_2 (ro := 0) hat (by omega)
  have hnx := next_2 (ro := 0) hat
  rw [hD.run.next] at hnx
  have hlow := low_h (ro := 0) h1
  rw [hD.run.low] at hlow
  have hlen := hsl.len
  rw [List.length_map, hdl] at hlen
  rw [hD.dr] at hsl
  obtain ⟨e', ht⟩ := told (H := H1) (m := k - 6) (by omega) hsl (min (k - 6) 1000) 0 (by omega)
  obtain ⟨M, hM⟩ : ∃ M : Int, M = ((k - 6 : Nat) : Int) := ⟨_, rfl⟩
  obtain ⟨N, hN⟩ : ∃ N : Int, N = ((min (k - 6) 1000 : Nat) : Int) := ⟨_, rfl⟩
  have e1 : max 0 ((k : Int) - 6) = M := by omega
  have e2 : min M 1000 = N := by omega
  have w4 : IntKind.i64.wrap (M + 1) = M + 1 := by rw [IntKind.wrap_i64]; omega
  rw [← hM] at ht hlow
  have hlen2 : lenV false vi = some (min (k - 6) 1000) := hlen
  have n1 := newQ (ro := 0) (H := [])
  simp at n1 hr
  simp only [Int.natCast_zero] at ht
  have eN : ((min (k - 6) 1000 : Nat) : Int) = N := hN.symm
  obtain ⟨N', hN'⟩ : ∃ N' : Nat, N' = min (k - 6) 1000 := ⟨_, rfl⟩
  rw [← hN'] at hlen eN
  refine ex_of_map ?_
  simp [-getElem?_pos, fn4, known_2, n1, hrem, w1, w2, w3, w4, hr, hdr, e1, e2, hlen, eN, hnx, hlow, ht]
theorem wf (x0 : (Ty.int .u16).den) (ok0 : (Ty.int .u16).ok x0) : ∃ H', callW pg 0 4 [(Ty.int .u16).arg x0] [] = some (.bool true, H') := law (wf_u16 _ ok0)
end Drp
end Go.Proofs.Ytgpooiahnpemjaa
