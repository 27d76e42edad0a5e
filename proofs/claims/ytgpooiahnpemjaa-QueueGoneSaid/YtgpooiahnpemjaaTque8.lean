/- The law 'QueueGone'. -/
import Derived.Test.YtgpooiahnpemjaaTque7
namespace Go.Proofs.Ytgpooiahnpemjaa
open Go Go.Vs
variable {ro : Nat} {H : Hp}

namespace Gone

structure G (q : Que) (lo top hi : Nat) : Prop where
  run : Run q lo hi
  tt : ∀ x ∈ q.l, x.2 = x.1
  le : ∀ x ∈ q.dr, x ≤ lo
  inc : ∀ (j : Nat) (x y : Int), q.dr[j]? = some x → q.dr[j + 1]? = some y → x < y
  tle : top ≤ lo
  last : top < lo → ∃ j : Nat, j + 1 = q.dr.length ∧ q.dr[j]? = some (lo : Int)

theorem G.put {q : Que} {lo top hi : Nat} (h : G q lo top hi) (h6 : hi - lo ≤ 6) (h1 : hi ≤ 900) : G (q.put (hi + 1 : Nat)) (if 6 ≤ hi - lo then lo + 1 else lo) top (hi + 1) := by
  have hr := h.run.put (t := (hi + 1 : Nat)) h6
  have hlen := h.run.len
  have hdl := h.run.dl
  have hle := h.run.le
  have hnx := h.run.next
  by_cases h5 : 6 ≤ hi - lo
  · obtain ⟨b, l, hl⟩ : ∃ b l, q.l = b :: l := by
      cases hl : q.l with
      | nil => rw [hl] at hlen; simp at hlen; omega
      | cons b l => exact ⟨b, l, rfl⟩
    have hb := h.run.at_ 0 b (by rw [hl]; rfl)
    have e1 : b.1 = (lo : Int) + 1 := by simpa using hb
    have hcut : q.cut = ⟨q.dr ++ [(lo : Int) + 1], l, q.next⟩ := by
      have e2 : lastOf (q.dr ++ [(lo : Int) + 1]) = q.dr ++ [(lo : Int) + 1] := by
        unfold lastOf
        have : (q.dr ++ [(lo : Int) + 1]).length - 1000 = 0 := by rw [List.length_append, List.length_singleton]; omega
        rw [this, List.drop_zero]
      unfold Que.cut; rw [hl]; dsimp only; rw [if_pos (by rw [← hl]; omega), e1, e2]
    have hput : q.put (hi + 1 : Nat) = ⟨q.dr ++ [(lo : Int) + 1], l ++ [(q.next, ((hi + 1 : Nat) : Int))], q.next + 1⟩ := by unfold Que.put; rw [hcut]
    rw [if_pos h5] at hr ⊢
    rw [hput] at hr ⊢
    refine ⟨hr, fun x hx => ?_, fun x hx => ?_, fun j x y hx hy => ?_, by have := h.tle; omega, fun _ => ⟨q.dr.length, by simp, by simp⟩⟩
    · simp only [List.mem_append, List.mem_singleton] at hx
      rcases hx with hx | rfl
      · exact h.tt x (by rw [hl]; exact List.mem_cons_of_mem _ hx)
      · dsimp only; omega
    · simp only [List.mem_append, List.mem_singleton] at hx
      rcases hx with hx | rfl
      · have := h.le x hx; omega
      · omega
    · dsimp only at hx hy
      by_cases hj : j + 1 < q.dr.length
      · rw [List.getElem?_append_left hj] at hy
        rw [List.getElem?_append_left (by omega)] at hx
        exact h.inc j x y hx hy
      · have := (List.getElem?_eq_some_iff.1 hy).1
        simp at this
        have e : j + 1 = q.dr.length := by omega
        rw [List.getElem?_append_left (by omega)] at hx
        rw [List.getElem?_append_right (by omega), e] at hy
        simp at hy
        have := h.le x (List.mem_of_getElem? hx)
        omega
  · have hcut : q.cut = q := by
      unfold Que.cut; split
      · rfl
      · rename_i b l e; rw [if_neg (by rw [← e]; omega)]
    have hput : q.put (hi + 1 : Nat) = ⟨q.dr, q.l ++ [(q.next, ((hi + 1 : Nat) : Int))], q.next + 1⟩ := by unfold Que.put; rw [hcut]
    rw [if_neg h5] at hr ⊢
    rw [hput] at hr ⊢
    refine ⟨hr, fun x hx => ?_, h.le, h.inc, h.tle, h.last⟩
    simp only [List.mem_append, List.mem_singleton] at hx
    rcases hx with hx | rfl
    · exact h.tt x hx
    · dsimp only; omega

theorem G.ack {q : Que} {lo top hi k : Nat} (h : G q lo top hi) (hk : k ≤ hi) : G (q.ack k) (max lo k) (max top k) hi ∧ ackE q k = 0 := by
  obtain ⟨hr, he⟩ := h.run.ack hk
  have hnx : ¬ q.next ≤ (k : Int) := by have := h.run.next; omega
  have hq : q.ack k = ⟨q.dr, kept k q.l, q.next⟩ := by unfold Que.ack; rw [if_neg hnx]
  refine ⟨?_, he⟩
  rw [hq] at hr ⊢
  refine ⟨hr, fun x hx => h.tt x (List.mem_filter.1 hx).1, fun x hx => by have := h.le x hx; omega, h.inc, by have := h.tle; omega, fun hlt => ?_⟩
  have e : max lo k = lo := by omega
  rw [e]
  exact h.last (by omega)

/-- All that waits, gone over. -/
theorem lin {Q : Nat} {a0 a1 A a11 : IV} {q : Que} {lo top i : Nat} (hG : G q lo top i) (hi : i ≤ 100) (hA : SlA A 4 (q.l.map brow)) : ∀ (d k : Nat), k + d = q.l.length →
    runW pg 0 fn3L0 [(0, a0), (1, a1), (5, .ptr Q 0 0 0), (6, .int .i64 top), (7, .int .i64 i), (9, A), (10, .int .i64 k)] H =
      some (.exit 2, [(0, a0), (1, a1), (5, .ptr Q 0 0 0), (6, .int .i64 top), (7, .int .i64 i), (9, A), (10, .int .i64 q.l.length), (70, .bool false)], H) := by
  have L : ∀ e, runW pg 0 fn3L0 e H = seqO pg 0 fn3L0 (runW pg 0 fn3B0 (keepE [0, 1, 5, 6, 7, 9, 10] e) H) := fun e => runW_loopO
  have hlen := hA.len
  rw [List.length_map] at hlen
  have hl := hG.run.len
  have hle := hG.run.le
  have htop := hG.tle
  intro d
  induction d with
  | zero =>
    intro k hk
    have : k = q.l.length := by omega
    subst this
    rw [L]; simp [fn3B0, hlen]
  | succ d ih =>
    intro k hk
    have hlt : k < q.l.length := by omega
    have hlt1 : (k : Int) < q.l.length := by omega
    obtain ⟨x, hx⟩ : ∃ x, q.l[k]? = some x := ⟨_, List.getElem?_eq_getElem hlt⟩
    have h1 := hG.run.at_ k x hx
    have h2 := hG.tt x (List.mem_of_getElem? hx)
    have hrow : (q.l.map brow)[k]? = some [.int .i64 x.1, .int .i64 x.1, .str gS, .nsl] := by rw [List.getElem?_map, hx]; simp [brow, h2]
    have hidx := fun H => hA.idx H k (by simpa using hlt)
    have w1 : IntKind.i64.wrap ((k : Int) + 1) = k + 1 := by rw [IntKind.wrap_i64]; omega
    have w2 : IntKind.i64.wrap ((i : Int) - q.l.length) = lo := by rw [IntKind.wrap_i64]; omega
    have w3 : IntKind.i64.wrap ((lo : Int) + 1) = lo + 1 := by rw [IntKind.wrap_i64]; omega
    have w4 : IntKind.i64.wrap ((lo : Int) + 1 + k) = x.1 := by rw [IntKind.wrap_i64]; omega
    have c1 : ¬ x.1 ≤ top := by omega
    have hih := ih (k + 1) (by omega)
    push_cast at hih
    rw [L]
    simp [-getElem?_pos, fn3B0, hlen, hlt1, hidx, hrow, w1, w2, w3, w4, c1, hih]

/-- All that was dropped, gone over. -/
theorem din {Q : Nat} {a0 a1 A D : IV} {q : Que} {lo top i : Nat} (hG : G q lo top i) (hi : i ≤ 100) (hD : SlA D 1 (q.dr.map nrow)) (hH : Hold H (QO Q q)) : ∀ (d k : Nat), k + d = q.dr.length →
    runW pg 0 fn3L1 [(0, a0), (1, a1), (5, .ptr Q 0 0 0), (6, .int .i64 top), (7, .int .i64 i), (9, A), (11, D), (12, .int .i64 k)] H =
      some (.exit 4, [(0, a0), (1, a1), (5, .ptr Q 0 0 0), (6, .int .i64 top), (7, .int .i64 i), (9, A), (11, D), (12, .int .i64 q.dr.length), (115, .bool false)], H) := by
  have L : ∀ e, runW pg 0 fn3L1 e H = seqO pg 0 fn3L1 (runW pg 0 fn3B1 (keepE [0, 1, 5, 6, 7, 9, 11, 12] e) H) := fun e => runW_loopO
  have hlen := hD.len
  rw [List.length_map] at hlen
  have hl := hG.run.dl
  have hle := hG.run.le
  have hlow := fun ro => low_h (ro := ro) hH
  rw [hG.run.low] at hlow
  intro d
  induction d with
  | zero =>
    intro k hk
    have : k = q.dr.length := by omega
    subst this
    rw [L]; simp [fn3B1, hlen]
  | succ d ih =>
    intro k hk
    have hlt : k < q.dr.length := by omega
    have hlt1 : (k : Int) < q.dr.length := by omega
    obtain ⟨x, hx⟩ : ∃ x, q.dr[k]? = some x := ⟨_, List.getElem?_eq_getElem hlt⟩
    have h1 := hG.le x (List.mem_of_getElem? hx)
    have hrow : (q.dr.map nrow)[k]? = some [.int .i64 x] := by rw [List.getElem?_map, hx]; rfl
    have hidx := fun H => hD.idx H k (by simpa using hlt)
    have w1 : IntKind.i64.wrap ((k : Int) + 1) = k + 1 := by rw [IntKind.wrap_i64]; omega
    have c1 : ¬ (lo : Int) + 1 ≤ x := by omega
    have hih := ih (k + 1) (by omega)
    push_cast at hih
    rw [L]
    cases k with
    | zero =>
      simp at hidx hih
      have wz : IntKind.i64.wrap 1 = 1 := by decide
      simp [-getElem?_pos, fn3B1, hlen, hlt, hidx, hrow, hlow, c1, wz, hih]
    | succ j =>
      obtain ⟨y, hy⟩ : ∃ y, q.dr[j]? = some y := ⟨_, List.getElem?_eq_getElem (by omega)⟩
      have h2 := hG.inc j y x hy hx
      have hrow2 : (q.dr.map nrow)[j]? = some [.int .i64 y] := by rw [List.getElem?_map, hy]; rfl
      have hidx2 := fun H => hD.idx H j (by simp; omega)
      have w2 : IntKind.i64.wrap ((j : Int) + 1 - 1) = j := by rw [IntKind.wrap_i64]; omega
      have w3 : IntKind.i64.wrap (j : Int) = j := by rw [IntKind.wrap_i64]; omega
      have p1 : (0 : Int) < (j : Int) + 1 := by omega
      have c2 : ¬ x ≤ y := by omega
      push_cast at hidx hlt1 w1 hih
      simp [-getElem?_pos, fn3B1, hlen, hlt1, hidx, hrow, hidx2, hrow2, hlow, c1, c2, p1, w1, w2, w3, hih]

def urow (n : Int) : List IV := [.int .u8 n]

theorem w4_ {i lo M : Nat} (h : M = i + 1 - lo) (h1 : lo ≤ i + 1) (h2 : i ≤ 100) : IntKind.i64.wrap ((i : Int) + 1 - M) = lo := by rw [IntKind.wrap_i64]; omega
theorem w5_ {DL j : Nat} (h : j + 1 = DL) (h2 : DL ≤ 1000) : IntKind.i64.wrap ((DL : Int) - 1) = j := by rw [IntKind.wrap_i64]; omega

theorem loop {A : IV} {l : List Int} (hA : SlA A 1 (l.map urow)) (hl : l.length ≤ 60) (hu : ∀ x ∈ l, 0 ≤ x ∧ x < 256) {n : Int} {N : Nat} (hn : 0 ≤ n ∧ n < 256) (hN : (N : Int) = n % 60) : ∀ (d i : Nat) (H : Hp) (q : Que) (lo top : Nat), i + d = N → i - lo ≤ 6 → G q lo top i → Hold H (QO 0 q) →
    ∃ (e' : Env) (H' : Hp), runW pg 0 fn3L2 [(0, .int .u8 n), (1, A), (5, .ptr 0 0 0 0), (6, .int .i64 top), (7, .int .i64 (i + 1 : Nat))] H = some (.exit 0, e', H') := by
  have L : ∀ e H, runW pg 0 fn3L2 e H = seqO pg 0 fn3L2 (runW pg 0 fn3B2 (keepE [0, 1, 5, 6, 7] e) H) := fun e H => runW_loopO
  have hrem : binV .rem (.int .u8 n) (.int .u8 60) = some (.int .u8 N) := by rw [bin_rem (by decide), Int.tmod_eq_emod_of_nonneg hn.1, hN]
  have wN : IntKind.i64.wrap (N : Int) = N := by rw [IntKind.wrap_i64]; omega
  have hlen := hA.len
  rw [List.length_map] at hlen
  intro d
  induction d with
  | zero =>
    intro i H q lo top hi h6 hG hH
    have : i = N := by omega
    subst this
    have h1 : ¬ ((i : Int) + 1 ≤ i) := by omega
    refine ⟨[(0, .int .u8 n), (1, A), (5, .ptr 0 0 0 0), (6, .int .i64 top), (7, .int .i64 (i + 1 : Nat)), (23, .bool false)], H, ?_⟩
    rw [L]; simp [fn3B2, hrem, wN, h1]
  | succ d ih =>
    intro i H q lo top hi h6 hG hH
    have hql := hG.run.len
    have hdl := hG.run.dl
    have hle := hG.run.le
    have hnx := hG.run.next
    have h1 : (i : Int) + 1 ≤ N := by omega
    have hi100 : i ≤ 100 := by omega
    have w1 : IntKind.i64.wrap ((i : Int) + 1 + 1) = i + 1 + 1 := by rw [IntKind.wrap_i64]; omega
    have w2 : IntKind.i64.wrap ((i : Int) + 1 - 1) = i := by rw [IntKind.wrap_i64]; omega
    have w3 : IntKind.i64.wrap (i : Int) = i := by rw [IntKind.wrap_i64]; omega
    obtain ⟨H1, hp, hH1⟩ := put_h (t := (i + 1 : Nat)) hH ⟨by omega, by omega, by omega, by omega⟩
    have hG1 := hG.put h6 (by omega)
    rw [hnx] at hp
    push_cast at hp
    -- the rest of a round
    have rest : ∀ (H2 : Hp) (q2 : Que) (lo2 top2 : Nat), i + 1 - lo2 ≤ 6 → G q2 lo2 top2 (i + 1) → Hold H2 (QO 0 q2) →
        ∃ (vi vd : IV), doCall (callW pg) 0 2 (.fn 13 []) [.ptr 0 0 0 0] H2 = some (vi, H2) ∧ lenV false vi = some (i + 1 - lo2) ∧ doCall (callW pg) 0 2 (.fn 14 []) [.ptr 0 0 0 0] H2 = some (vd, H2) ∧ lenV false vd = some q2.dr.length ∧
          (top2 < lo2 → 0 < q2.dr.length ∧ ∃ j : Nat, j + 1 = q2.dr.length ∧ (∀ H, idx H 1 vd j = some (.eptr (q2.dr.map nrow) j 0)) ∧ q2.dr[j]? = some (lo2 : Int)) ∧
          runW pg 0 fn3L0 [(0, .int .u8 n), (1, A), (5, .ptr 0 0 0 0), (6, .int .i64 top2), (7, .int .i64 ((i : Int) + 1)), (9, vi), (10, .int .i64 0)] H2 =
            some (.exit 2, [(0, .int .u8 n), (1, A), (5, .ptr 0 0 0 0), (6, .int .i64 top2), (7, .int .i64 ((i : Int) + 1)), (9, vi), (10, .int .i64 ((i + 1 - lo2 : Nat) : Int)), (70, .bool false)], H2) ∧
          runW pg 0 fn3L1 [(0, .int .u8 n), (1, A), (5, .ptr 0 0 0 0), (6, .int .i64 top2), (7, .int .i64 ((i : Int) + 1)), (9, vi), (11, vd), (12, .int .i64 0)] H2 =
            some (.exit 4, [(0, .int .u8 n), (1, A), (5, .ptr 0 0 0 0), (6, .int .i64 top2), (7, .int .i64 ((i : Int) + 1)), (9, vi), (11, vd), (12, .int .i64 q2.dr.length), (115, .bool false)], H2) := by
      intro H2 q2 lo2 top2 h62 hG2 hH2
      have hql2 := hG2.run.len
      have hle2 := hG2.run.le
      have hdl2 := hG2.run.dl
      obtain ⟨x, v, hat⟩ := QO.at hH2
      obtain ⟨vi, ha, hsl⟩ := all_2 (ro := 0) hat (by omega)
      obtain ⟨vd, hd, hsd⟩ := drops_2 (ro := 0) hat (by omega)
      have l1 := hsl.len
      have l2 := hsd.len
      rw [List.length_map] at l1 l2
      rw [hql2] at l1
      have r1 := lin (H := H2) (Q := 0) (a0 := .int .u8 n) (a1 := A) (a11 := .und) hG2 (by omega) hsl q2.l.length 0 (by omega)
      have r2 := din (H := H2) (Q := 0) (a0 := .int .u8 n) (a1 := A) (A := vi) hG2 (by omega) hsd hH2 q2.dr.length 0 (by omega)
      rw [hql2] at r1
      push_cast at r1 r2
      refine ⟨vi, vd, ha, l1, hd, l2, fun ht => ?_, ?_, ?_⟩
      · obtain ⟨j, h1, h2⟩ := hG2.last ht
        exact ⟨by omega, j, h1, fun H => hsd.idx H j (by rw [List.length_map]; omega), h2⟩
      · exact r1
      · exact r2
    obtain ⟨lo1, hlo1⟩ : ∃ lo1, lo1 = if 6 ≤ i - lo then lo + 1 else lo := ⟨_, rfl⟩
    rw [← hlo1] at hG1
    have h61 : i + 1 - lo1 ≤ 6 := by rw [hlo1]; split <;> omega
    have hle1 := hG1.run.le
    by_cases hia : i < l.length
    · obtain ⟨a, hla⟩ : ∃ a, l[i]? = some a := ⟨_, List.getElem?_eq_getElem hia⟩
      have hia1 : (i : Int) < l.length := by omega
      have hidx := fun H => hA.idx H i (by simpa using hia)
      have hrow : (l.map urow)[i]? = some [.int .u8 a] := by rw [List.getElem?_map, hla]; rfl
      have hua := hu a (List.mem_of_getElem? hla)
      have hr3 : binV .rem (.int .u8 a) (.int .u8 3) = some (.int .u8 (a % 3)) := by rw [bin_rem (by decide), Int.tmod_eq_emod_of_nonneg hua.1]
      by_cases h3 : a % 3 = 0
      · obtain ⟨k, hk⟩ : ∃ k : Nat, (k : Int) = a / 3 % ((i : Int) + 1 + 1) := ⟨(a / 3 % ((i : Int) + 1 + 1)).toNat, by have := Int.emod_nonneg (a / 3) (show (i : Int) + 1 + 1 ≠ 0 by omega); omega⟩
        have hk2 : k ≤ i + 1 := by have := Int.emod_lt_of_pos (a / 3) (show (0 : Int) < (i : Int) + 1 + 1 by omega); omega
        have wa : IntKind.i64.wrap a = a := by rw [IntKind.wrap_i64]; omega
        have hq3 : binV .quo (.int .i64 a) (.int .i64 3) = some (.int .i64 (a / 3)) := by
          rw [bin_quo (by decide), Int.tdiv_eq_ediv_of_nonneg hua.1]; congr 2; rw [IntKind.wrap_i64]; omega
        have hrk : binV .rem (.int .i64 (a / 3)) (.int .i64 ((i : Int) + 1 + 1)) = some (.int .i64 k) := by
          rw [bin_rem (by omega), Int.tmod_eq_emod_of_nonneg (by omega), hk]
        have hql1 := hG1.run.len
        obtain ⟨H2, hack, hH2⟩ := ack_h (n := (k : Int)) hH1 (by omega)
        obtain ⟨hG2, hE⟩ := hG1.ack hk2
        rw [hE] at hack
        have h62 : i + 1 - max lo1 k ≤ 6 := by omega
        have hmx : max (top : Int) (k : Int) = ((max top k : Nat) : Int) := by omega
        obtain ⟨Q2, hQ2⟩ : ∃ Q2, Q2 = (q.put (i + 1 : Nat)).ack k := ⟨_, rfl⟩
        obtain ⟨lo2, hlo2⟩ : ∃ lo2, lo2 = max lo1 k := ⟨_, rfl⟩
        obtain ⟨top2, htop2⟩ : ∃ top2, top2 = max top k := ⟨_, rfl⟩
        rw [← hQ2, ← hlo2, ← htop2] at hG2
        rw [← hQ2] at hH2
        rw [← hlo2] at h62
        rw [← htop2] at hmx
        have hdl1000 : Q2.dr.length ≤ 1000 := by have := hG2.run.dl; have := hG2.run.le; omega
        obtain ⟨vi, vd, r1, r2, r3, r4, r5, r6, r7⟩ := rest H2 Q2 lo2 top2 h62 hG2 hH2
        obtain ⟨e', H', hr⟩ := ih (i + 1) H2 Q2 lo2 top2 (by omega) h62 hG2 hH2
        have hle2 := hG2.run.le
        rw [← hmx] at hr r6 r7
        refine ⟨e', H', ?_⟩
        obtain ⟨M, hM⟩ : ∃ M, M = i + 1 - lo2 := ⟨_, rfl⟩
        rw [← hM] at r2 r6
        obtain ⟨DL, hDL⟩ : ∃ DL, DL = Q2.dr.length := ⟨_, rfl⟩
        rw [← hDL] at r4 r5 r7
        have w4 := w4_ hM hle2 hi100
        have c6 : ¬ (6 : Int) < M := by omega
        have c62 : ¬ 6 < M := by omega
        push_cast at hr
        rw [L]
        by_cases ht : top2 < lo2
        · obtain ⟨d0, j, hj, dx, dr⟩ := r5 ht
          have d1 : ¬ DL = 0 := by omega
          have ht1 : max (top : Int) (k : Int) < lo2 := by rw [hmx]; omega
          have w5 := w5_ hj (by rw [hDL]; exact hdl1000)
          simp [-getElem?_pos, fn3B2, hrem, wN, h1, hp, w1, w2, w3, hlen, hia, hia1, hidx, hrow, hr3, h3, wa, hq3, hrk, hack, r1, r2, r3, r4, r6, r7, c6, c62, w4, ht, ht1, d1, w5, dx, dr, nrow, hr]
        · have ht1 : ¬ max (top : Int) (k : Int) < lo2 := by rw [hmx]; omega
          simp [-getElem?_pos, fn3B2, hrem, wN, h1, hp, w1, w2, w3, hlen, hia, hia1, hidx, hrow, hr3, h3, wa, hq3, hrk, hack, r1, r2, r3, r4, r6, r7, c6, c62, w4, ht, ht1, hr]
      · obtain ⟨Q2, hQ2⟩ : ∃ Q2, Q2 = q.put (i + 1 : Nat) := ⟨_, rfl⟩
        obtain ⟨lo2, hlo2⟩ : ∃ lo2, lo2 = lo1 := ⟨_, rfl⟩
        obtain ⟨top2, htop2⟩ : ∃ top2, top2 = top := ⟨_, rfl⟩
        rw [← hQ2, ← hlo2, ← htop2] at hG1
        rw [← hQ2] at hH1
        have h62 : i + 1 - lo2 ≤ 6 := by rw [hlo2]; exact h61
        subst htop2
        have hdl1000 : Q2.dr.length ≤ 1000 := by have := hG1.run.dl; have := hG1.run.le; omega
        obtain ⟨vi, vd, r1, r2, r3, r4, r5, r6, r7⟩ := rest H1 Q2 lo2 top2 h62 hG1 hH1
        obtain ⟨e', H', hr⟩ := ih (i + 1) H1 Q2 lo2 top2 (by omega) h62 hG1 hH1
        have hle2 := hG1.run.le
        refine ⟨e', H', ?_⟩
        obtain ⟨M, hM⟩ : ∃ M, M = i + 1 - lo2 := ⟨_, rfl⟩
        rw [← hM] at r2 r6
        obtain ⟨DL, hDL⟩ : ∃ DL, DL = Q2.dr.length := ⟨_, rfl⟩
        rw [← hDL] at r4 r5 r7
        have w4 := w4_ hM hle2 hi100
        have c6 : ¬ (6 : Int) < M := by omega
        have c62 : ¬ 6 < M := by omega
        push_cast at hr
        rw [L]
        by_cases ht : top2 < lo2
        · obtain ⟨d0, j, hj, dx, dr⟩ := r5 ht
          have d1 : ¬ DL = 0 := by omega
          have ht1 : (top2 : Int) < lo2 := by omega
          have w5 := w5_ hj (by rw [hDL]; exact hdl1000)
          simp [-getElem?_pos, fn3B2, hrem, wN, h1, hp, w1, w2, w3, hlen, hia, hia1, hidx, hrow, hr3, h3, r1, r2, r3, r4, r6, r7, c6, c62, w4, ht, ht1, d1, w5, dx, dr, nrow, hr]
        · have ht1 : ¬ (top2 : Int) < lo2 := by omega
          simp [-getElem?_pos, fn3B2, hrem, wN, h1, hp, w1, w2, w3, hlen, hia, hia1, hidx, hrow, hr3, h3, r1, r2, r3, r4, r6, r7, c6, c62, w4, ht, ht1, hr]
    · have hia1 : ¬ (i : Int) < l.length := by omega
      obtain ⟨Q2, hQ2⟩ : ∃ Q2, Q2 = q.put (i + 1 : Nat) := ⟨_, rfl⟩
      obtain ⟨lo2, hlo2⟩ : ∃ lo2, lo2 = lo1 := ⟨_, rfl⟩
      obtain ⟨top2, htop2⟩ : ∃ top2, top2 = top := ⟨_, rfl⟩
      rw [← hQ2, ← hlo2, ← htop2] at hG1
      rw [← hQ2] at hH1
      have h62 : i + 1 - lo2 ≤ 6 := by rw [hlo2]; exact h61
      subst htop2
      have hdl1000 : Q2.dr.length ≤ 1000 := by have := hG1.run.dl; have := hG1.run.le; omega
      obtain ⟨vi, vd, r1, r2, r3, r4, r5, r6, r7⟩ := rest H1 Q2 lo2 top2 h62 hG1 hH1
      obtain ⟨e', H', hr⟩ := ih (i + 1) H1 Q2 lo2 top2 (by omega) h62 hG1 hH1
      have hle2 := hG1.run.le
      refine ⟨e', H', ?_⟩
      obtain ⟨M, hM⟩ : ∃ M, M = i + 1 - lo2 := ⟨_, rfl⟩
      rw [← hM] at r2 r6
      obtain ⟨DL, hDL⟩ : ∃ DL, DL = Q2.dr.length := ⟨_, rfl⟩
      rw [← hDL] at r4 r5 r7
      have w4 := w4_ hM hle2 hi100
      have c6 : ¬ (6 : Int) < M := by omega
      have c62 : ¬ 6 < M := by omega
      push_cast at hr
      rw [L]
      by_cases ht : top2 < lo2
      · obtain ⟨d0, j, hj, dx, dr⟩ := r5 ht
        have d1 : ¬ DL = 0 := by omega
        have ht1 : (top2 : Int) < lo2 := by omega
        have w5 := w5_ hj (by rw [hDL]; exact hdl1000)
        simp [-getElem?_pos, fn3B2, hrem, wN, h1, hp, w1, w2, w3, hlen, hia, hia1, r1, r2, r3, r4, r6, r7, c6, c62, w4, ht, ht1, d1, w5, dx, dr, nrow, hr]
      · have ht1 : ¬ (top2 : Int) < lo2 := by omega
        simp [-getElem?_pos, fn3B2, hrem, wN, h1, hp, w1, w2, w3, hlen, hia, hia1, r1, r2, r3, r4, r6, r7, c6, c62, w4, ht, ht1, hr]

theorem law {A : IV} {l : List Int} (hA : SlA A 1 (l.map urow)) (hu : ∀ x ∈ l, 0 ≤ x ∧ x < 256) {n : Int} (hn : 0 ≤ n ∧ n < 256) : ∃ H', callW pg 0 3 [.int .u8 n, A] [] = some (.bool true, H') := by
  have hlen := hA.len
  rw [List.length_map] at hlen
  rw [callW_eqO (fn := fn3) rfl rfl]
  by_cases h1 : 60 < l.length
  · have h1' : (60 : Int) < l.length := by omega
    exact ⟨[], by simp [fn3, known_2, hlen, h1, h1']⟩
  have h1' : ¬ (60 : Int) < l.length := by omega
  obtain ⟨N, hN⟩ : ∃ N : Nat, (N : Int) = n % 60 := ⟨(n % 60).toNat, by omega⟩
  obtain ⟨e', H', hr⟩ := loop hA (by omega) hu hn hN N 0 _ ⟨[], [], 1⟩ 0 0 (by omega) (by omega) ⟨⟨rfl, rfl, by omega, by simp, by simp⟩, by simp, by simp, by simp, by omega, by omega⟩ start
  have n1 := newQ (ro := 0) (H := [])
  simp at n1 hr
  exact ⟨H', by simp [-getElem?_pos, fn3, known_2, hlen, h1, h1', n1, hr]⟩

theorem urows (l : List Int) : l.map urow = l.map (Ty.int .u8).enc := rfl
theorem wf (x0 : (Ty.int .u8).den) (x1 : (Ty.sl (.int .u8)).den) (h0 : (Ty.int .u8).ok x0) (h1 : (Ty.sl (.int .u8)).ok x1) : ∃ H', callW pg 0 3 [(Ty.int .u8).arg x0, (Ty.sl (.int .u8)).arg x1] [] = some (.bool true, H') := by
  obtain ⟨l, hl, hx⟩ := sl_arg x1
  refine law (l := l) hl (fun x hx2 => ?_) (wf_u8 _ h0)
  rcases hx with ⟨_, rfl⟩ | rfl
  · cases hx2
  · exact wf_u8 _ ((h1 l rfl).2 x hx2)
end Gone
end Go.Proofs.Ytgpooiahnpemjaa
