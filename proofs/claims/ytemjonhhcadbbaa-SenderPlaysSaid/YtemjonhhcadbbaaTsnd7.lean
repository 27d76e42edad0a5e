/- A queue is told what was acknowledged. The laws 'SenderLow' and 'SenderAcked'. -/
import Derived.Test.YtemjonhhcadbbaaTsnd6
namespace Go.Proofs.Ytemjonhhcadbbaa
open Go Go.Vs
variable {ro : Nat} {H : Hp}

def Que.ack (q : Que) (n : Int) : Que := if q.next ≤ n then q else ⟨q.dr, kept n q.l, q.next⟩
def ackE (q : Que) (n : Int) : Int := if q.next ≤ n then 230 else 0

theorem ack_t {Q : Nat} {q : Que} {n : Int} (hl : q.l.length ≤ 1000) : Trip (QO Q q) (callW pg 0 16 [.ptr Q 0 0 0, .int .i64 n]) (.int .i64 (ackE q n)) (QO Q (q.ack n)) := by
  rintro H F ⟨vd, v, h, rfl⟩
  have hQ := h.at_
  have hlt : Q < H.length := (List.getElem?_eq_some_iff.1 hQ).1
  have h1 : QAt (H ++ [crow n]) Q vd v q := h.frm fun b hb => by
    refine List.getElem?_append_left ?_
    simp only [List.mem_cons, List.mem_append] at hb
    rcases hb with rfl | hb | hb
    · exact hlt
    · exact h.sd.lt b hb
    · exact h.sl.lt b hb
  have hQ1 := h1.at_
  by_cases hn : q.next ≤ n
  · have e1 : ackE q n = 230 := by unfold ackE; rw [if_pos hn]
    have e2 : q.ack n = q := by unfold Que.ack; rw [if_pos hn]
    rw [e1, e2]
    refine ⟨H ++ [crow n], _, ?_, ⟨vd, v, h1, rfl⟩, Stp.app⟩
    unfold crow at hQ1 ⊢
    rw [callW_eqO (fn := fn16) rfl rfl]
    simp [-getElem?_pos, fn16, hQ1, hn]
  · have e1 : ackE q n = 0 := by unfold ackE; rw [if_neg hn]
    have e2 : q.ack n = ⟨q.dr, kept n q.l, q.next⟩ := by unfold Que.ack; rw [if_neg hn]
    rw [e1, e2]
    obtain ⟨v', Y, hc1, hc2, hc3⟩ := clone_c (ro := 0) h1.sl hl
    have hC : (H ++ [crow n] ++ Y)[H.length]? = some (crow n) := by rw [List.getElem?_append_left (by simp)]; simp
    have hCv : H.length ∉ blkS v' := fun hb => by have := hc3 _ hb; simp only [List.length_append, List.length_singleton] at this; omega
    obtain ⟨v2, H2, hd1, hd2, hd3, hd4, hd5⟩ := delete_c (ro := 0) hc2 hl hC (fun _ _ => Nat.zero_le _) hCv (Nat.zero_le _)
    have hnew : ∀ b ∈ blkS v2, H.length + 1 ≤ b := fun b hb => by rw [hd3] at hb; have := hc3 b hb; simpa using this
    have old : ∀ b, b < H.length → H2[b]? = H[b]? := fun b hb => by
      rw [hd5 b (by simp; omega) (fun hbv => by have := hc3 b hbv; simp at this; omega), List.getElem?_append_left (by simp; omega), List.getElem?_append_left hb]
    have hQ2 : H2[Q]? = some { rows := [[vd, v, .int .i64 q.next]] } := by rw [old Q hlt]; exact hQ
    have hlt2 := (List.getElem?_eq_some_iff.1 hQ2).1
    have hQv : Q ∉ blkS v2 := fun hb => by have := hnew Q hb; omega
    have hcc := hd2.cells
    refine ⟨H2.set Q { rows := [[vd, v2, .int .i64 q.next]] }, _, ?_, ⟨vd, v2, ⟨List.getElem?_set_self hlt2, ?_, hd2.set hQv, h.ned, hQv, fun b hb hb2 => ?_⟩, rfl⟩, ⟨?_, fun b hb hF => ?_, fun b hb => ?_⟩⟩
    · unfold crow at hQ1 hc1 hd1
      simp at hc1 hd1
      rw [callW_eqO (fn := fn16) rfl rfl]
      simp [-getElem?_pos, fn16, hQ1, hn, hc1, hd1, hQ2, hcc]
    · exact Sl.set (h.sd.fr fun b hb => old b (h.sd.lt b hb)) h.ned
    · have := h.sd.lt b hb; have := hnew b hb2; omega
    · have := hd4; simp at this ⊢; omega
    · simp only [List.mem_cons, List.mem_append, not_or] at hF
      rw [List.getElem?_set_ne (Ne.symm hF.1), old b hb]
    · simp only [List.mem_cons, List.mem_append] at hb ⊢
      rcases hb with rfl | hb | hb
      · exact .inl (.inl rfl)
      · exact .inl (.inr (.inl hb))
      · exact .inr (by have := hnew b hb; omega)

theorem ack_h {S Q : Nat} {w a n : Int} {q : Que} (h : Hold H (SQ S Q w a q)) (hl : q.l.length ≤ 1000) :
    ∃ H', callW pg 0 16 [.ptr Q 0 0 0, .int .i64 n] H = some (.int .i64 (ackE q n), H') ∧ Hold H' (SQ S Q w a (q.ack n)) := by
  obtain ⟨H', h1, h2⟩ := (ack_t (n := n) hl).frame.use0 h.comm
  exact ⟨H', h1, h2.comm⟩

/-- The numbers from lo + 1 on up to hi. -/
structure Run (q : Que) (lo hi : Nat) : Prop where
  next : q.next = hi + 1
  len : q.l.length = hi - lo
  le : lo ≤ hi
  at_ : ∀ (i : Nat) (x : Bt), q.l[i]? = some x → x.1 = lo + 1 + i
  dl : q.dr.length ≤ lo

theorem Run.put {q : Que} {lo hi : Nat} {t : Int} (h : Run q lo hi) (h6 : hi - lo ≤ 6) (hd : hi ≤ 1000) : Run (q.put t) (if 6 ≤ hi - lo then lo + 1 else lo) (hi + 1) := by
  have hlen := h.len
  have hle := h.le
  unfold Que.put
  rw [cut_next]
  by_cases h5 : 6 ≤ hi - lo
  · obtain ⟨b, l, hl⟩ : ∃ b l, q.l = b :: l := by
      cases hl : q.l with
      | nil => rw [hl] at hlen; simp at hlen; omega
      | cons b l => exact ⟨b, l, rfl⟩
    have hcut : q.cut = ⟨lastOf (q.dr ++ [b.1]), l, q.next⟩ := by unfold Que.cut; rw [hl]; dsimp only; rw [if_pos (by rw [← hl]; omega)]
    rw [hl] at hlen
    simp at hlen
    rw [hcut, if_pos h5]
    refine ⟨by dsimp only; have := h.next; omega, by simp; omega, by omega, fun i x hx => ?_, ?_⟩
    · dsimp only at hx
      by_cases hi' : i < l.length
      · rw [List.getElem?_append_left hi'] at hx
        have := h.at_ (i + 1) x (by rw [hl]; simpa using hx)
        push_cast at this ⊢; omega
      · have hlt := (List.getElem?_eq_some_iff.1 hx).1
        simp at hlt
        have e : i = l.length := by omega
        subst e
        rw [List.getElem?_append_right (Nat.le_refl _)] at hx
        simp at hx
        subst hx
        have := h.next
        push_cast; omega
    · have := h.dl
      unfold lastOf; simp; omega
  · have hcut : q.cut = q := by
      unfold Que.cut; split
      · rfl
      · rename_i b l e; rw [if_neg (by rw [← e]; omega)]
    rw [hcut, if_neg h5]
    refine ⟨by dsimp only; have := h.next; omega, by simp; omega, by omega, fun i x hx => ?_, h.dl⟩
    dsimp only at hx
    by_cases hi' : i < q.l.length
    · rw [List.getElem?_append_left hi'] at hx
      exact h.at_ i x hx
    · have hlt := (List.getElem?_eq_some_iff.1 hx).1
      simp at hlt
      have e : i = q.l.length := by omega
      subst e
      rw [List.getElem?_append_right (Nat.le_refl _)] at hx
      simp at hx
      subst hx
      have := h.next
      dsimp only; omega

theorem kept_run {n : Int} : ∀ (l : List Bt) (lo : Int), (∀ (i : Nat) (x : Bt), l[i]? = some x → x.1 = lo + 1 + i) → kept n l = l.drop (n - lo).toNat
  | [], _, _ => by simp [kept]
  | x :: l, lo, h => by
    have h0 := h 0 x rfl
    have ih := kept_run (n := n) l (lo + 1) fun i y hy => by have := h (i + 1) y (by simpa using hy); push_cast at this; omega
    unfold kept at ih ⊢
    rw [List.filter_cons, ih]
    simp at h0
    by_cases hx : x.1 ≤ n
    · have e : (n - lo).toNat = (n - (lo + 1)).toNat + 1 := by omega
      rw [if_neg (by simp [gone, hx]), e, List.drop_succ_cons]
    · have e : (n - lo).toNat = 0 := by omega
      have e2 : (n - (lo + 1)).toNat = 0 := by omega
      rw [if_pos (by simp [gone]; omega), e, e2, List.drop_zero, List.drop_zero]

theorem Run.ack {q : Que} {lo hi : Nat} {n : Nat} (h : Run q lo hi) (hn : n ≤ hi) : Run (q.ack n) (max lo n) hi ∧ ackE q n = 0 := by
  have hlen := h.len
  have hle := h.le
  have hnx : ¬ q.next ≤ n := by have := h.next; omega
  unfold Que.ack ackE
  rw [if_neg hnx, if_neg hnx]
  refine ⟨?_, rfl⟩
  have hk := kept_run (n := n) q.l lo h.at_
  have e : ((n : Int) - lo).toNat = max lo n - lo := by omega
  rw [e] at hk
  rw [hk]
  refine ⟨h.next, by simp; omega, by omega, fun i x hx => ?_, by have := h.dl; dsimp only; omega⟩
  dsimp only at hx
  rw [List.getElem?_drop] at hx
  have := h.at_ _ x hx
  push_cast at this ⊢; omega

/-! the law 'SenderLow' -/
namespace Low
theorem loop {S Q : Nat} {A : IV} {k : Nat} (hk : k < 30) : ∀ (d i : Nat) (H : Hp) (q : Que), i + d = k → Run q (i - 6) i → Hold H (SQ S Q 1 0 q) →
    ∃ (H' : Hp) (q' : Que), runW pg 0 fn5L0 [(1, A), (5, .ptr S 0 0 0), (6, .ptr Q 0 0 0), (7, .int .i64 k), (8, .int .i64 i)] H = some (.exit 0, [(1, A), (5, .ptr S 0 0 0), (6, .ptr Q 0 0 0), (7, .int .i64 k), (8, .int .i64 k), (22, .bool false)], H') ∧ Run q' (k - 6) k ∧ Hold H' (SQ S Q 1 0 q') := by
  have L : ∀ e H, runW pg 0 fn5L0 e H = seqO pg 0 fn5L0 (runW pg 0 fn5B0 (keepE [1, 5, 6, 7, 8] e) H) := fun e H => runW_loopO
  intro d
  induction d with
  | zero =>
    intro i H q hi hr h
    have : i = k := by omega
    subst this
    refine ⟨H, q, ?_, hr, h⟩
    rw [L]; simp [fn5B0]
  | succ d ih =>
    intro i H q hi hr h
    have hlen := hr.len
    have hdl := hr.dl
    have hnx := hr.next
    obtain ⟨H1, hp, h1⟩ := put_h (t := i) h ⟨by omega, by omega, by omega, by omega⟩
    have hr1 := hr.put (t := i) (by omega) (by omega)
    have e : (if 6 ≤ i - (i - 6) then i - 6 + 1 else i - 6) = i + 1 - 6 := by split <;> omega
    rw [e] at hr1
    obtain ⟨H', q', h2, h3, h4⟩ := ih (i + 1) H1 _ (by omega) hr1 h1
    refine ⟨H', q', ?_, h3, h4⟩
    have hlt : (i : Int) < k := by omega
    have w1 : IntKind.i64.wrap ((i : Int) + 1) = i + 1 := by rw [IntKind.wrap_i64]; omega
    push_cast at h2
    rw [L]
    simp [-getElem?_pos, fn5B0, hlt, hp, w1, h2]

theorem law {n a : Int} (hn : 0 ≤ n ∧ n < 256) (ha : 0 ≤ a ∧ a < 256) : ∃ H', callW pg 0 5 [.int .u8 n, .int .u8 a] [] = some (.bool true, H') := by
  rw [callW_eqO (fn := fn5) rfl rfl]
  obtain ⟨k, hk⟩ : ∃ k : Nat, (k : Int) = n % 30 := ⟨(n % 30).toNat, by omega⟩
  have hrem : binV .rem (.int .u8 n) (.int .u8 30) = some (.int .u8 k) := by rw [bin_rem (by decide), Int.tmod_eq_emod_of_nonneg hn.1, hk]
  have w1 : IntKind.i64.wrap (k : Int) = k := by rw [IntKind.wrap_i64]; omega
  have w2 : IntKind.i64.wrap ((k : Int) + 1) = k + 1 := by rw [IntKind.wrap_i64]; omega
  have w3 : IntKind.i64.wrap a = a := by rw [IntKind.wrap_i64]; omega
  have h0 : Hold ([srow 1 0, { rows := [[.nsl, .nsl, .int .i64 1]] }] : Hp) (SQ 0 1 1 0 ⟨[], [], 1⟩) := start (H := [])
  obtain ⟨H1, q, hr, hR, h1⟩ := loop (A := .int .u8 a) (k := k) (by omega) k 0 _ ⟨[], [], 1⟩ (by omega) ⟨rfl, rfl, by omega, by simp, by simp⟩ h0
  have n1 := newS (ro := 0) (H := [])
  have n2 := newQ (ro := 0) (H := [] ++ [srow 1 0])
  simp at n1 n2 hr
  -- what is acknowledged
  obtain ⟨m, hm, hmk, hm2⟩ : ∃ m : Nat, (m : Int) = (if (0 : Int) < k then a % ((k : Int) + 1) else 0) ∧ m ≤ k ∧ ((0 : Int) < k → binV .rem (.int .i64 a) (.int .i64 ((k : Int) + 1)) = some (.int .i64 m)) := by
    by_cases h0 : (0 : Int) < k
    · have h1 := Int.emod_nonneg a (show ((k : Int) + 1) ≠ 0 by omega)
      have h2 := Int.emod_lt_of_pos a (show (0 : Int) < (k : Int) + 1 by omega)
      refine ⟨(a % ((k : Int) + 1)).toNat, by rw [if_pos h0]; omega, by omega, fun _ => ?_⟩
      rw [bin_rem (by omega), Int.tmod_eq_emod_of_nonneg ha.1, Int.toNat_of_nonneg h1]
    · exact ⟨0, by rw [if_neg h0]; rfl, by omega, fun h => absurd h h0⟩
  have hlen := hR.len
  obtain ⟨H2, hack, h2⟩ := ack_h (n := m) h1 (by omega)
  obtain ⟨hR2, hE⟩ := hR.ack hmk
  rw [hE] at hack
  have hlen2 := hR2.len
  have hnx2 := hR2.next
  obtain ⟨H3, hdue, h3⟩ := due_h (now := 0) h2 (by omega) (by omega) (by omega)
  have w4 : IntKind.i64.wrap ((k : Int) - 6) = k - 6 := by rw [IntKind.wrap_i64]; omega
  have w5 : IntKind.i64.wrap (max (m : Int) ((k : Int) - 6) + 1) = max (m : Int) ((k : Int) - 6) + 1 := by rw [IntKind.wrap_i64]; omega
  have em : max (m : Int) ((k : Int) - 6) + 1 = (max (k - 6) m : Nat) + 1 := by omega
  have mm : (k : Int) = 0 → m = 0 := fun e => by omega
  cases hl : (q.ack m).l with
  | nil =>
    have e : dueR 1 0 (q.ack m) 0 = (zLet, false, 1, 0) := by unfold dueR; rw [hl]
    rw [e] at hdue h3
    have h4 := h3.app [{ rows := [zLet] }]
    have hlow := SQ.low (ro := 0) h4
    rw [hl] at hlow hlen2
    simp at hlen2
    dsimp only at hlow
    rw [hnx2] at hlow
    have hgt : (k : Int) < max (m : Int) ((k : Int) - 6) + 1 := by omega
    unfold zLet at hdue hlow
    refine ⟨H3 ++ [{ rows := [zLet] }], ?_⟩
    unfold zLet
    by_cases hk0 : (0 : Int) < k
    · have hk0' : 0 < k := by omega
      simp [-getElem?_pos, fn5, known_2, n1, n2, hrem, w1, hr, hk0, hk0', w2, w3, hm2 hk0, hack, hdue, w4, w5, hgt, hlow]
    · have hk0' : k = 0 := by omega
      subst hk0'
      have hm0 : m = 0 := mm rfl
      subst hm0
      simp at hrem w1 hr w2 hack hdue w4 w5 hgt hlow
      simp [-getElem?_pos, fn5, known_2, n1, n2, hrem, w1, hr, hack, hdue, w4, w5, w2, hgt, hlow]
  | cons b l =>
    have hb := hR2.at_ 0 b (by rw [hl]; rfl)
    rw [hl] at hlen2
    simp at hlen2 hb
    have e : dueR 1 0 (q.ack m) 0 = (brow b ++ [.int .i64 b.1], true, 2, 1) := by unfold dueR; rw [hl]; simp; decide
    rw [e] at hdue h3
    have hngt : ¬ (k : Int) < max (m : Int) ((k : Int) - 6) + 1 := by omega
    have hk0 : (0 : Int) < k := by omega
    have hk0' : 0 < k := by omega
    have hbb : b.1 = max (m : Int) ((k : Int) - 6) + 1 := by omega
    unfold brow at hdue
    refine ⟨H3 ++ [{ rows := [brow b ++ [.int .i64 b.1]] }], ?_⟩
    unfold brow
    simp at hdue
    rw [← hbb] at w5 hngt
    simp [-getElem?_pos, fn5, known_2, n1, n2, hrem, w1, hr, hk0, hk0', w2, w3, hm2 hk0, hack, hdue, w4, w5, hngt, ← hbb]
theorem wf (x0 : (Ty.int .u8).den) (x1 : (Ty.int .u8).den) (ok0 : (Ty.int .u8).ok x0) (ok1 : (Ty.int .u8).ok x1) : ∃ H', callW pg 0 5 [(Ty.int .u8).arg x0, (Ty.int .u8).arg x1] [] = some (.bool true, H') :=
  law (wf_u8 _ ok0) (wf_u8 _ ok1)
end Low

/-! the law 'SenderAcked' -/
namespace Ack

theorem loop {S Q : Nat} {q : Que} {b : Bt} {bs : List Bt} (hq : q.l = b :: bs) (hq2 : q.l.length ≤ 1000) {n0 : Int} (hn : 0 ≤ n0 ∧ n0 < 256) {m : Nat} (hm : (m : Int) = n0 % 20) : ∀ (d i : Nat) (H : Hp) (w a t : Int), i + d = m → 1 ≤ w → w ≤ 8 → 0 ≤ t → t ≤ 65536 + 8 * i → 0 ≤ a → a ≤ t → Hold H (SQ S Q w a q) →
    ∃ (H' : Hp) (w' a' t' : Int), runW pg 0 fn7L0 [(0, .int .u8 n0), (5, .ptr S 0 0 0), (6, .ptr Q 0 0 0), (7, .int .i64 t), (8, .int .i64 i)] H = some (.exit 0, [(0, .int .u8 n0), (5, .ptr S 0 0 0), (6, .ptr Q 0 0 0), (7, .int .i64 t'), (8, .int .i64 m), (27, .bool false)], H') ∧ Hold H' (SQ S Q w' a' q) ∧ 0 ≤ t' ∧ t' ≤ 66000 := by
  have L : ∀ e H, runW pg 0 fn7L0 e H = seqO pg 0 fn7L0 (runW pg 0 fn7B0 (keepE [0, 5, 6, 7, 8] e) H) := fun e H => runW_loopO
  have hrem : binV .rem (.int .u8 n0) (.int .u8 20) = some (.int .u8 m) := by rw [bin_rem (by decide), Int.tmod_eq_emod_of_nonneg hn.1, hm]
  have w1 : IntKind.i64.wrap (m : Int) = m := by rw [IntKind.wrap_i64]; omega
  intro d
  induction d with
  | zero =>
    intro i H w a t hi hw1 hw2 ht0 ht ha0 ha h
    have : i = m := by omega
    subst this
    refine ⟨H, w, a, t, ?_, h, ht0, by omega⟩
    rw [L]; simp [fn7B0, hrem, w1]
  | succ d ih =>
    intro i H w a t hi hw1 hw2 ht0 ht ha0 ha h
    obtain ⟨H1, hd, h1⟩ := due_h (now := t) h hq2 ⟨hw1, hw2⟩ ha0
    have e : dueR w a q t = (brow b ++ [.int .i64 b.1], true, min (2 * w) 8, t + w) := by
      unfold dueR; rw [hq]; dsimp only; rw [if_neg (by omega), if_pos (by omega)]
    rw [e] at hd h1
    dsimp only at h1
    have h2 := h1.app [{ rows := [brow b ++ [.int .i64 b.1]] }]
    obtain ⟨H', w', a', t', hr, g1, g2, g3⟩ := ih (i + 1) _ _ _ (t + w) (by omega) (by omega) (by omega) (by omega) (by push_cast; omega) (by omega) (by omega) h2
    refine ⟨H', w', a', t', ?_, g1, g2, g3⟩
    have a2 := at_2 (ro := 0) (SQ.cell h2)
    have b2 := wait_2 (ro := 0) (SQ.cell h2)
    have hlt : (i : Int) < m := by omega
    have hltn : i < m := by omega
    have c1 : ¬ (w ≤ 0) := by omega
    have c2 : ¬ (t + w ≤ t) := by omega
    have c3 : ¬ (8 < min (2 * w) 8) := by omega
    have w2 : IntKind.i64.wrap ((i : Int) + 1) = i + 1 := by rw [IntKind.wrap_i64]; omega
    simp only [brow, List.cons_append, List.nil_append] at hd a2 b2 hr
    push_cast at hr
    rw [L]
    simp [-getElem?_pos, fn7B0, hrem, w1, hlt, hltn, hd, a2, b2, c1, c2, c3, w2, hr]

theorem law {n now : Int} (hn : 0 ≤ n ∧ n < 256) (ht : 0 ≤ now ∧ now < 65536) : ∃ H', callW pg 0 7 [.int .u8 n, .int .u16 now] [] = some (.bool true, H') := by
  rw [callW_eqO (fn := fn7) rfl rfl]
  obtain ⟨m, hm⟩ : ∃ m : Nat, (m : Int) = n % 20 := ⟨(n % 20).toNat, by omega⟩
  have w3 : IntKind.i64.wrap now = now := by rw [IntKind.wrap_i64]; omega
  have h0 : Hold ([srow 1 0, { rows := [[.nsl, .nsl, .int .i64 1]] }] : Hp) (SQ 0 1 1 0 ⟨[], [], 1⟩) := start (H := [])
  obtain ⟨H1, hp1, h1⟩ := put_h (t := 0) h0 ⟨by simp, by simp, by simp, by simp⟩
  obtain ⟨H2, hp2, h2⟩ := put_h (t := 0) h1 ⟨by simp [Que.put, Que.cut], by simp [Que.put, Que.cut], by simp [Que.put, Que.cut], by simp [Que.put, Que.cut]⟩
  have eq : (Que.put ⟨[], [], 1⟩ 0).put 0 = ⟨[], [(1, 0), (2, 0)], 3⟩ := rfl
  rw [eq] at h2
  obtain ⟨H3, w', a', t', hr, h3, g2, g3⟩ := loop (b := (1, 0)) (bs := [(2, 0)]) rfl (by simp) hn hm m 0 _ 1 0 now (by omega) (by omega) (by omega) (by omega) (by omega) (by omega) (by omega) h2
  obtain ⟨H4, hack, h4⟩ := ack_h (n := 1) h3 (by simp)
  have e1 : ackE ⟨[], [(1, 0), (2, 0)], 3⟩ 1 = 0 := rfl
  have e2 : Que.ack ⟨[], [(1, 0), (2, 0)], 3⟩ 1 = ⟨[], [(2, 0)], 3⟩ := rfl
  rw [e1] at hack
  rw [e2] at h4
  obtain ⟨H5, hacked, h5⟩ := acked_h (now := t') h4
  have e3 : min (max t' 0) 1000000 = t' := by omega
  rw [e3] at h5
  obtain ⟨H6, hd, h6⟩ := due_h (now := t') h5 (by simp) (by omega) (by omega)
  have e4 : dueR 1 t' ⟨[], [(2, 0)], 3⟩ t' = (brow (2, 0) ++ [.int .i64 2], true, 2, t' + 1) := by
    unfold dueR; dsimp only; rw [if_neg (by omega), if_pos (by omega)]; rfl
  rw [e4] at hd h6
  have h7 := h6.app [{ rows := [brow (2, 0) ++ [.int .i64 2]] }]
  have a2 := at_2 (ro := 0) (SQ.cell h7)
  have b2 := wait_2 (ro := 0) (SQ.cell h7)
  have w4 : IntKind.i64.wrap (t' + 1) = t' + 1 := by rw [IntKind.wrap_i64]; omega
  have n1 := newS (ro := 0) (H := [])
  have n2 := newQ (ro := 0) (H := [] ++ [srow 1 0])
  simp only [brow, List.cons_append, List.nil_append] at hd a2 b2
  simp at n1 n2 hr hp2
  refine ⟨H6 ++ [{ rows := [brow (2, 0) ++ [.int .i64 2]] }], ?_⟩
  unfold brow
  simp [-getElem?_pos, fn7, known_2, n1, n2, hp1, hp2, w3, hr, hack, hacked, hd, a2, b2, w4]

theorem wf (x0 : (Ty.int .u8).den) (x1 : (Ty.int .u16).den) (ok0 : (Ty.int .u8).ok x0) (ok1 : (Ty.int .u16).ok x1) : ∃ H', callW pg 0 7 [(Ty.int .u8).arg x0, (Ty.int .u16).arg x1] [] = some (.bool true, H') :=
  law (wf_u8 _ ok0) (wf_u16 _ ok1)
end Ack
end Go.Proofs.Ytemjonhhcadbbaa
