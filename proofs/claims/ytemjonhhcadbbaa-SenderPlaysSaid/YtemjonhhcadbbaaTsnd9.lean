/- The document's queue is told what was acknowledged; its sender; the law 'SenderPlays'. -/
import Derived.Test.YtemjonhhcadbbaaTsnd8
namespace Go.Proofs.Ytemjonhhcadbbaa
open Go Go.Vs
variable {ro : Nat} {H : Hp}

/-- What is left when those ahead have gone. -/
def left (n : Int) : List Bt → List Bt
  | [] => []
  | x :: l => if x.1 ≤ n then left n l else x :: l

theorem left_run {n : Int} : ∀ (l : List Bt) (lo : Int), (∀ (i : Nat) (x : Bt), l[i]? = some x → x.1 = lo + 1 + i) → left n l = l.drop (n - lo).toNat
  | [], _, _ => by simp [left]
  | x :: l, lo, h => by
    have h0 := h 0 x rfl
    have ih := left_run (n := n) l (lo + 1) fun i y hy => by have := h (i + 1) y (by simpa using hy); push_cast at this; omega
    simp at h0
    unfold left
    by_cases hx : x.1 ≤ n
    · have e : (n - lo).toNat = (n - (lo + 1)).toNat + 1 := by omega
      rw [if_pos hx, ih, e, List.drop_succ_cons]
    · have e : (n - lo).toNat = 0 := by omega
      rw [if_neg hx, e, List.drop_zero]

theorem R23_eq {e : Env} {H : Hp} : runW pg 0 fn23L0 e H = seqO pg 0 fn23L0 (runW pg 0 fn23B0 (keepE [0, 1] e) H) := runW_loopO
theorem rack_loop {P : Nat} {n : Int} : ∀ (l : List Bt) (H : Hp) (q : Que) (vl vd : IV) (nd : Int), q.l = l → RAt H P vl vd nd q →
    ∃ H' vl', (∃ e', runW pg 0 fn23L0 [(0, .ptr P 0 0 0), (1, .int .i64 n)] H = some (.exit 0, e', H')) ∧ RAt H' P vl' vd nd ⟨q.dr, left n l, q.next⟩ ∧ blkS vl' = blkS vl ∧ H'.length = H.length ∧ ∀ b, b ≠ P → H'[b]? = H[b]? := by
  have L : ∀ e H, runW pg 0 fn23L0 e H = seqO pg 0 fn23L0 (runW pg 0 fn23B0 (keepE [0, 1] e) H) := fun e H => runW_loopO
  intro l
  induction l with
  | nil =>
    intro H q vl vd nd hq h
    have hP := h.at_
    have hlen := h.sl.len
    rw [hq] at hlen
    simp at hlen
    refine ⟨H, vl, ⟨[(0, .ptr P 0 0 0), (1, .int .i64 n), (25, .bool false)], ?_⟩, ?_, rfl, rfl, fun _ _ => rfl⟩
    · rw [L]; simp [-getElem?_pos, fn23B0, hP, hlen]
    · have : q = ⟨q.dr, left n [], q.next⟩ := by unfold left; rw [← hq]
      rw [← this]; exact h
  | cons x l ih =>
    intro H q vl vd nd hq h
    have hP := h.at_
    have hlt : P < H.length := (List.getElem?_eq_some_iff.1 hP).1
    have hlen := h.sl.len
    obtain ⟨k, B, j, hb, hidx, hB, hfz, hrow⟩ := h.sl.idx (i := 0) (row := brow x) (by rw [hq]; rfl)
    rw [hq] at hlen
    simp at hlen hidx
    simp only [brow] at hrow
    have h0 : (0 : Int) < (l.length : Int) + 1 := by omega
    have h00 : 0 < l.length + 1 := by omega
    by_cases hx : x.1 ≤ n
    · obtain ⟨v1, f1, f2, f3⟩ := h.sl.from (k := 1) (by rw [List.length_map, hq]; simp)
      rw [hq] at f2
      simp only [List.map_cons, List.drop_succ_cons, List.drop_zero] at f2
      have hcc := f2.cells
      obtain ⟨dr, hsd, hdl⟩ := h.sd
      have h1 : RAt (H.set P { rows := [[v1, .int .i64 (q.next - 1), vd, .int .i64 nd]] }) P v1 vd nd ⟨q.dr, l, q.next⟩ :=
        ⟨List.getElem?_set_self hlt, f2.set (by rw [f3]; exact h.ne), ⟨dr, hsd.set h.ned, hdl⟩, by rw [f3]; exact h.ne, h.ned, fun b hb => by rw [f3]; exact h.ap b hb⟩
      obtain ⟨H', vl', ⟨e', hr⟩, g1, g2, g3, g4⟩ := ih _ _ _ _ _ rfl h1
      refine ⟨H', vl', ⟨e', ?_⟩, by rw [left, if_pos hx]; exact g1, by rw [g2, f3], by simpa using g3, fun b hb => by rw [g4 b hb, List.getElem?_set_ne (Ne.symm hb)]⟩
      rw [L]
      simp [-getElem?_pos, -slSl_arr, fn23B0, hP, hlen, h0, h00, hidx, hB, hrow, hx, f1, hcc, hr]
    · refine ⟨H, vl, ⟨[(0, .ptr P 0 0 0), (1, .int .i64 n), (25, .bool false)], ?_⟩, ?_, rfl, rfl, fun _ _ => rfl⟩
      · rw [L]; simp [-getElem?_pos, fn23B0, hP, hlen, h0, h00, hidx, hB, hrow, hx]
      · have : q = ⟨q.dr, left n (x :: l), q.next⟩ := by rw [left, if_neg hx, ← hq]
        rw [← this]; exact h

def Que.rack (q : Que) (n : Int) : Que := if q.next ≤ n then q else ⟨q.dr, left n q.l, q.next⟩

theorem rack_t {P : Nat} {q : Que} {n : Int} (hn : 0 ≤ q.next ∧ q.next ≤ 1000000000) : Trip (RQO P q) (callW pg 0 23 [.ptr P 0 0 0, .int .i64 n]) (.int .i64 (ackE q n)) (RQO P (q.rack n)) := by
  rintro H F ⟨vl, vd, nd, h, rfl⟩
  have hnx := fun ro => next_2 (ro := ro) h hn
  by_cases hq : q.next ≤ n
  · have e1 : ackE q n = 230 := by unfold ackE; rw [if_pos hq]
    have e2 : q.rack n = q := by unfold Que.rack; rw [if_pos hq]
    rw [e1, e2]
    refine ⟨H, _, ?_, ⟨vl, vd, nd, h, rfl⟩, Stp.refl⟩
    rw [callW_eqO (fn := fn23) rfl rfl]
    simp [-getElem?_pos, fn23, hnx, hq]
  · have e1 : ackE q n = 0 := by unfold ackE; rw [if_neg hq]
    have e2 : q.rack n = ⟨q.dr, left n q.l, q.next⟩ := by unfold Que.rack; rw [if_neg hq]
    rw [e1, e2]
    obtain ⟨H', vl', ⟨e', hr⟩, g1, g2, g3, g4⟩ := rack_loop (n := n) q.l H q vl vd nd rfl h
    refine ⟨H', _, ?_, ⟨vl', vd, nd, g1, rfl⟩, ⟨by omega, fun b _ hF => g4 b fun e => hF (by simp [e]), fun b hb => .inl (by rw [g2] at hb; exact hb)⟩⟩
    have hr2 : runW pg 0 fn23L0 [(0, .ptr P 0 0 0), (1, .int .i64 n), (8, .bool false)] H = some (.exit 0, e', H') := by rw [← hr, R23_eq, R23_eq]; rfl
    rw [callW_eqO (fn := fn23) rfl rfl]
    simp [-getElem?_pos, fn23, hnx, hq, hr2]

theorem ack_same {q : Que} {lo hi : Nat} {n : Int} (h : Run q lo hi) : q.rack n = q.ack n := by
  unfold Que.rack Que.ack
  rw [left_run q.l lo h.at_, kept_run q.l lo h.at_]

/-- The document's sender asks. -/
theorem rdue_t {S P : Nat} {w a now : Int} {q : Que} (hn : 0 ≤ q.next ∧ q.next ≤ 1000000000) (hw : 1 ≤ w ∧ w ≤ 8) (ha : 0 ≤ a) :
    Trip ((cell S (srow w a)).star (RQO P q)) (callW pg 0 19 [.ptr S 0 0 0, .ptr P 0 0 0, .int .i64 now]) (.tup [.agg (dueR w a q now).1, .bool (dueR w a q now).2.1])
      ((cell S (srow (dueR w a q now).2.2.1 (dueR w a q now).2.2.2)).star (RQO P q)) := by
  rintro H F ⟨F1, F2, rfl, ⟨rfl, hS⟩, ⟨vl, vd, nd, h, rfl⟩, hd⟩
  have hSlt : S < H.length := (List.getElem?_eq_some_iff.1 hS).1
  have hd1 := hd S (by simp)
  have hSP : S ≠ P := fun e => hd1 (by simp [e])
  obtain ⟨dr, hsd, hdl⟩ := h.sd
  have hPlt : P < H.length := (List.getElem?_eq_some_iff.1 h.at_).1
  have frm : ∀ (H' : Hp), (∀ b, b < H.length → b ≠ S → H'[b]? = H[b]?) → RAt H' P vl vd nd q := fun H' hf =>
    ⟨by rw [hf P hPlt (Ne.symm hSP)]; exact h.at_, h.sl.fr fun b hb => hf b (h.sl.lt b hb) (fun e => hd1 (by subst e; simp [hb])), ⟨dr, hsd.fr fun b hb => hf b (hsd.lt b hb) (fun e => hd1 (by subst e; simp [hb])), hdl⟩, h.ne, h.ned, h.ap⟩
  have hS' : (H ++ [{ rows := [zLet] }])[S]? = some (srow w a) := by rw [List.getElem?_append_left hSlt]; exact hS
  have h' : RAt (H ++ [{ rows := [zLet] }]) P vl vd nd q := frm _ fun b hb _ => List.getElem?_append_left hb
  have hP' := h'.at_
  have hlen := h'.sl.len
  cases hl : q.l with
  | nil =>
    have e : dueR w a q now = (zLet, false, w, a) := by unfold dueR; rw [hl]
    rw [e]
    rw [hl] at hlen
    simp at hlen
    refine ⟨H ++ [{ rows := [zLet] }], _, ?_, ⟨_, _, rfl, ⟨rfl, hS'⟩, ⟨vl, vd, nd, h', rfl⟩, hd⟩, Stp.app⟩
    unfold zLet at hP' ⊢
    rw [callW_eqO (fn := fn19) rfl rfl]
    simp [-getElem?_pos, fn19, hP', hlen]
  | cons b l =>
    rw [hl] at hlen
    simp at hlen
    have h0 : ¬ ((l.length : Int) + 1 = 0) := by omega
    unfold srow at hS hS'
    by_cases hn2 : now < a
    · have e : dueR w a q now = (zLet, false, w, a) := by unfold dueR; rw [hl]; dsimp only; rw [if_pos hn2]
      rw [e]
      refine ⟨H ++ [{ rows := [zLet] }], _, ?_, ⟨_, _, rfl, ⟨rfl, by unfold srow; exact hS'⟩, ⟨vl, vd, nd, h', rfl⟩, hd⟩, Stp.app⟩
      unfold zLet at hP' hS' ⊢
      rw [callW_eqO (fn := fn19) rfl rfl]
      simp [-getElem?_pos, fn19, hP', hlen, h0, hS', hn2]
    · obtain ⟨a2, ha2⟩ : ∃ a2, (if now ≤ 1000000 - w then now + w else 1000000) = a2 := ⟨_, rfl⟩
      have e : dueR w a q now = (brow b ++ [.int .i64 b.1], true, min (2 * w) 8, a2) := by unfold dueR; rw [hl]; dsimp only; rw [if_neg hn2, ha2]
      rw [e]
      have hw1 : IntKind.i64.wrap (1000000 - w) = 1000000 - w := by rw [IntKind.wrap_i64]; omega
      have hw2 : IntKind.i64.wrap (min now (1000000 - w) + w) = a2 := by
        rw [← ha2, IntKind.wrap_i64]
        split <;> omega
      have hw3 : IntKind.i64.wrap (2 * w) = 2 * w := by rw [IntKind.wrap_i64]; omega
      have h2 : RAt (H.set S (srow (min (2 * w) 8) a2) ++ [{ rows := [zLet] }]) P vl vd nd q := frm _ fun x hx hne => by
        rw [List.getElem?_append_left (by simpa using hx), List.getElem?_set_ne (Ne.symm hne)]
      have hP2 := h2.at_
      obtain ⟨k, B, j, hb, hidx, hB, hfz, hrow⟩ := h2.sl.idx (i := 0) (row := brow b) (by rw [hl]; rfl)
      have hlow := rlow_2 (ro := 0) h2 hn
      rw [hl] at hlow
      have hSn : (List.set H S (srow (min (2 * w) 8) a2) ++ [({ rows := [brow b ++ [.int .i64 b.1]] } : Bk)])[S]? = some (srow (min (2 * w) 8) a2) := by
        rw [List.getElem?_append_left (by simpa using hSlt), List.getElem?_set_self hSlt]
      refine ⟨List.set H S (srow (min (2 * w) 8) a2) ++ [({ rows := [brow b ++ [.int .i64 b.1]] } : Bk)], _, ?_, ⟨_, _, rfl, ⟨rfl, hSn⟩, ⟨vl, vd, nd, ?_, rfl⟩, hd⟩, ⟨by simp, fun x hx hF => ?_, fun x hx => .inl hx⟩⟩
      · simp only [zLet, srow] at hP' hS' hP2 hidx hB hlow
        unfold srow brow
        simp only [brow] at hrow
        simp at hidx hlow
        rw [callW_eqO (fn := fn19) rfl rfl]
        simp [-getElem?_pos, fn19, hP', hlen, h0, hS', hn2, hw1, hw2, hw3, hS, hSlt, hP2, hidx, hB, hrow, hlow, List.set_append_left, List.getElem?_append_left]
      · exact frm _ fun x hx hne => by rw [List.getElem?_append_left (by simpa using hx), List.getElem?_set_ne (Ne.symm hne)]
      · have : x ≠ S := fun e => hF (by simp [e])
        rw [List.getElem?_append_left (by simpa using hx), List.getElem?_set_ne (Ne.symm this)]

end Go.Proofs.Ytemjonhhcadbbaa
