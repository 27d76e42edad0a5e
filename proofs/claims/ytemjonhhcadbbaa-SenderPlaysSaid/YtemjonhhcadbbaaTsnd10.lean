/- The law 'SenderPlays'. -/
import Derived.Test.YtemjonhhcadbbaaTsnd9
namespace Go.Proofs.Ytemjonhhcadbbaa
open Go Go.Vs
variable {ro : Nat} {H : Hp}

theorem Trip.comm {A B A' B' : Asn} {c : Hp → Option (IV × Hp)} {r : IV} (h : Trip (A.star B) c r (A'.star B')) : Trip (B.star A) c r (B'.star A') := by
  rintro H F ⟨F1, F2, rfl, h1, h2, h3⟩
  obtain ⟨H', F', hc, ⟨G1, G2, rfl, g1, g2, g3⟩, st⟩ := h H (F2 ++ F1) ⟨F2, F1, rfl, h2, h1, fun b hb hb' => h3 b hb' hb⟩
  refine ⟨H', G2 ++ G1, hc, ⟨G2, G1, rfl, g2, g1, fun b hb hb' => g3 b hb' hb⟩, ⟨st.len, fun b hb hF => st.same b hb fun h => hF ?_, fun b hb => ?_⟩⟩
  · rcases List.mem_append.1 h with h | h
    · exact List.mem_append_right _ h
    · exact List.mem_append_left _ h
  · have : b ∈ G1 ++ G2 := by
      rcases List.mem_append.1 hb with h | h
      · exact List.mem_append_right _ h
      · exact List.mem_append_left _ h
    rcases st.new b this with h | h
    · rcases List.mem_append.1 h with h | h
      · exact .inl (List.mem_append_right _ h)
      · exact .inl (List.mem_append_left _ h)
    · exact .inr h

def RP (R P : Nat) (w a : Int) (q : Que) : Asn := (cell R (srow w a)).star (RQO P q)

theorem acked_t {S : Nat} {w a now : Int} : Trip (cell S (srow w a)) (callW pg 0 15 [.ptr S 0 0 0, .int .i64 now]) (.tup []) (cell S (srow 1 (min (max now 0) 1000000))) := by
  rintro H F ⟨rfl, hS⟩
  have hlt : S < H.length := (List.getElem?_eq_some_iff.1 hS).1
  refine ⟨H.set S (srow 1 (min (max now 0) 1000000)), [S], ?_, ⟨rfl, List.getElem?_set_self hlt⟩, ⟨by simp, fun b hb hne => List.getElem?_set_ne (fun e => hne (by simp [e])), fun b hb => .inl hb⟩⟩
  unfold srow at hS ⊢
  rw [callW_eqO (fn := fn15) rfl rfl]
  simp [-getElem?_pos, fn15, hS, hlt]
theorem racked_t {S : Nat} {w a now : Int} : Trip (cell S (srow w a)) (callW pg 0 21 [.ptr S 0 0 0, .int .i64 now]) (.tup []) (cell S (srow 1 (min (max now 0) 1000000))) := by
  rintro H F ⟨rfl, hS⟩
  have hlt : S < H.length := (List.getElem?_eq_some_iff.1 hS).1
  have e : max 0 (min now 1000000) = min (max now 0) 1000000 := by omega
  refine ⟨H.set S (srow 1 (min (max now 0) 1000000)), [S], ?_, ⟨rfl, List.getElem?_set_self hlt⟩, ⟨by simp, fun b hb hne => List.getElem?_set_ne (fun e => hne (by simp [e])), fun b hb => .inl hb⟩⟩
  unfold srow at hS ⊢
  rw [callW_eqO (fn := fn21) rfl rfl]
  simp [-getElem?_pos, fn21, hS, hlt, e]

theorem bin_eql_str {a b : ByteArray} : binV .eql (.str a) (.str b) = some (.bool (a.toList == b.toList)) := rfl

theorem rows_same : doCall (callW pg) ro 2 (.fn 34 []) [.nsl, .nsl] H = some (.bool true, H) := by
  have h : callW pg H.length 34 [.nsl, .nsl] H = some (.bool true, H) := by
    have L : ∀ e, runW pg H.length fn34L0 e H = seqO pg H.length fn34L0 (runW pg H.length fn34B0 (keepE [0, 1, 5] e) H) := fun e => runW_loopO
    rw [callW_eqO (fn := fn34) rfl rfl]
    simp [-getElem?_pos, fn34, L, fn34B0]
  exact call2p h rfl rfl

theorem same_2 {x y : Int} {s : ByteArray} : doCall (callW pg) ro 2 (.fn 20 []) [.agg [.int .i64 x, .int .i64 y, .str s, .nsl], .agg [.int .i64 x, .int .i64 y, .str s, .nsl]] H = some (.bool true, H) := by
  have h : ∃ H2, callW pg H.length 20 [.agg [.int .i64 x, .int .i64 y, .str s, .nsl], .agg [.int .i64 x, .int .i64 y, .str s, .nsl]] H = some (.bool true, H2) := by
    refine ⟨H ++ [{ rows := [[.int .i64 x, .int .i64 y, .str s, .nsl]] }, { rows := [[.int .i64 x, .int .i64 y, .str s, .nsl]] }], ?_⟩
    rw [callW_eqO (fn := fn20) rfl rfl]
    simp [-getElem?_pos, fn20, bin_eql_str, rows_same]
  obtain ⟨H2, h⟩ := h
  exact call2p h rfl rfl

namespace Pl
abbrev Step := Int × Int × Int
def strow (s : Step) : List IV := [.int .i64 s.1, .int .i64 s.2.1, .int .i64 s.2.2]

/-- What is so ahead of a round. -/
structure Ok (i : Nat) (w a : Int) (q : Que) : Prop where
  w1 : 1 ≤ w
  w2 : w ≤ 8
  a0 : 0 ≤ a
  run : ∃ lo hi, Run q lo hi ∧ hi ≤ i ∧ hi - lo ≤ 6

theorem Ok.due {i : Nat} {w a now : Int} {q : Que} (h : Ok i w a q) : Ok (i + 1) (dueR w a q now).2.2.1 (dueR w a q now).2.2.2 q := by
  obtain ⟨h1, h2, h3, lo, hi, h4, h5, h6⟩ := h
  unfold dueR
  cases q.l with
  | nil => exact ⟨h1, h2, h3, lo, hi, h4, by omega, h6⟩
  | cons b l =>
    dsimp only
    split
    · exact ⟨h1, h2, h3, lo, hi, h4, by omega, h6⟩
    · refine ⟨by dsimp only; omega, by dsimp only; omega, ?_, lo, hi, h4, by omega, h6⟩
      dsimp only; split <;> omega
theorem Ok.acked {i : Nat} {w a now : Int} {q : Que} (h : Ok i w a q) : Ok (i + 1) 1 (min (max now 0) 1000000) q := by
  obtain ⟨h1, h2, h3, lo, hi, h4, h5, h6⟩ := h
  exact ⟨by omega, by omega, by omega, lo, hi, h4, by omega, h6⟩
theorem Ok.put {i : Nat} {w a t : Int} {q : Que} (hi : i ≤ 100) (h : Ok i w a q) : Ok (i + 1) w a (q.put t) := by
  obtain ⟨h1, h2, h3, lo, hi, h4, h5, h6⟩ := h
  have hle := h4.le
  refine ⟨h1, h2, h3, _, _, h4.put h6 (by omega), by omega, ?_⟩
  split <;> omega
theorem Ok.ack {i : Nat} {w a n : Int} {q : Que} (h : Ok i w a q) : Ok (i + 1) w a (q.ack n) := by
  obtain ⟨h1, h2, h3, lo, hi, h4, h5, h6⟩ := h
  have hle := h4.le
  have hnx := h4.next
  by_cases hn : q.next ≤ n
  · have : q.ack n = q := by unfold Que.ack; rw [if_pos hn]
    rw [this]; exact ⟨h1, h2, h3, lo, hi, h4, by omega, h6⟩
  · have e : q.ack n = q.ack (n.toNat : Nat) := by
      unfold Que.ack
      rw [if_neg hn, if_neg (by omega), kept_run q.l lo h4.at_, kept_run q.l lo h4.at_]
      congr 2; omega
    rw [e]
    exact ⟨h1, h2, h3, _, _, (h4.ack (n := n.toNat) (by omega)).1, by omega, by omega⟩
theorem Ok.b {i : Nat} {w a : Int} {q : Que} (hi : i ≤ 100) (h : Ok i w a q) : QueOk q ∧ q.l.length ≤ 6 ∧ q.dr.length < 1000 ∧ 0 ≤ q.next ∧ q.next ≤ 1000000000 := by
  obtain ⟨h1, h2, h3, lo, hi, h4, h5, h6⟩ := h
  have hle := h4.le
  have hnx := h4.next
  have hl := h4.len
  have hd := h4.dl
  exact ⟨⟨by omega, by omega, by omega, by omega⟩, by omega, by omega, by omega, by omega⟩

def Sta (S Q R P : Nat) (w a : Int) (q : Que) : Asn := (SQ S Q w a q).star (RP R P w a q)

theorem Sta.s {S Q R P : Nat} {w a : Int} {q : Que} (h : Hold H (Sta S Q R P w a q)) : H[S]? = some (srow w a) := SQ.cell (Hold.fst h)
theorem Sta.r {S Q R P : Nat} {w a : Int} {q : Que} (h : Hold H (Sta S Q R P w a q)) : H[R]? = some (srow w a) := (Hold.fst (Hold.snd h)).cell

theorem L0_eq {e : Env} : runW pg 0 fn6L0 e H = seqO pg 0 fn6L0 (runW pg 0 fn6B0 (keepE [0, 3, 4, 5, 6, 7] e) H) := runW_loopO

theorem round {A : IV} {l : List Step} (hA : SlA A 3 (l.map strow)) (hl : l.length ≤ 80) {S Q R P : Nat} {i : Nat} {w a : Int} {q : Que} {what t n : Int} (hx : l[i]? = some (what, t, n)) (ho : Ok i w a q) (h : Hold H (Sta S Q R P w a q)) :
    ∃ H' w' a' q', runW pg 0 fn6B0 [(0, A), (3, .ptr S 0 0 0), (4, .ptr Q 0 0 0), (5, .ptr R 0 0 0), (6, .ptr P 0 0 0), (7, .int .i64 i)] H = some (.nrm, [(0, A), (3, .ptr S 0 0 0), (4, .ptr Q 0 0 0), (5, .ptr R 0 0 0), (6, .ptr P 0 0 0), (7, .int .i64 (i + 1))], H') ∧ Ok (i + 1) w' a' q' ∧ Hold H' (Sta S Q R P w' a' q') := by
  have hlen := hA.len
  rw [List.length_map] at hlen
  have hil : i < l.length := (List.getElem?_eq_some_iff.1 hx).1
  have hidx := fun H => hA.idx H i (by simpa using hil)
  have hlt : (i : Int) < l.length := by omega
  have w1 : IntKind.i64.wrap ((i : Int) + 1) = i + 1 := by rw [IntKind.wrap_i64]; omega
  obtain ⟨hb, hb2, hb3, hb4, hb5⟩ := ho.b (by omega)
  by_cases c1 : what ≤ 2
  · -- both are asked
    obtain ⟨H2, d1, h2, l2, y2⟩ := ((due_t (now := t) (S := S) (Q := Q) (by omega) ⟨ho.w1, ho.w2⟩ ho.a0).frame).use h [{ rows := [[.int .i64 what, .int .i64 t, .int .i64 n]] }]
    have y2 := y2 0 (by simp)
    obtain ⟨H3, d3, h3, l3, y3⟩ := ((rdue_t (now := t) (S := R) (P := P) ⟨hb4, hb5⟩ ⟨ho.w1, ho.w2⟩ ho.a0).frame).use h2.comm [{ rows := [(dueR w a q t).1] }]
    have y3 := y3 0 (by simp)
    have h4 := (h3.comm).app [{ rows := [(dueR w a q t).1] }]
    have a2 := at_2 (ro := 0) (Sta.s h4)
    have b2 := wait_2 (ro := 0) (Sta.s h4)
    have r2 := Sta.r h4
    refine ⟨_, _, _, q, ?_, ho.due (now := t), h4⟩
    simp at y2 y3 l2 l3
    have hlt2 : H.length < H2.length := by omega
    have hlt3 : H2.length < H3.length := by omega
    obtain ⟨x, y, s, z, hd⟩ : ∃ x y s z, (dueR w a q t).1 = [.int .i64 x, .int .i64 y, .str s, .nsl, .int .i64 z] := by
      unfold dueR
      cases q.l with
      | nil => exact ⟨_, _, _, _, rfl⟩
      | cons b l => dsimp only; split <;> exact ⟨_, _, _, _, rfl⟩
    simp only [hd] at d1 d3 y3 a2 b2 r2 ⊢
    obtain ⟨ok, hok⟩ : ∃ ok, (dueR w a q t).2.1 = ok := ⟨_, rfl⟩
    rw [hok] at d1 d3
    obtain ⟨w', hw'⟩ : ∃ w', (dueR w a q t).2.2.1 = w' := ⟨_, rfl⟩
    obtain ⟨a', ha'⟩ : ∃ a', (dueR w a q t).2.2.2 = a' := ⟨_, rfl⟩
    simp only [hw', ha'] at a2 b2 r2
    unfold srow at r2
    simp [-getElem?_pos, fn6B0, hlen, hlt, hidx, hx, strow, c1, d1, y2, hlt2, List.getElem?_append_left, d3, y3, hlt3, same_2, a2, b2, r2, w1]
  by_cases c2 : what = 3
  · obtain ⟨H2, d1, h2, l2, y2⟩ := ((acked_t (S := S) (w := w) (a := a) (now := t)).frame.frame).use h [{ rows := [[.int .i64 what, .int .i64 t, .int .i64 n]] }]
    have y2 := y2 0 (by simp)
    obtain ⟨H3, d3, h3⟩ := ((racked_t (S := R) (w := w) (a := a) (now := t)).frame.frame).use0 h2.comm
    have h4 := h3.comm
    have a2 := at_2 (ro := 0) (Sta.s h4)
    have b2 := wait_2 (ro := 0) (Sta.s h4)
    have r2 := Sta.r h4
    refine ⟨_, _, _, q, ?_, ho.acked (now := t), h4⟩
    simp at y2
    subst c2
    unfold srow at r2
    simp [-getElem?_pos, fn6B0, hlen, hlt, hidx, hx, strow, d1, y2, d3, a2, b2, r2, w1]
  by_cases c3 : what = 4
  · obtain ⟨H2, d1, h2, l2, y2⟩ := (Trip.frame (B := RP R P w a q) (Trip.comm (Trip.frame (B := cell S (srow w a)) (put_t (t := t) (Q := Q) hb)))).use h [{ rows := [[.int .i64 what, .int .i64 t, .int .i64 n]] }]
    have y2 := y2 0 (by simp)
    obtain ⟨H3, d3, h3⟩ := (Trip.frame (B := SQ S Q w a (q.put t)) (Trip.comm (Trip.frame (B := cell R (srow w a)) (rput_t (t := t) (P := P) hb2 hb3 ⟨hb4, hb5⟩)))).use0 h2.comm
    have h4 := h3.comm
    have a2 := at_2 (ro := 0) (Sta.s h4)
    have b2 := wait_2 (ro := 0) (Sta.s h4)
    have r2 := Sta.r h4
    refine ⟨_, _, _, _, ?_, ho.put (t := t) (by omega), h4⟩
    simp at y2
    subst c3
    unfold srow at r2
    simp [-getElem?_pos, fn6B0, hlen, hlt, hidx, hx, strow, d1, y2, d3, a2, b2, r2, w1]
  · obtain ⟨lo, hi, hrun, _⟩ := ho.run
    have tA := rack_t (n := n) (P := P) (q := q) ⟨hb4, hb5⟩
    rw [ack_same hrun] at tA
    obtain ⟨H2, d1, h2, l2, y2⟩ := (Trip.frame (B := RP R P w a q) (Trip.comm (Trip.frame (B := cell S (srow w a)) (ack_t (n := n) (Q := Q) (q := q) (by omega))))).use h [{ rows := [[.int .i64 what, .int .i64 t, .int .i64 n]] }]
    have y2 := y2 0 (by simp)
    obtain ⟨H3, d3, h3⟩ := (Trip.frame (B := SQ S Q w a (q.ack n)) (Trip.comm (Trip.frame (B := cell R (srow w a)) tA))).use0 h2.comm
    have h4 := h3.comm
    have a2 := at_2 (ro := 0) (Sta.s h4)
    have b2 := wait_2 (ro := 0) (Sta.s h4)
    have r2 := Sta.r h4
    refine ⟨_, _, _, _, ?_, ho.ack (n := n), h4⟩
    simp at y2
    unfold srow at r2
    simp [-getElem?_pos, fn6B0, hlen, hlt, hidx, hx, strow, c1, c2, c3, d1, y2, d3, a2, b2, r2, w1]

theorem outer {A : IV} {l : List Step} (hA : SlA A 3 (l.map strow)) (hl : l.length ≤ 80) {S Q R P : Nat} : ∀ (d i : Nat) (H : Hp) (w a : Int) (q : Que), i + d = l.length → Ok i w a q → Hold H (Sta S Q R P w a q) →
    ∃ H' e', runW pg 0 fn6L0 [(0, A), (3, .ptr S 0 0 0), (4, .ptr Q 0 0 0), (5, .ptr R 0 0 0), (6, .ptr P 0 0 0), (7, .int .i64 i)] H = some (.exit 0, e', H') := by
  have hlen := hA.len
  rw [List.length_map] at hlen
  intro d
  induction d with
  | zero =>
    intro i H w a q hi ho h
    have : i = l.length := by omega
    subst this
    refine ⟨H, [(0, A), (3, .ptr S 0 0 0), (4, .ptr Q 0 0 0), (5, .ptr R 0 0 0), (6, .ptr P 0 0 0), (7, .int .i64 l.length), (26, .bool false)], ?_⟩
    rw [L0_eq]; simp [fn6B0, hlen]
  | succ d ih =>
    intro i H w a q hi ho h
    obtain ⟨⟨what, t, n⟩, hx⟩ : ∃ x, l[i]? = some x := ⟨_, List.getElem?_eq_getElem (by omega)⟩
    obtain ⟨H1, w', a', q', hr, ho', h'⟩ := round hA hl hx ho h
    obtain ⟨H', e', h1⟩ := ih (i + 1) H1 w' a' q' (by omega) ho' h'
    refine ⟨H', e', ?_⟩
    push_cast at h1
    rw [L0_eq]
    simp [hr, h1]

theorem law {A : IV} {l : List Step} (hA : SlA A 3 (l.map strow)) : ∃ H', callW pg 0 6 [A] [] = some (.bool true, H') := by
  have hlen := hA.len
  rw [List.length_map] at hlen
  rw [callW_eqO (fn := fn6) rfl rfl]
  by_cases hl : (80 : Int) < l.length
  · refine ⟨[], ?_⟩
    simp [-getElem?_pos, fn6, known_2, hlen, hl]
  have h0 : Hold ([srow 1 0, { rows := [[.nsl, .nsl, .int .i64 1]] }] : Hp) (SQ 0 1 1 0 ⟨[], [], 1⟩) := start (H := [])
  have h1 : Hold ([srow 1 0, { rows := [[.nsl, .nsl, .int .i64 1]] }, srow 1 0, { rows := [[.nsl, .int .i64 0, .nsl, .int .i64 0]] }] : Hp) (Sta 0 1 2 3 1 0 ⟨[], [], 1⟩) := by
    refine h0.new (Y := [srow 1 0, { rows := [[.nsl, .int .i64 0, .nsl, .int .i64 0]] }]) ⟨[2, 3], ⟨[2], [3], rfl, ⟨rfl, rfl⟩, ⟨.nsl, .nsl, 0, ⟨rfl, Sq.nil, ⟨[], Sl.nil, by simp⟩, by simp [blkS], by simp [blkS], by simp [blkS]⟩, rfl⟩, by simp⟩, by simp⟩
  obtain ⟨H', e', hr⟩ := outer hA (by omega) l.length 0 _ 1 0 ⟨[], [], 1⟩ (by omega) ⟨by omega, by omega, by omega, 0, 0, ⟨rfl, rfl, by omega, by simp, by simp⟩, by omega, by omega⟩ h1
  have n1 := newS (ro := 0) (H := [])
  have n2 := newQ (ro := 0) (H := [] ++ [srow 1 0])
  have n3 : ∀ H, callW pg 0 18 [] H = some (.ptr H.length 0 0 0, H ++ [srow 1 0]) := by
    intro H
    rw [callW_eqO (fn := fn18) rfl rfl]
    simp [fn18, srow]
  simp at n1 n2 hr
  refine ⟨H', ?_⟩
  simp [-getElem?_pos, fn6, known_2, hlen, hl, n1, n2, n3, hr]

abbrev TL : Ty := .sl (.pair (.int .i64) (.pair (.int .i64) (.int .i64)))
theorem wf (x0 : TL.den) (_ : TL.ok x0) : ∃ H', callW pg 0 6 [TL.arg x0] [] = some (.bool true, H') := by
  obtain ⟨l, hA, hl⟩ := sl_arg (e := .pair (.int .i64) (.pair (.int .i64) (.int .i64))) x0
  have e : l.map (Ty.pair (.int .i64) (.pair (.int .i64) (.int .i64))).enc = l.map strow := rfl
  rw [e] at hA
  exact law hA
end Pl
end Go.Proofs.Ytemjonhhcadbbaa
