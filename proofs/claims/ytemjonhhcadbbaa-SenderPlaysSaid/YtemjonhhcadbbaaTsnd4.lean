/- The laws 'SenderIdle' and 'SenderWaits'. -/
import Derived.Test.YtemjonhhcadbbaaTsnd3
namespace Go.Proofs.Ytemjonhhcadbbaa
open Go Go.Vs
variable {ro : Nat} {H : Hp}

theorem known_c : ∃ H', callW pg 0 8 [] [] = some (.bool true, H') := callW_of (n := 40) (by kernel_rfl)
theorem known_2 : doCall (callW pg) 0 2 (.fn 8 []) [] [] = some (.bool true, []) := by
  obtain ⟨Hk, hkn⟩ := known_c
  exact call2p hkn rfl rfl

theorem newS : callW pg ro 9 [] H = some (.ptr H.length 0 0 0, H ++ [srow 1 0]) := by
  rw [callW_eqO (fn := fn9) rfl rfl]
  simp [fn9, srow]
theorem at_2 {S : Nat} {w a : Int} (hS : H[S]? = some (srow w a)) : doCall (callW pg) ro 2 (.fn 13 []) [.ptr S 0 0 0] H = some (.int .i64 a, H) := by
  refine call2 (H2 := H) (args' := [.ptr S 0 0 0]) rfl ?_ rfl (.inl rfl)
  unfold srow at hS
  rw [callW_eqO (fn := fn13) rfl rfl]
  simp [-getElem?_pos, fn13, hS]
theorem wait_2 {S : Nat} {w a : Int} (hS : H[S]? = some (srow w a)) : doCall (callW pg) ro 2 (.fn 12 []) [.ptr S 0 0 0] H = some (.int .i64 w, H) := by
  refine call2 (H2 := H) (args' := [.ptr S 0 0 0]) rfl ?_ rfl (.inl rfl)
  unfold srow at hS
  rw [callW_eqO (fn := fn12) rfl rfl]
  simp [-getElem?_pos, fn12, hS]

/-- A sender and a queue. -/
def SQ (S Q : Nat) (w a : Int) (q : Que) : Asn := (cell S (srow w a)).star (QO Q q)

theorem due_h {S Q : Nat} {w a now : Int} {q : Que} (h : Hold H (SQ S Q w a q)) (hq : q.l.length ≤ 1000) (hw : 1 ≤ w ∧ w ≤ 8) (ha : 0 ≤ a) :
    ∃ H', callW pg 0 11 [.ptr S 0 0 0, .ptr Q 0 0 0, .int .i64 now] H = some (.tup [.agg (dueR w a q now).1, .bool (dueR w a q now).2.1], H') ∧ Hold H' (SQ S Q (dueR w a q now).2.2.1 (dueR w a q now).2.2.2 q) :=
  (due_t hq hw ha).use0 h
theorem put_h {S Q : Nat} {w a t : Int} {q : Que} (h : Hold H (SQ S Q w a q)) (ho : QueOk q) :
    ∃ H', callW pg 0 14 [.ptr Q 0 0 0, .int .i64 t, .str ⟨#[103]⟩, .nsl] H = some (.int .i64 q.next, H') ∧ Hold H' (SQ S Q w a (q.put t)) := by
  obtain ⟨H', h1, h2⟩ := (put_t (t := t) ho).frame.use0 h.comm
  exact ⟨H', h1, h2.comm⟩
theorem start : Hold (H ++ [srow 1 0] ++ [{ rows := [[.nsl, .nsl, .int .i64 1]] }]) (SQ H.length (H.length + 1) 1 0 ⟨[], [], 1⟩) := by
  have h1 : Hold (H ++ [srow 1 0]) (cell H.length (srow 1 0)) := ⟨_, rfl, by simp⟩
  refine h1.new ?_
  have := newQ_hold (H := H ++ [srow 1 0])
  simpa using this
theorem acked_h {S Q : Nat} {w a now : Int} {q : Que} (h : Hold H (SQ S Q w a q)) :
    ∃ H', callW pg 0 15 [.ptr S 0 0 0, .int .i64 now] H = some (.tup [], H') ∧ Hold H' (SQ S Q 1 (min (max now 0) 1000000) q) := by
  have t : Trip (cell S (srow w a)) (callW pg 0 15 [.ptr S 0 0 0, .int .i64 now]) (.tup []) (cell S (srow 1 (min (max now 0) 1000000))) := by
    rintro H F ⟨rfl, hS⟩
    have hlt : S < H.length := (List.getElem?_eq_some_iff.1 hS).1
    refine ⟨H.set S (srow 1 (min (max now 0) 1000000)), [S], ?_, ⟨rfl, List.getElem?_set_self hlt⟩, ⟨by simp, fun b hb hne => List.getElem?_set_ne (fun e => hne (by simp [e])), fun b hb => .inl hb⟩⟩
    unfold srow at hS ⊢
    rw [callW_eqO (fn := fn15) rfl rfl]
    simp [-getElem?_pos, fn15, hS, hlt]
  exact t.frame.use0 h
theorem SQ.cell {S Q : Nat} {w a : Int} {q : Que} (h : Hold H (SQ S Q w a q)) : H[S]? = some (srow w a) := (Hold.fst h).cell
theorem SQ.low {S Q : Nat} {w a : Int} {q : Que} (h : Hold H (SQ S Q w a q)) : doCall (callW pg) ro 2 (.fn 17 []) [.ptr Q 0 0 0] H = some (.int .i64 (match q.l with | [] => q.next | b :: _ => b.1), H) := by
  obtain ⟨F, vd, v, h, _⟩ := Hold.snd h
  exact low_2 h

/-! the law 'SenderIdle' -/
namespace Idl
def ir (n : Int) : List IV := [.int .u16 n]
def Giv (l : List Int) : Prop := ∀ x ∈ l, 0 ≤ x ∧ x < 65536

theorem loop0 {A : IV} {l : List Int} (hA : SlA A 1 (l.map ir)) (hG : Giv l) (hl : l.length ≤ 60) {S Q : Nat} : ∀ (n i : Nat) (H : Hp), i + n = l.length → Hold H (SQ S Q 1 0 ⟨[], [], 1⟩) →
    ∃ H' e', runW pg 0 fn3L0 [(0, A), (3, .ptr S 0 0 0), (4, .ptr Q 0 0 0), (5, .int .i64 i)] H = some (.exit 0, e', H') ∧ get e' 0 = A ∧ get e' 3 = .ptr S 0 0 0 ∧ get e' 4 = .ptr Q 0 0 0 ∧ Hold H' (SQ S Q 1 0 ⟨[], [], 1⟩) := by
  have L : ∀ e H, runW pg 0 fn3L0 e H = seqO pg 0 fn3L0 (runW pg 0 fn3B0 (keepE [0, 3, 4, 5] e) H) := fun e H => runW_loopO
  have hlen := hA.len
  rw [List.length_map] at hlen
  intro n
  induction n with
  | zero =>
    intro i H hi h
    have : i = l.length := by omega
    subst this
    refine ⟨H, [(0, A), (3, .ptr S 0 0 0), (4, .ptr Q 0 0 0), (5, .int .i64 l.length), (26, .bool false)], ?_, rfl, rfl, rfl, h⟩
    rw [L]; simp [fn3B0, hlen]
  | succ n ih =>
    intro i H hi h
    obtain ⟨x, hx⟩ : ∃ x, l[i]? = some x := ⟨_, List.getElem?_eq_getElem (by omega)⟩
    have hg := hG x (List.mem_of_getElem? hx)
    have hrow : (l.map ir)[i]? = some [.int .u16 x] := by rw [List.getElem?_map, hx]; rfl
    have hidx := fun H => hA.idx H i (by simp; omega)
    have hlt : (i : Int) < l.length := by omega
    have w1 : IntKind.i64.wrap ((i : Int) + 1) = i + 1 := by rw [IntKind.wrap_i64]; omega
    have w2 : IntKind.i64.wrap x = x := by rw [IntKind.wrap_i64]; omega
    obtain ⟨H1, hd, h1⟩ := due_h (now := x) h (by simp) (by omega) (by omega)
    have e : dueR 1 0 ⟨[], [], 1⟩ x = (zLet, false, 1, 0) := rfl
    rw [e] at hd h1
    have h2 := h1.app [{ rows := [zLet] }]
    have a2 := at_2 (ro := 0) (SQ.cell h2)
    have b2 := wait_2 (ro := 0) (SQ.cell h2)
    obtain ⟨H', e', hr, g1, g2, g3, g4⟩ := ih (i + 1) _ (by omega) h2
    refine ⟨H', e', ?_, g1, g2, g3, g4⟩
    unfold zLet at hd a2 b2 hr
    push_cast at hr
    rw [L]
    simp [-getElem?_pos, fn3B0, hlen, hlt, hidx, hx, ir, w2, hd, a2, b2, w1, hr]

theorem loop1 {A : IV} {l : List Int} (hA : SlA A 1 (l.map ir)) (hG : Giv l) (hl : l.length ≤ 60) {S Q : Nat} {q : Que} {b : Bt} {bs : List Bt} (hq : q.l = b :: bs) (hq2 : q.l.length ≤ 1000) : ∀ (n i : Nat) (H : Hp), i + n = l.length → Hold H (SQ S Q 2 51 q) →
    ∃ H' e', runW pg 0 fn3L1 [(0, A), (3, .ptr S 0 0 0), (4, .ptr Q 0 0 0), (9, .bool true), (10, .int .i64 i)] H = some (.exit 2, e', H') ∧ get e' 3 = .ptr S 0 0 0 ∧ get e' 4 = .ptr Q 0 0 0 ∧ get e' 9 = .bool true ∧ Hold H' (SQ S Q 2 51 q) := by
  have L : ∀ e H, runW pg 0 fn3L1 e H = seqO pg 0 fn3L1 (runW pg 0 fn3B1 (keepE [0, 3, 4, 9, 10] e) H) := fun e H => runW_loopO
  have hlen := hA.len
  rw [List.length_map] at hlen
  intro n
  induction n with
  | zero =>
    intro i H hi h
    have : i = l.length := by omega
    subst this
    refine ⟨H, [(0, A), (3, .ptr S 0 0 0), (4, .ptr Q 0 0 0), (9, .bool true), (10, .int .i64 l.length), (64, .bool false)], ?_, rfl, rfl, rfl, h⟩
    rw [L]; simp [fn3B1, hlen]
  | succ n ih =>
    intro i H hi h
    obtain ⟨x, hx⟩ : ∃ x, l[i]? = some x := ⟨_, List.getElem?_eq_getElem (by omega)⟩
    have hg := hG x (List.mem_of_getElem? hx)
    have hrow : (l.map ir)[i]? = some [.int .u16 x] := by rw [List.getElem?_map, hx]; rfl
    have hidx := fun H => hA.idx H i (by simp; omega)
    have hlt : (i : Int) < l.length := by omega
    have w1 : IntKind.i64.wrap ((i : Int) + 1) = i + 1 := by rw [IntKind.wrap_i64]; omega
    have w2 : IntKind.i64.wrap (x % 51) = x % 51 := by rw [IntKind.wrap_i64]; omega
    have hrem : binV .rem (.int .u16 x) (.int .u16 51) = some (.int .u16 (x % 51)) := by rw [bin_rem (by decide), Int.tmod_eq_emod_of_nonneg hg.1]
    obtain ⟨H1, hd, h1⟩ := due_h (now := x % 51) h hq2 (by omega) (by omega)
    have e : dueR 2 51 q (x % 51) = (zLet, false, 2, 51) := by unfold dueR; rw [hq]; dsimp only; rw [if_pos (by omega)]
    rw [e] at hd h1
    have h2 := h1.app [{ rows := [zLet] }]
    have a2 := at_2 (ro := 0) (SQ.cell h2)
    have b2 := wait_2 (ro := 0) (SQ.cell h2)
    obtain ⟨H', e', hr, g2, g3, g4, g5⟩ := ih (i + 1) _ (by omega) h2
    refine ⟨H', e', ?_, g2, g3, g4, g5⟩
    unfold zLet at hd a2 b2 hr
    push_cast at hr
    rw [L]
    simp [-getElem?_pos, fn3B1, hlen, hlt, hidx, hx, ir, hrem, w2, hd, a2, b2, w1, hr]

theorem law {A : IV} {l : List Int} (hA : SlA A 1 (l.map ir)) (hG : Giv l) : ∃ H', callW pg 0 3 [A] [] = some (.bool true, H') := by
  have hlen := hA.len
  rw [List.length_map] at hlen
  rw [callW_eqO (fn := fn3) rfl rfl]
  by_cases hl : (60 : Int) < l.length
  · refine ⟨[], ?_⟩
    simp [-getElem?_pos, fn3, known_2, hlen, hl]
  have h0 : Hold ([srow 1 0, { rows := [[.nsl, .nsl, .int .i64 1]] }] : Hp) (SQ 0 1 1 0 ⟨[], [], 1⟩) := start (H := [])
  obtain ⟨H1, e1, r1, p1, p2, p3, h1⟩ := loop0 hA hG (by omega) l.length 0 _ (by omega) h0
  obtain ⟨H2, hput, h2⟩ := put_h (t := 0) h1 ⟨by simp, by simp, by simp, by simp⟩
  obtain ⟨H3, hdue, h3⟩ := due_h (now := 50) h2 (by simp [Que.put, Que.cut]) (by omega) (by omega)
  have e3 : dueR 1 0 (Que.put ⟨[], [], 1⟩ 0) 50 = (brow (1, 0) ++ [.int .i64 1], true, 2, 51) := by simp [dueR, Que.put, Que.cut]; decide
  rw [e3] at hdue h3
  have h4 := h3.app [{ rows := [brow (1, 0) ++ [.int .i64 1]] }]
  obtain ⟨H5, e5, r5, q2, q3, q4, h5⟩ := loop1 hA hG (by omega) (q := Que.put ⟨[], [], 1⟩ 0) (b := (1, 0)) (bs := []) rfl (by simp [Que.put, Que.cut]) l.length 0 _ (by omega) h4
  obtain ⟨H6, hdue6, h6⟩ := due_h (now := -5) h5 (by simp [Que.put, Que.cut]) (by omega) (by omega)
  have e6 : dueR 2 51 (Que.put ⟨[], [], 1⟩ 0) (-5) = (zLet, false, 2, 51) := by simp [dueR, Que.put, Que.cut]
  rw [e6] at hdue6 h6
  have h7 := h6.app [{ rows := [zLet] }]
  have b2 := wait_2 (ro := 0) (SQ.cell h7)
  have n1 := newS (ro := 0) (H := [])
  have n2 := newQ (ro := 0) (H := [] ++ [srow 1 0])
  unfold zLet at hdue6 b2
  unfold brow at hdue r5
  simp at n1 n2 r1 hdue r5
  refine ⟨H6 ++ [{ rows := [zLet] }], ?_⟩
  unfold zLet
  simp [-getElem?_pos, fn3, known_2, hlen, hl, n1, n2, r1, p1, p2, p3, hput, hdue, r5, q2, q3, q4, hdue6, b2]

abbrev TL : Ty := .sl (.int .u16)
theorem wf (x0 : TL.den) (ok0 : TL.ok x0) : ∃ H', callW pg 0 3 [TL.arg x0] [] = some (.bool true, H') := by
  obtain ⟨l, hA, hl⟩ := sl_arg (e := .int .u16) x0
  refine law (l := l) hA ?_
  rcases hl with ⟨_, rfl⟩ | h
  · intro y hy; cases hy
  · intro y hy
    exact wf_u16 _ ((ok0 l h).2 y hy)
end Idl
end Go.Proofs.Ytemjonhhcadbbaa
