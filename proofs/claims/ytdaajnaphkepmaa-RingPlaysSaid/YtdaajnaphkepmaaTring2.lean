import Derived.Test.YtdaajnaphkepmaaTring1
namespace Go.Proofs.Ytdaajnaphkepmaa
open Go Go.Vs
variable {ro : Nat} {H : Hp}

/-! the clock -/
theorem start_c {n : Int} (hr : ro ≤ H.length) : ∃ H2, callW pg ro 25 [.int .i64 n] H = some (.agg [.int .i64 (min (max n 1) 100), .int .i64 0, .int .i64 (-1)], H2) := by
  rw [callW_eqO (fn := fn25) rfl rfl]
  simp [fn25, hr]

theorem moves_c {R : Nat} {w now last n : Int} {rest : List IV} (hR : H[R]? = some { rows := [.int .i64 w :: .int .i64 now :: .int .i64 last :: rest] }) (hr : ro ≤ R) :
    callW pg ro 28 [.ptr R 0 0 0, .int .i64 n] H = some (.tup [], H.set R { rows := [.int .i64 w :: .int .i64 (max now (min n 1000000)) :: .int .i64 last :: rest] }) := by
  rw [callW_eqO (fn := fn28) rfl rfl]
  simp [fn28, hR, hr]

theorem gone_c {R : Nat} {w now t : Int} {rest : List IV} (hR : H[R]? = some { rows := [.int .i64 w :: .int .i64 now :: rest] }) :
    callW pg ro 29 [.ptr R 0 0 0, .int .i64 t] H = some (.bool (decide (t ≤ IntKind.i64.wrap (now - w))), H) := by
  rw [callW_eqO (fn := fn29) rfl rfl]
  simp [fn29, hR]

theorem gone_2 {R : Nat} {w now t : Int} {rest : List IV} (hR : H[R]? = some { rows := [.int .i64 w :: .int .i64 now :: rest] }) :
    doCall (callW pg) ro 2 (.fn 29 []) [.ptr R 0 0 0, .int .i64 t] H = some (.bool (decide (t ≤ IntKind.i64.wrap (now - w))), H) :=
  call2 (args' := [.ptr R 0 0 0, .int .i64 t]) (by simp) (gone_c hR) rfl (.inl rfl)

/-- What a clock says to a time. -/
def takes (w now last t : Int) : Int := if t < 0 ∨ now < t ∨ t ≤ IntKind.i64.wrap (now - w) then 152 else if t ≤ last then 150 else 0

theorem takes_c {R : Nat} {w now last t : Int} {rest : List IV} (hR : H[R]? = some { rows := [.int .i64 w :: .int .i64 now :: .int .i64 last :: rest] }) (hr : ro ≤ R) :
    callW pg ro 31 [.ptr R 0 0 0, .int .i64 t] H = some (.int .i64 (takes w now last t), if takes w now last t = 0 then H.set R { rows := [.int .i64 w :: .int .i64 now :: .int .i64 t :: rest] } else H) := by
  rw [callW_eqO (fn := fn31) rfl rfl]
  unfold takes
  by_cases h1 : t < 0
  · simp [fn31, hR, hr, gone_2 hR, h1]
  · by_cases h2 : now < t
    · simp [fn31, hR, hr, gone_2 hR, h1, h2]
    · by_cases h3 : t ≤ IntKind.i64.wrap (now - w)
      · simp [fn31, hR, hr, gone_2 hR, h1, h2, h3]
      · by_cases h4 : t ≤ last
        · simp [fn31, hR, hr, gone_2 hR, h1, h2, h3, h4]
        · simp [fn31, hR, hr, gone_2 hR, h1, h2, h3, h4]

/-! the total -/
def hi (S : Int) : Int := S / 18446744073709551616 % 18446744073709551616
def lo (S : Int) : Int := S % 18446744073709551616

theorem set_sum {R : Nat} {x y z : IV} {a a' b b' : Int} {rest : List IV} (h1 : a = a') (h2 : b = b') : H.set R { rows := [x :: y :: z :: .int .u64 a :: .int .u64 b :: rest] } = H.set R { rows := [x :: y :: z :: .int .u64 a' :: .int .u64 b' :: rest] } := by subst h1 h2; rfl

theorem adds_ovf {R : Nat} {x y z a b : IV} {over n : Int} {rest : List IV} {away : Bool} (hR : H[R]? = some { rows := [x :: y :: z :: a :: b :: .int .i64 over :: rest] }) (hr : ro ≤ R) :
    callW pg ro 30 [.ptr R 0 0 3, .agg [.bool true, .int .i64 n], .bool away] H = some (.tup [], H.set R { rows := [x :: y :: z :: a :: b :: .int .i64 (IntKind.i64.wrap (over + if away then -1 else 1)) :: rest] } ++ [{ rows := [[.bool true, .int .i64 n]] }]) := by
  have hlt : R < H.length := (List.getElem?_eq_some_iff.1 hR).1
  rw [callW_eqO (fn := fn30) rfl rfl]
  cases away <;> simp [fn30, hR, hr, List.getElem?_append_left hlt, List.set_append_left _ _ hlt]

theorem adds_num {R : Nat} {x y z : IV} {S over n : Int} {rest : List IV} {away : Bool} (hR : H[R]? = some { rows := [x :: y :: z :: .int .u64 (hi S) :: .int .u64 (lo S) :: .int .i64 over :: rest] }) (hr : ro ≤ R)
    (h1 : -9223372036854775808 < n) (h2 : n < 9223372036854775808) :
    callW pg ro 30 [.ptr R 0 0 3, .agg [.bool false, .int .i64 n], .bool away] H = some (.tup [], H.set R { rows := [x :: y :: z :: .int .u64 (hi (S + if away then -n else n)) :: .int .u64 (lo (S + if away then -n else n)) :: .int .i64 over :: rest] } ++ [{ rows := [[.bool false, .int .i64 n]] }]) := by
  have hlt : R < H.length := (List.getElem?_eq_some_iff.1 hR).1
  have hl0 : 0 ≤ lo S := by unfold lo; omega
  have hh0 : 0 ≤ hi S := by unfold hi; omega
  rw [callW_eqO (fn := fn30) rfl rfl]
  cases away
  · have c0 : 0 ≤ (lo S + n % 18446744073709551616) / 18446744073709551616 := by omega
    have c1 : (lo S + n % 18446744073709551616) / 18446744073709551616 ≤ 1 := by unfold lo; omega
    simp [-getElem?_pos, fn30, hR, hr, hlt, List.getElem?_append_left, List.set_append_left, List.getElem?_set_self, IntKind.wrap_u64, IntKind.wrap_i64, hl0, hh0, c0, c1]
    exact set_sum (by unfold hi lo; omega) (by unfold lo; omega)
  · have c0 : 0 ≤ (lo S + (-n) % 18446744073709551616) / 18446744073709551616 := by omega
    have c1 : (lo S + (-n) % 18446744073709551616) / 18446744073709551616 ≤ 1 := by unfold lo; omega
    simp [-getElem?_pos, fn30, hR, hr, hlt, List.getElem?_append_left, List.set_append_left, List.getElem?_set_self, IntKind.wrap_u64, IntKind.wrap_i64, hl0, hh0, c0, c1]
    exact set_sum (by unfold hi lo; omega) (by unfold lo; omega)

/-! numbers -/
def okNum (o : Bool) (n : Int) : Bool := if o then decide (n = 0) else !decide (n = -9223372036854775808)

theorem ovf_2 : doCall (callW pg) ro 2 (.fn 43 []) [] H = some (.agg [.bool true, .int .i64 0], H) := call2p (ovf_c (Nat.le_refl _)) rfl rfl

theorem is_c {o : Bool} {n : Int} : ∃ H2, callW pg ro 46 [.agg [.bool o, .int .i64 n]] H = some (.bool (okNum o n), H2) := by
  rw [callW_eqO (fn := fn46) rfl rfl]
  unfold okNum
  cases o
  · by_cases h : n = -9223372036854775808 <;> simp [fn46, ovf_2, h]
  · by_cases h : n = 0 <;> simp [fn46, ovf_2, h]

theorem is_2 {o : Bool} {n : Int} : doCall (callW pg) ro 2 (.fn 46 []) [.agg [.bool o, .int .i64 n]] H = some (.bool (okNum o n), H) := by
  obtain ⟨H2, h⟩ := is_c (ro := H.length) (H := H) (o := o) (n := n)
  exact call2p h rfl rfl

/-- The sum that a window tells. -/
def sumNum (S over : Int) : IV := if 0 < over ∨ S ≤ -9223372036854775808 ∨ 9223372036854775808 ≤ S then .agg [.bool true, .int .i64 0] else .agg [.bool false, .int .i64 S]

theorem wrap_hi {S : Int} (h1 : -170141183460469231731687303715884105728 ≤ S) (h2 : S < 170141183460469231731687303715884105728) :
    IntKind.u64.wrap (IntKind.i64.wrap (lo S) / 9223372036854775808) = hi S ↔ -9223372036854775808 ≤ S ∧ S < 9223372036854775808 := by
  rw [IntKind.wrap_i64, IntKind.wrap_u64]
  unfold hi lo
  have hS : S = S / 18446744073709551616 * 18446744073709551616 + S % 18446744073709551616 := by omega
  have hl0 : 0 ≤ S % 18446744073709551616 := by omega
  have hl1 : S % 18446744073709551616 < 18446744073709551616 := by omega
  have hq0 : -9223372036854775808 ≤ S / 18446744073709551616 := by omega
  have hq1 : S / 18446744073709551616 < 9223372036854775808 := by omega
  generalize S / 18446744073709551616 = q at *
  generalize S % 18446744073709551616 = l at *
  have e1 : ((l + 9223372036854775808) % 18446744073709551616 - 9223372036854775808) / 9223372036854775808 = if l < 9223372036854775808 then 0 else -1 := by split <;> omega
  rw [e1]
  split
  · constructor
    · intro h
      have : q = 0 := by omega
      omega
    · intro h
      have : q = 0 := by omega
      omega
  · constructor
    · intro h
      have : q = -1 := by omega
      omega
    · intro h
      have : q = -1 := by omega
      omega

theorem num_c {R : Nat} {x y z : IV} {S over : Int} {rest : List IV} (hR : H[R]? = some { rows := [x :: y :: z :: .int .u64 (hi S) :: .int .u64 (lo S) :: .int .i64 over :: rest] }) (hr : ro ≤ H.length)
    (h1 : -170141183460469231731687303715884105728 ≤ S) (h2 : S < 170141183460469231731687303715884105728) :
    ∃ H2, callW pg ro 33 [.ptr R 0 0 3] H = some (sumNum S over, H2) := by
  have hlt : R < H.length := (List.getElem?_eq_some_iff.1 hR).1
  have hne : R ≠ H.length := by omega
  rw [callW_eqO (fn := fn33) rfl rfl]
  unfold sumNum
  by_cases ho : 0 < over
  · simp [-getElem?_pos, fn33, hR, hr, hlt, List.getElem?_append_left, List.set_append_left, is_2, ho]
  · have hsm : S / 18446744073709551616 % 18446744073709551616 = hi S := rfl
    have hl : IntKind.i64.wrap (lo S) = (lo S + 9223372036854775808) % 18446744073709551616 - 9223372036854775808 := IntKind.wrap_i64 _
    by_cases h3 : S < -9223372036854775808 ∨ 9223372036854775808 ≤ S
    · have h4 : ¬ IntKind.u64.wrap (IntKind.i64.wrap (lo S) / 9223372036854775808) = hi S := by
        rw [wrap_hi h1 h2]; omega
      have h5 : 0 < over ∨ S ≤ -9223372036854775808 ∨ 9223372036854775808 ≤ S := by omega
      simp [-getElem?_pos, fn33, hR, hr, hlt, List.getElem?_append_left, List.set_append_left, is_2, ho, h4, h5]
      omega
    · have h4 : IntKind.u64.wrap (IntKind.i64.wrap (lo S) / 9223372036854775808) = hi S := by
        rw [wrap_hi h1 h2]; omega
      have h6 : IntKind.i64.wrap (lo S) = S := by rw [hl]; unfold lo; omega
      rw [h6] at h4
      by_cases h7 : S = -9223372036854775808
      · have hk : okNum false S = false := by simp [okNum, h7]
        have h5 : S ≤ -9223372036854775808 := by omega
        simp [-getElem?_pos, fn33, hR, hr, hlt, List.getElem?_append_left, List.set_append_left, is_2, ho, h4, h6, hk, h5]
      · have hk : okNum false S = true := by simp [okNum, h7]
        have h5 : ¬ S ≤ -9223372036854775808 := by omega
        have h8 : ¬ 9223372036854775808 ≤ S := by omega
        simp [-getElem?_pos, fn33, hR, hr, hlt, List.getElem?_append_left, List.set_append_left, is_2, ho, h4, h6, hk, h5, h8]

/-- A sample's value as it is held. -/
def held (o : Bool) (n : Int) : IV := if okNum o n then .agg [.bool o, .int .i64 n] else .agg [.bool true, .int .i64 0]

theorem held_c {o : Bool} {n : Int} (hr : ro ≤ H.length) : ∃ H2, callW pg ro 32 [.agg [.bool o, .int .i64 n]] H = some (held o n, H2) := by
  rw [callW_eqO (fn := fn32) rfl rfl]
  unfold held
  cases h : okNum o n <;> simp [-getElem?_pos, fn32, hr, is_2, h]

/-! the ring -/
/-- A sample's row. -/
def srow (s : Int × Bool × Int) : List IV := [.int .i64 s.1, .bool s.2.1, .int .i64 s.2.2]

/-- Where the samples lie. -/
def SlOk (H : Hp) (v : IV) (l : List (Int × Bool × Int)) : Prop :=
  (v = .nsl ∧ l = []) ∨ ∃ b g pre, v = .arr b g pre.length l.length l.length false ∧ H[b]? = some { rows := pre ++ l.map srow, gen := g } ∧ 0 < pre.length + l.length ∧ ∀ r ∈ pre, r.length = 3

def blkV : IV → Option Nat
  | .arr b _ _ _ _ _ => some b
  | _ => none

/-- A ring: its window, its time, its last time, its samples. -/
structure Ring where
  w : Int
  now : Int
  last : Int
  l : List (Int × Bool × Int)

def sv (s : Int × Bool × Int) : Int := if s.2.1 then 0 else s.2.2
def so (s : Int × Bool × Int) : Int := if s.2.1 then 1 else 0
def sumS : List (Int × Bool × Int) → Int
  | [] => 0
  | s :: l => sv s + sumS l
def cntO : List (Int × Bool × Int) → Int
  | [] => 0
  | s :: l => so s + cntO l
theorem sumS_app (l m : List (Int × Bool × Int)) : sumS (l ++ m) = sumS l + sumS m := by
  induction l with
  | nil => simp [sumS]
  | cons s l ih => simp only [List.cons_append, sumS, ih]; omega
theorem cntO_app (l m : List (Int × Bool × Int)) : cntO (l ++ m) = cntO l + cntO m := by
  induction l with
  | nil => simp [cntO]
  | cons s l ih => simp only [List.cons_append, cntO, ih]; omega
theorem so_01 (s : Int × Bool × Int) : 0 ≤ so s ∧ so s ≤ 1 := by unfold so; split <;> omega
theorem cntO_le (l : List (Int × Bool × Int)) : 0 ≤ cntO l ∧ cntO l ≤ l.length := by
  induction l with
  | nil => simp [cntO]
  | cons s l ih => have := so_01 s; simp only [cntO, List.length_cons]; omega

def Ring.row (r : Ring) (v : IV) : List IV := [.int .i64 r.w, .int .i64 r.now, .int .i64 r.last, .int .u64 (hi (sumS r.l)), .int .u64 (lo (sumS r.l)), .int .i64 (cntO r.l), v]

structure RingAt (H : Hp) (R : Nat) (v : IV) (r : Ring) : Prop where
  at_ : H[R]? = some { rows := [r.row v] }
  sl : SlOk H v r.l
  ne : blkV v ≠ some R

/-- What may be held. -/
def SmpOk (s : Int × Bool × Int) : Prop := s.2.1 = false → -9223372036854775808 < s.2.2 ∧ s.2.2 < 9223372036854775808

structure RingOk (r : Ring) : Prop where
  w1 : 1 ≤ r.w
  w2 : r.w ≤ 100
  n1 : 0 ≤ r.now
  n2 : r.now ≤ 1000000
  len : r.l.length ≤ 1000000
  nums : ∀ s ∈ r.l, SmpOk s

theorem sv_le {s : Int × Bool × Int} (h : SmpOk s) : -9223372036854775808 < sv s ∧ sv s < 9223372036854775808 := by
  unfold sv
  split
  · omega
  · rename_i h1; exact h (by simpa using h1)
theorem sumS_le {l : List (Int × Bool × Int)} (h : ∀ s ∈ l, SmpOk s) : -9223372036854775808 * (l.length : Int) ≤ sumS l ∧ sumS l ≤ 9223372036854775808 * l.length := by
  induction l with
  | nil => simp [sumS]
  | cons s l ih =>
    have h1 := ih fun x hx => h x (List.mem_cons_of_mem _ hx)
    have h2 := sv_le (h s (List.mem_cons_self ..))
    simp only [sumS, List.length_cons]
    omega
theorem RingOk.sum {r : Ring} (h : RingOk r) : -170141183460469231731687303715884105728 ≤ sumS r.l ∧ sumS r.l < 170141183460469231731687303715884105728 := by
  have := sumS_le h.nums
  have := h.len
  omega

/-- What a call leaves. -/
structure Keeps (H H' : Hp) (R : Nat) (v : IV) : Prop where
  len : H.length ≤ H'.length
  same : ∀ b, b < H.length → b ≠ R → blkV v ≠ some b → H'[b]? = H[b]?

theorem all3 {pre : List (List IV)} {l : List (Int × Bool × Int)} (h : ∀ r ∈ pre, r.length = 3) : ∀ r ∈ pre ++ l.map srow, r.length = 3 := by
  intro r hr
  rcases List.mem_append.1 hr with h1 | h1
  · exact h r h1
  · obtain ⟨s, _, rfl⟩ := List.mem_map.1 h1; rfl

theorem new_c {n : Int} (hr : ro ≤ H.length) : callW pg ro 9 [.int .i64 n] H = some (.ptr H.length 0 0 0, H ++ [{ rows := [Ring.row ⟨min (max n 1) 100, 0, -1, []⟩ .nsl] }]) := by
  have c1 : ∀ (ro : Nat) (H : Hp), doCall (callW pg) ro 2 (.fn 25 []) [.int .i64 n] H = some (.agg [.int .i64 (min (max n 1) 100), .int .i64 0, .int .i64 (-1)], H) := by
    intro ro H
    obtain ⟨H2, h⟩ := start_c (ro := H.length) (H := H) (n := n) (Nat.le_refl _)
    exact call2p h rfl rfl
  rw [callW_eqO (fn := fn9) rfl rfl]
  simp [fn9, c1, Ring.row, hi, lo, sumS, cntO]

theorem len_c {R : Nat} {v : IV} {r : Ring} (h : RingAt H R v r) : callW pg ro 14 [.ptr R 0 0 0] H = some (.int .i64 r.l.length, H) := by
  rw [callW_eqO (fn := fn14) rfl rfl]
  have hR := h.at_
  rcases h.sl with ⟨rfl, hl⟩ | ⟨b, g, pre, rfl, _, _, _⟩
  · simp [-getElem?_pos, fn14, hR, Ring.row, hl]
  · simp [-getElem?_pos, fn14, hR, Ring.row]

theorem sum_c {R : Nat} {v : IV} {r : Ring} (h : RingAt H R v r) (hr : ro ≤ H.length) (ho : RingOk r) :
    ∃ H2, callW pg ro 13 [.ptr R 0 0 0] H = some (sumNum (sumS r.l) (cntO r.l), H2) := by
  have hR := h.at_
  have hlt : R < H.length := (List.getElem?_eq_some_iff.1 hR).1
  have c1 : ∀ ro (Y : Hp), doCall (callW pg) ro 2 (.fn 33 []) [.ptr R 0 0 3] (H ++ Y) = some (sumNum (sumS r.l) (cntO r.l), H ++ Y) := by
    intro ro Y
    obtain ⟨H2, h⟩ := num_c (ro := (H ++ Y).length) (H := H ++ Y) (R := R) (x := .int .i64 r.w) (y := .int .i64 r.now) (z := .int .i64 r.last) (S := sumS r.l) (over := cntO r.l) (rest := [v]) (by rw [List.getElem?_append_left hlt]; exact hR) (Nat.le_refl _) ho.sum.1 ho.sum.2
    refine call2 (args' := [.ptr R 0 0 3]) (by simp) h ?_ (.inl ?_)
    · unfold sumNum; split <;> rfl
    · unfold sumNum; split <;> rfl
  rw [callW_eqO (fn := fn13) rfl rfl]
  have hcs : ∃ a b, sumNum (sumS r.l) (cntO r.l) = .agg [.bool a, .int .i64 b] := by unfold sumNum; split <;> exact ⟨_, _, rfl⟩
  obtain ⟨a, b, hab⟩ := hcs
  rw [hab] at c1 ⊢
  simp [-getElem?_pos, fn13, c1, hr]

/-- Adding a sample's value to a sum, or taking it away. -/
theorem adds_c {R : Nat} {x y z : IV} {S over n t : Int} {o : Bool} {rest : List IV} {away : Bool} (hR : H[R]? = some { rows := [x :: y :: z :: .int .u64 (hi S) :: .int .u64 (lo S) :: .int .i64 over :: rest] }) (hr : ro ≤ R)
    (hs : SmpOk (t, o, n)) (h1 : -1000000000 ≤ over) (h2 : over ≤ 1000000000) :
    callW pg ro 30 [.ptr R 0 0 3, .agg [.bool o, .int .i64 n], .bool away] H = some (.tup [], H.set R { rows := [x :: y :: z :: .int .u64 (hi (S + if away then -sv (t, o, n) else sv (t, o, n))) :: .int .u64 (lo (S + if away then -sv (t, o, n) else sv (t, o, n))) :: .int .i64 (over + if away then -so (t, o, n) else so (t, o, n)) :: rest] } ++ [{ rows := [[.bool o, .int .i64 n]] }]) := by
  cases o with
  | true =>
    rw [adds_ovf hR hr]
    have e : IntKind.i64.wrap (over + if away then -1 else 1) = over + if away then -1 else 1 := by rw [IntKind.wrap_i64]; split <;> omega
    rw [e]
    simp [sv, so]
  | false =>
    obtain ⟨h3, h4⟩ := hs rfl
    rw [adds_num hR hr h3 h4]
    simp [sv, so]

end Go.Proofs.Ytdaajnaphkepmaa
