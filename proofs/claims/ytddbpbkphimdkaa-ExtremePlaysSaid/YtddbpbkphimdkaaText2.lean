import Derived.Test.YtddbpbkphimdkaaText1
namespace Go.Proofs.Ytddbpbkphimdkaa
open Go Go.Vs
variable {ro : Nat} {H : Hp}

/-! the clock -/
theorem moves_c {R : Nat} {w now last n : Int} {rest : List IV} (hR : H[R]? = some { rows := [.int .i64 w :: .int .i64 now :: .int .i64 last :: rest] }) (hr : ro ≤ R) :
    callW pg ro 20 [.ptr R 0 0 0, .int .i64 n] H = some (.tup [], H.set R { rows := [.int .i64 w :: .int .i64 (max now (min n 1000000)) :: .int .i64 last :: rest] }) := by
  rw [callW_eqO (fn := fn20) rfl rfl]
  simp [fn20, hR, hr]

theorem gone_c {R : Nat} {w now t : Int} {rest : List IV} (hR : H[R]? = some { rows := [.int .i64 w :: .int .i64 now :: rest] }) :
    callW pg ro 21 [.ptr R 0 0 0, .int .i64 t] H = some (.bool (decide (t ≤ IntKind.i64.wrap (now - w))), H) := by
  rw [callW_eqO (fn := fn21) rfl rfl]
  simp [fn21, hR]

theorem gone_2 {R : Nat} {w now t : Int} {rest : List IV} (hR : H[R]? = some { rows := [.int .i64 w :: .int .i64 now :: rest] }) :
    doCall (callW pg) ro 2 (.fn 21 []) [.ptr R 0 0 0, .int .i64 t] H = some (.bool (decide (t ≤ IntKind.i64.wrap (now - w))), H) :=
  call2 (args' := [.ptr R 0 0 0, .int .i64 t]) (by simp) (gone_c hR) rfl (.inl rfl)

/-- What a clock says to a time. -/
def takes (w now last t : Int) : Int := if t < 0 ∨ now < t ∨ t ≤ IntKind.i64.wrap (now - w) then 152 else if t ≤ last then 150 else 0

theorem takes_c {R : Nat} {w now last t : Int} {rest : List IV} (hR : H[R]? = some { rows := [.int .i64 w :: .int .i64 now :: .int .i64 last :: rest] }) (hr : ro ≤ R) :
    callW pg ro 24 [.ptr R 0 0 0, .int .i64 t] H = some (.int .i64 (takes w now last t), if takes w now last t = 0 then H.set R { rows := [.int .i64 w :: .int .i64 now :: .int .i64 t :: rest] } else H) := by
  rw [callW_eqO (fn := fn24) rfl rfl]
  unfold takes
  by_cases h1 : t < 0
  · simp [fn24, hR, hr, gone_2 hR, h1]
  · by_cases h2 : now < t
    · simp [fn24, hR, hr, gone_2 hR, h1, h2]
    · by_cases h3 : t ≤ IntKind.i64.wrap (now - w)
      · simp [fn24, hR, hr, gone_2 hR, h1, h2, h3]
      · by_cases h4 : t ≤ last
        · simp [fn24, hR, hr, gone_2 hR, h1, h2, h3, h4]
        · simp [fn24, hR, hr, gone_2 hR, h1, h2, h3, h4]

/-! numbers -/
def okNum (o : Bool) (n : Int) : Bool := if o then decide (n = 0) else !decide (n = -9223372036854775808)

theorem ovf_2 : doCall (callW pg) ro 2 (.fn 30 []) [] H = some (.agg [.bool true, .int .i64 0], H) := call2p (ovf_c (Nat.le_refl _)) rfl rfl

theorem is_c {o : Bool} {n : Int} : ∃ H2, callW pg ro 18 [.agg [.bool o, .int .i64 n]] H = some (.bool (okNum o n), H2) := by
  rw [callW_eqO (fn := fn18) rfl rfl]
  unfold okNum
  cases o
  · by_cases h : n = -9223372036854775808 <;> simp [fn18, ovf_2, h]
  · by_cases h : n = 0 <;> simp [fn18, ovf_2, h]

theorem is_2 {o : Bool} {n : Int} : doCall (callW pg) ro 2 (.fn 18 []) [.agg [.bool o, .int .i64 n]] H = some (.bool (okNum o n), H) := by
  obtain ⟨H2, h⟩ := is_c (ro := H.length) (H := H) (o := o) (n := n)
  exact call2p h rfl rfl


def ovN (o : Bool) (n : Int) : Bool := o || decide (n = -9223372036854775808)
def cmpN (o : Bool) (n : Int) (p : Bool) (m : Int) : Int :=
  if ovN o n then if ovN p m then 0 else 1 else if ovN p m then -1 else if n < m then -1 else if m < n then 1 else 0

theorem over_c {o : Bool} {n : Int} : ∃ H2, callW pg ro 29 [.agg [.bool o, .int .i64 n]] H = some (.bool (ovN o n), H2) := by
  rw [callW_eqO (fn := fn29) rfl rfl]
  unfold ovN
  cases o <;> simp [fn29]

theorem over_2 {o : Bool} {n : Int} : doCall (callW pg) ro 2 (.fn 29 []) [.agg [.bool o, .int .i64 n]] H = some (.bool (ovN o n), H) := by
  obtain ⟨H2, h⟩ := over_c (ro := H.length) (H := H) (o := o) (n := n)
  exact call2p h rfl rfl

theorem nan_2 {n : Int} : doCall (callW pg) ro 2 (.fn 34 []) [.int .i64 n] H = some (.bool false, H) := by
  refine call2p (H2 := H) ?_ rfl rfl
  rw [callW_eqO (fn := fn34) rfl rfl]
  simp [fn34]

theorem compare_2 {n m : Int} : doCall (callW pg) ro 2 (.fn 31 []) [.int .i64 n, .int .i64 m] H = some (.int .i64 (if n < m then -1 else if m < n then 1 else 0), H) := by
  refine call2p (H2 := H) ?_ rfl rfl
  rw [callW_eqO (fn := fn31) rfl rfl]
  by_cases h : n < m
  · simp [fn31, nan_2, h]
  · by_cases h2 : m < n
    · simp [fn31, nan_2, h, h2]
    · simp [fn31, nan_2, h, h2]

theorem cmp_c {o p : Bool} {n m : Int} : ∃ H2, callW pg ro 19 [.agg [.bool o, .int .i64 n], .agg [.bool p, .int .i64 m]] H = some (.int .i64 (cmpN o n p m), H2) := by
  rw [callW_eqO (fn := fn19) rfl rfl]
  unfold cmpN
  cases h1 : ovN o n
  · cases h2 : ovN p m
    · simp [fn19, over_2, h1, h2, compare_2]
    · simp [fn19, over_2, h1, h2, compare_2]
  · cases h2 : ovN p m
    · simp [fn19, over_2, h1, h2, compare_2]
    · simp [fn19, over_2, h1, h2, compare_2]

theorem cmp_2 {o p : Bool} {n m : Int} : doCall (callW pg) ro 2 (.fn 19 []) [.agg [.bool o, .int .i64 n], .agg [.bool p, .int .i64 m]] H = some (.int .i64 (cmpN o n p m), H) := by
  obtain ⟨H2, h⟩ := cmp_c (ro := H.length) (H := H) (o := o) (n := n) (p := p) (m := m)
  exact call2p h rfl rfl

def negN (o : Bool) (n : Int) : Bool × Int := if ovN o n then (true, 0) else (false, IntKind.i64.wrap (-n))

theorem neg_c {o : Bool} {n : Int} (hr : ro ≤ H.length) : ∃ H2, callW pg ro 17 [.agg [.bool o, .int .i64 n]] H = some (.agg [.bool (negN o n).1, .int .i64 (negN o n).2], H2) := by
  rw [callW_eqO (fn := fn17) rfl rfl]
  unfold negN
  cases h : ovN o n
  · simp [fn17, over_2, h, hr]
  · simp [fn17, over_2, h, hr, ovf_2]

theorem neg_2 {o : Bool} {n : Int} : doCall (callW pg) ro 2 (.fn 17 []) [.agg [.bool o, .int .i64 n]] H = some (.agg [.bool (negN o n).1, .int .i64 (negN o n).2], H) := by
  obtain ⟨H2, h⟩ := neg_c (ro := H.length) (H := H) (o := o) (n := n) (Nat.le_refl _)
  exact call2p h rfl rfl

def beats (g : Bool) (o : Bool) (n : Int) (p : Bool) (m : Int) : Bool := if g then decide (0 ≤ cmpN o n p m) else decide (cmpN o n p m ≤ 0)

theorem beats_c {R : Nat} {w now last : IV} {g : Bool} {rest : List IV} {o p : Bool} {n m : Int} (hR : H[R]? = some { rows := [w :: now :: last :: .bool g :: rest] }) :
    ∃ H2, callW pg ro 25 [.ptr R 0 0 0, .agg [.bool o, .int .i64 n], .agg [.bool p, .int .i64 m]] H = some (.bool (beats g o n p m), H2) := by
  have hlt : R < H.length := (List.getElem?_eq_some_iff.1 hR).1
  rw [callW_eqO (fn := fn25) rfl rfl]
  unfold beats
  cases g
  · simp [-getElem?_pos, fn25, cmp_2, hR, hlt, List.getElem?_append_left]
  · simp [-getElem?_pos, fn25, cmp_2, hR, hlt, List.getElem?_append_left]

theorem beats_2 {R : Nat} {w now last : IV} {g : Bool} {rest : List IV} {o p : Bool} {n m : Int} (hR : H[R]? = some { rows := [w :: now :: last :: .bool g :: rest] }) :
    doCall (callW pg) ro 2 (.fn 25 []) [.ptr R 0 0 0, .agg [.bool o, .int .i64 n], .agg [.bool p, .int .i64 m]] H = some (.bool (beats g o n p m), H) := by
  obtain ⟨H2, h⟩ := beats_c (ro := H.length) (o := o) (n := n) (p := p) (m := m) hR
  exact call2 (args' := [.ptr R 0 0 0, .agg [.bool o, .int .i64 n], .agg [.bool p, .int .i64 m]]) (by simp [frzArg_plain, plainD, frzD]) h rfl (.inl rfl)

end Go.Proofs.Ytddbpbkphimdkaa
