import Derived.Test.YtfgmncabjljhmaaTcnt10
namespace Go.Proofs.Ytfgmncabjljhmaa
open Go Go.Vs
variable {ro : Nat} {H : Hp}

def cmpN (o : Bool) (n : Int) (p : Bool) (m : Int) : Int :=
  if ovN o n then if ovN p m then 0 else 1 else if ovN p m then -1 else if n < m then -1 else if m < n then 1 else 0

theorem nan_2 {n : Int} : doCall (callW pg) ro 2 (.fn 57 []) [.int .i64 n] H = some (.bool false, H) := by
  refine call2p (H2 := H) ?_ rfl rfl
  rw [callW_eqO (fn := fn57) rfl rfl]
  simp [fn57]

theorem compare_2 {n m : Int} : doCall (callW pg) ro 2 (.fn 55 []) [.int .i64 n, .int .i64 m] H = some (.int .i64 (if n < m then -1 else if m < n then 1 else 0), H) := by
  refine call2p (H2 := H) ?_ rfl rfl
  rw [callW_eqO (fn := fn55) rfl rfl]
  by_cases h : n < m
  · simp [fn55, nan_2, h]
  · by_cases h2 : m < n
    · simp [fn55, nan_2, h, h2]
    · simp [fn55, nan_2, h, h2]

theorem cmp_c {o p : Bool} {n m : Int} : ∃ H2, callW pg ro 50 [.agg [.bool o, .int .i64 n], .agg [.bool p, .int .i64 m]] H = some (.int .i64 (cmpN o n p m), H2) := by
  rw [callW_eqO (fn := fn50) rfl rfl]
  unfold cmpN
  cases h1 : ovN o n
  · cases h2 : ovN p m
    · simp [fn50, over_2, h1, h2, compare_2]
    · simp [fn50, over_2, h1, h2, compare_2]
  · cases h2 : ovN p m
    · simp [fn50, over_2, h1, h2, compare_2]
    · simp [fn50, over_2, h1, h2, compare_2]

theorem cmp_2 {o p : Bool} {n m : Int} : doCall (callW pg) ro 2 (.fn 50 []) [.agg [.bool o, .int .i64 n], .agg [.bool p, .int .i64 m]] H = some (.int .i64 (cmpN o n p m), H) := by
  obtain ⟨H2, h⟩ := cmp_c (ro := H.length) (H := H) (o := o) (n := n) (p := p) (m := m)
  exact call2p h rfl rfl

def normN (x : Num) : Num := if okNum x.1 x.2 then x else (true, 0)

theorem is2_2 {o : Bool} {n : Int} : doCall (callW pg) ro 2 (.fn 30 []) [.agg [.bool o, .int .i64 n]] H = some (.bool (okNum o n), H) := by
  have h : ∃ H2, callW pg H.length 30 [.agg [.bool o, .int .i64 n]] H = some (.bool (okNum o n), H2) := by
    rw [callW_eqO (fn := fn30) rfl rfl]
    unfold okNum
    cases o
    · by_cases h : n = -9223372036854775808 <;> simp [fn30, h]
    · by_cases h : n = 0 <;> simp [fn30, h]
  obtain ⟨H2, h⟩ := h
  exact call2p h rfl rfl
theorem ovf2_2 : doCall (callW pg) ro 2 (.fn 31 []) [] H = some (.agg [.bool true, .int .i64 0], H) := by
  have h : ∃ H2, callW pg H.length 31 [] H = some (.agg [.bool true, .int .i64 0], H2) := by
    rw [callW_eqO (fn := fn31) rfl rfl]
    simp [fn31]
  obtain ⟨H2, h⟩ := h
  exact call2p h rfl rfl
theorem norm_2 {o : Bool} {n : Int} : doCall (callW pg) ro 2 (.fn 14 []) [.agg [.bool o, .int .i64 n]] H = some (.agg [.bool (normN (o, n)).1, .int .i64 (normN (o, n)).2], H) := by
  have h : ∃ H2, callW pg H.length 14 [.agg [.bool o, .int .i64 n]] H = some (.agg [.bool (normN (o, n)).1, .int .i64 (normN (o, n)).2], H2) := by
    rw [callW_eqO (fn := fn14) rfl rfl]
    unfold normN
    cases h : okNum o n
    · simp [fn14, is2_2, ovf2_2, h]
    · simp [fn14, is2_2, ovf2_2, h]
  obtain ⟨H2, h⟩ := h
  exact call2p h rfl rfl
theorem okov {o : Bool} {n : Int} : (o || !okNum o n) = ovN o n := by
  unfold okNum ovN; cases o <;> simp
theorem cmp2_2 {o p : Bool} {n m : Int} : doCall (callW pg) ro 2 (.fn 25 []) [.agg [.bool o, .int .i64 n], .agg [.bool p, .int .i64 m]] H = some (.int .i64 (cmpN o n p m), H) := by
  have h : ∃ H2, callW pg H.length 25 [.agg [.bool o, .int .i64 n], .agg [.bool p, .int .i64 m]] H = some (.int .i64 (cmpN o n p m), H2) := by
    rw [callW_eqO (fn := fn25) rfl rfl]
    have e1 := okov (o := o) (n := n)
    have e2 := okov (o := p) (n := m)
    unfold cmpN
    rw [← e1, ← e2]
    cases h1 : okNum o n <;> cases h2 : okNum p m
    · cases o <;> cases p <;> simp [-getElem?_pos, fn25, is2_2, h1, h2]
    · cases o <;> cases p <;> simp [-getElem?_pos, fn25, is2_2, h1, h2]
    · cases o <;> cases p <;> simp [-getElem?_pos, fn25, is2_2, h1, h2]
    · cases o
      · cases p
        · by_cases h3 : n < m
          · simp [-getElem?_pos, fn25, is2_2, h1, h2, h3]
          · by_cases h4 : m < n
            · simp [-getElem?_pos, fn25, is2_2, h1, h2, h3, h4]
            · simp [-getElem?_pos, fn25, is2_2, h1, h2, h3, h4]
        · simp [-getElem?_pos, fn25, is2_2, h1, h2]
      · cases p
        · simp [-getElem?_pos, fn25, is2_2, h1, h2]
        · simp [-getElem?_pos, fn25, is2_2, h1, h2]
  obtain ⟨H2, h⟩ := h
  exact call2p h rfl rfl


end Go.Proofs.Ytfgmncabjljhmaa
