import Derived.Test.YtdaajnaphkepmaaTring8
namespace Go.Proofs.Ytdaajnaphkepmaa
open Go Go.Vs
variable {ro : Nat} {H : Hp}

/-! sums of 128 bits -/
theorem ofw_2 {n : Int} (hn : NumOk n) : doCall (callW pg) ro 2 (.fn 49 []) [.int .i64 n] H = some (.agg [.int .u64 (hi n), .int .u64 (lo n)], H) := by
  have h : ∃ H2, callW pg H.length 49 [.int .i64 n] H = some (.agg [.int .u64 (hi n), .int .u64 (lo n)], H2) := by
    rw [callW_eqO (fn := fn49) rfl rfl]
    have e1 : IntKind.u64.wrap (n / 9223372036854775808) = hi n := by rw [IntKind.wrap_u64]; unfold hi; have := hn.1; have := hn.2; omega
    have e2 : IntKind.u64.wrap n = lo n := by rw [IntKind.wrap_u64]; rfl
    simp [fn49, e1, e2]
  obtain ⟨H2, h⟩ := h
  exact call2p h rfl rfl

theorem addw_2 {a b : Int} : doCall (callW pg) ro 2 (.fn 48 []) [.agg [.int .u64 (hi a), .int .u64 (lo a)], .agg [.int .u64 (hi b), .int .u64 (lo b)]] H = some (.agg [.int .u64 (hi (a + b)), .int .u64 (lo (a + b))], H) := by
  have h : ∃ H2, callW pg H.length 48 [.agg [.int .u64 (hi a), .int .u64 (lo a)], .agg [.int .u64 (hi b), .int .u64 (lo b)]] H = some (.agg [.int .u64 (hi (a + b)), .int .u64 (lo (a + b))], H2) := by
    rw [callW_eqO (fn := fn48) rfl rfl]
    have l0 : 0 ≤ lo a := by unfold lo; omega
    have l1 : 0 ≤ lo b := by unfold lo; omega
    have h0 : 0 ≤ hi a := by unfold hi; omega
    have h1 : 0 ≤ hi b := by unfold hi; omega
    have c0 : 0 ≤ (lo a + lo b) / 18446744073709551616 := by omega
    have c1 : (lo a + lo b) / 18446744073709551616 ≤ 1 := by unfold lo; omega
    have e1 : (hi a + hi b + (lo a + lo b) / 18446744073709551616) % 18446744073709551616 = hi (a + b) := by unfold hi lo; omega
    have e2 : (lo a + lo b) % 18446744073709551616 = lo (a + b) := by unfold lo; omega
    simp [fn48, l0, l1, h0, h1, c0, c1, e1, e2]
  obtain ⟨H2, h⟩ := h
  exact call2p h rfl rfl

/-- A sum as a number. -/
def fitN (S : Int) : Num := if -9223372036854775808 < S ∧ S < 9223372036854775808 then (false, S) else (true, 0)

theorem heldn_2 {n : Int} : doCall (callW pg) ro 2 (.fn 59 []) [.int .i64 n] H = some (nval (if n = -9223372036854775808 then (true, 0) else (false, n)), H) := by
  have h : ∃ H2, callW pg H.length 59 [.int .i64 n] H = some (nval (if n = -9223372036854775808 then (true, 0) else (false, n)), H2) := by
    rw [callW_eqO (fn := fn59) rfl rfl]
    by_cases h : n = -9223372036854775808
    · simp [fn59, h, ovf_2, nval]
    · simp [fn59, h, nval]
  obtain ⟨H2, h⟩ := h
  exact call2p h rfl rfl

theorem numw_2 {S : Int} (h1 : -170141183460469231731687303715884105728 ≤ S) (h2 : S < 170141183460469231731687303715884105728) :
    doCall (callW pg) ro 2 (.fn 50 []) [.agg [.int .u64 (hi S), .int .u64 (lo S)]] H = some (nval (fitN S), H) := by
  have h : ∃ H2, callW pg H.length 50 [.agg [.int .u64 (hi S), .int .u64 (lo S)]] H = some (nval (fitN S), H2) := by
    rw [callW_eqO (fn := fn50) rfl rfl]
    have hw : IntKind.i64.wrap (lo S) = (lo S + 9223372036854775808) % 18446744073709551616 - 9223372036854775808 := IntKind.wrap_i64 _
    have hl0 : 0 ≤ lo S := by unfold lo; omega
    have hl1 : lo S < 18446744073709551616 := by unfold lo; omega
    have hn : NumOk (IntKind.i64.wrap (lo S)) := by unfold NumOk; rw [hw]; omega
    have hof := fun ro H => ofw_2 (ro := ro) (H := H) hn
    have el : lo (IntKind.i64.wrap (lo S)) = lo S := by rw [hw]; unfold lo at *; omega
    by_cases hS : -9223372036854775808 ≤ S ∧ S < 9223372036854775808
    · have e : IntKind.i64.wrap (lo S) = S := by rw [hw]; unfold lo; omega
      rw [e] at hof el
      have hh := fun ro H => heldn_2 (ro := ro) (H := H) (n := S)
      have ef : (if S = -9223372036854775808 then ((true, 0) : Num) else (false, S)) = fitN S := by
        unfold fitN
        by_cases h : S = -9223372036854775808
        · rw [if_pos h, if_neg (by omega)]
        · rw [if_neg h, if_pos (by omega)]
      rw [ef] at hh
      simp only [nval] at hh ⊢
      simp [fn50, e, hof, hh]
    · have ef : fitN S = (true, 0) := by unfold fitN; rw [if_neg (by omega)]
      have ne : ¬ hi (IntKind.i64.wrap (lo S)) = hi S := by
        intro e
        apply hS
        unfold hi lo at *
        omega
      rw [ef]
      simp [fn50, hof, el, ne, ovf_2, nval]
  obtain ⟨H2, h⟩ := h
  exact call2p h (by rfl) (by rfl)

/-- The sum of numbers. -/
def anyOv (l : List Num) : Bool := l.any fun x => ovN x.1 x.2
def totN : List Num → Int
  | [] => 0
  | x :: l => x.2 + totN l
def sumL (l : List Num) : Num := if anyOv l = true then (true, 0) else fitN (totN l)

theorem totN_le {l : List Num} (h : ∀ x ∈ l, NumOk x.2) : -9223372036854775808 * (l.length : Int) ≤ totN l ∧ totN l ≤ 9223372036854775808 * l.length := by
  induction l with
  | nil => simp [totN]
  | cons x l ih =>
    have h1 := ih fun y hy => h y (List.mem_cons_of_mem _ hy)
    have h2 := h x (List.mem_cons_self ..)
    unfold NumOk at h2
    simp only [totN, List.length_cons]
    omega

theorem S0_eq {e : Env} : runW pg ro fn36L0 e H = seqO pg ro fn36L0 (runW pg ro fn36B0 (keepE [2, 3, 6, 7, 8] e) H) := runW_loopO

theorem sloop {A : IV} {l : List Num} (hA : SlA A 2 (l.map nrow)) (hl : l.length ≤ 100000) (hN : ∀ x ∈ l, NumOk x.2) {a2 a3 : Nat} (h2 : ro ≤ a2) (h3 : ro ≤ a3) (h23 : a2 ≠ a3) {z : List IV} (hz : z.length = 2) : ∀ (n i : Nat) (H : Hp) (S : Int), i + n = l.length → H[a2]? = some { rows := [z] } → H[a3]? = some { rows := [[.int .u64 (hi S), .int .u64 (lo S)]] } →
    if anyOv (l.drop i) = true then ∃ e' H', get e' 2 = .ptr a2 0 0 0 ∧ runW pg ro fn36L0 [(2, .ptr a2 0 0 0), (3, .ptr a3 0 0 0), (6, A), (7, .int .i64 l.length), (8, .int .i64 i)] H = some (.ret, e', H') ∧ H'[a2]? = some { rows := [[.bool true, .int .i64 0]] }
    else ∃ e' H', get e' 2 = .ptr a2 0 0 0 ∧ get e' 3 = .ptr a3 0 0 0 ∧ runW pg ro fn36L0 [(2, .ptr a2 0 0 0), (3, .ptr a3 0 0 0), (6, A), (7, .int .i64 l.length), (8, .int .i64 i)] H = some (.exit 0, e', H') ∧ H'[a2]? = some { rows := [z] } ∧ H'[a3]? = some { rows := [[.int .u64 (hi (S + totN (l.drop i))), .int .u64 (lo (S + totN (l.drop i)))]] }
  | 0, i, H, S, hi', g2, g3 => by
    have e : l.drop i = [] := by rw [List.drop_eq_nil_iff]; omega
    have hf : ¬ ((i : Int) < l.length) := by omega
    rw [e, if_neg (by simp [anyOv])]
    refine ⟨[(2, .ptr a2 0 0 0), (3, .ptr a3 0 0 0), (6, A), (7, .int .i64 l.length), (8, .int .i64 i), (9, .bool false)], H, rfl, rfl, ?_, g2, by simpa [totN] using g3⟩
    rw [S0_eq]; simp [fn36B0, hf]
  | n + 1, i, H, S, hi', g2, g3 => by
    obtain ⟨x, hx⟩ : ∃ x, l[i]? = some x := ⟨_, List.getElem?_eq_getElem (by omega)⟩
    have hdr : l.drop i = x :: l.drop (i + 1) := by
      have := List.drop_eq_getElem_cons (l := l) (i := i) (by omega)
      rw [this]; congr 1
      rw [List.getElem?_eq_getElem (by omega)] at hx; exact Option.some.inj hx
    have hxn := hN x (List.mem_of_getElem? hx)
    obtain ⟨xo, xn⟩ := x
    have hrow : (l.map nrow)[i]? = some [.bool xo, .int .i64 xn] := by rw [List.getElem?_map, hx]; rfl
    have hidx := fun H => hA.idx H i (by simp; omega)
    have hlt : (i : Int) < l.length := by omega
    have w1 : IntKind.i64.wrap ((i : Int) + 1) = i + 1 := by rw [IntKind.wrap_i64]; omega
    have l2 := (List.getElem?_eq_some_iff.1 g2).1
    have l3 := (List.getElem?_eq_some_iff.1 g3).1
    have hrH : ro ≤ H.length := by omega
    have hzd : List.drop 2 z = [] := by rw [List.drop_eq_nil_iff]; omega
    rw [hdr]
    by_cases hov : ovN xo xn = true
    · rw [if_pos (by simp [anyOv, hov])]
      refine ⟨[(2, .ptr a2 0 0 0)], H.set a2 { rows := [[.bool true, .int .i64 0]] } ++ [{ rows := [[.bool xo, .int .i64 xn]] }], rfl, ?_, ?_⟩
      · rw [S0_eq]
        simp [-getElem?_pos, fn36B0, hrH, hlt, hidx, hrow, over_2, hov, ovf_2, g2, l2, h2, hz, hzd, List.getElem?_append_left, List.set_append_left]
      · rw [List.getElem?_append_left (by simpa using l2), List.getElem?_set_self l2]
    · have hov' : ovN xo xn = false := by simpa using hov
      have ih := sloop hA hl hN h2 h3 h23 hz n (i + 1) (H.set a3 { rows := [[.int .u64 (hi (S + xn)), .int .u64 (lo (S + xn))]] } ++ [{ rows := [[.bool xo, .int .i64 xn]] }]) (S + xn) (by omega)
        (by rw [List.getElem?_append_left (by simpa using l2), List.getElem?_set_ne (Ne.symm h23)]; exact g2) (by rw [List.getElem?_append_left (by simpa using l3), List.getElem?_set_self l3])
      have hof := fun ro H => ofw_2 (ro := ro) (H := H) hxn
      have hstep : runW pg ro fn36B0 [(2, .ptr a2 0 0 0), (3, .ptr a3 0 0 0), (6, A), (7, .int .i64 l.length), (8, .int .i64 i)] H = some (.nrm, [(2, .ptr a2 0 0 0), (3, .ptr a3 0 0 0), (6, A), (7, .int .i64 l.length), (8, .int .i64 ((i : Int) + 1))], H.set a3 { rows := [[.int .u64 (hi (S + xn)), .int .u64 (lo (S + xn))]] } ++ [{ rows := [[.bool xo, .int .i64 xn]] }]) := by
        simp [-getElem?_pos, fn36B0, hrH, hlt, hidx, hrow, over_2, hov', hof, addw_2, g3, l3, h3, List.getElem?_append_left, List.set_append_left, w1]
      have ea : anyOv ((xo, xn) :: l.drop (i + 1)) = anyOv (l.drop (i + 1)) := by simp [anyOv, hov']
      have et : S + totN ((xo, xn) :: l.drop (i + 1)) = S + xn + totN (l.drop (i + 1)) := by simp only [totN]; omega
      rw [ea, et]
      push_cast at ih
      have hk : runW pg ro fn36L0 [(2, .ptr a2 0 0 0), (3, .ptr a3 0 0 0), (6, A), (7, .int .i64 l.length), (8, .int .i64 i)] H = runW pg ro fn36L0 [(2, .ptr a2 0 0 0), (3, .ptr a3 0 0 0), (6, A), (7, .int .i64 l.length), (8, .int .i64 ((i : Int) + 1))] (H.set a3 { rows := [[.int .u64 (hi (S + xn)), .int .u64 (lo (S + xn))]] } ++ [{ rows := [[.bool xo, .int .i64 xn]] }]) := by
        rw [S0_eq]
        simp [hstep]
      rw [hk]
      exact ih

theorem sum_g {A : IV} {l : List Num} (hA : SlA (frzArg H A) 2 (l.map nrow)) (hl : l.length ≤ 100000) (hN : ∀ x ∈ l, NumOk x.2) : doCall (callW pg) ro 2 (.fn 36 []) [A] H = some (nval (sumL l), H) := by
  have h : ∃ H2, callW pg H.length 36 [frzArg H A] H = some (nval (sumL l), H2) := by
    have hlen := hA.len
    rw [List.length_map] at hlen
    have hs := sloop hA hl hN (ro := H.length) (a2 := H.length) (a3 := H.length + 1) (z := [.bool false, .int .i64 0]) (by omega) (by omega) (by omega) rfl l.length 0 (H ++ [{ rows := [[.bool false, .int .i64 0]] }, { rows := [[.int .u64 0, .int .u64 0]] }]) 0 (by omega) (by simp) (by simp [hi, lo])
    rw [List.drop_zero, Int.zero_add] at hs
    rw [callW_eqO (fn := fn36) rfl rfl]
    unfold sumL
    split at hs
    · rename_i hov
      obtain ⟨e', H', q2, hrun, hh⟩ := hs
      rw [if_pos hov]
      refine ⟨H', ?_⟩
      simp at hrun
      simp [-getElem?_pos, fn36, hlen, hrun, q2, hh, nval]
    · rename_i hov
      obtain ⟨e', H', q2, q3, hrun, hh2, hh3⟩ := hs
      rw [if_neg hov]
      have hb := totN_le hN
      have hnum := fun ro H => numw_2 (ro := ro) (H := H) (S := totN l) (by omega) (by omega)
      obtain ⟨fo, fn, hf⟩ : ∃ fo fn, fitN (totN l) = (fo, fn) := ⟨_, _, rfl⟩
      rw [hf] at hnum ⊢
      simp only [nval] at hnum ⊢
      refine ⟨H'.set H.length { rows := [[.bool fo, .int .i64 fn]] }, ?_⟩
      have hlt := (List.getElem?_eq_some_iff.1 hh2).1
      simp at hrun
      simp [-getElem?_pos, fn36, hlen, hrun, q2, q3, hh2, hh3, hlt, hnum, List.getElem?_set]
  obtain ⟨H2, h⟩ := h
  exact call2 (args' := [frzArg H A]) (by simp) h (by rfl) (.inl (by rfl))

end Go.Proofs.Ytdaajnaphkepmaa
