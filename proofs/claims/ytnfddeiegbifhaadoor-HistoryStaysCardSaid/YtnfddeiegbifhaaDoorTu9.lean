import Derived.Test.YtnfddeiegbifhaaDoorTu8
import Derived.Test.YtnfddeiegbifhaaDoorTuf
/- The law 'HistoryRefuses': the same sample again, how many there are; the law. -/
namespace Go.Proofs.YtnfddeiegbifhaaDoor
open Go Go.Vs
variable {ro : Nat} {H : Hp}

theorem add_again {F : Hp} {A : IV} {l : List Pr} {k s : Nat} {v : IV} {n t V V' : Int} (hO : One F n t V l k s v) (hA : SlA A 2 (l.map prow)) (hs : Short l) (hl : l.length ≤ 1000) (hn : 0 ≤ n ∧ n ≤ 1000000) (h : isB l = true) (ht : 0 ≤ t ∧ t ≤ n ∧ n - 100 < t) :
    ∃ Y, callW pg 0 9 [.ptr 0 0 0 0, A, .agg (smp t V')] F = some (.int .i64 150, F ++ Y) := by
  have his := fun H => is_2 (ro := 0) (H := H) (A := A) (l := l) (by rw [SlA.self hA]; exact hA) hs (by omega)
  have wn : IntKind.i64.wrap (n - 100) = n - 100 := by rw [IntKind.wrap_i64]; omega
  have L : ∀ e H, runW pg 0 fn9L0 e H = seqO pg 0 fn9L0 (runW pg 0 fn9B0 (keepE [0, 1, 5, 7, 8, 9, 50, 51, 52] e) H) := fun e H => runW_loopO
  have h0 : ∀ Y, (F ++ Y)[0]? = some { rows := [[.int .i64 n, .arr k 0 0 1 1 false]] } := fun Y => (hO.app Y).h
  have hk : ∀ Y, (F ++ Y)[k]? = some { rows := [[.arr s 0 0 1 1 false, v]] } := fun Y => (hO.app Y).row
  have hcv : cellOk v = true := hO.set.cok
  have hfr := fun Y => frz_row (hO.app Y).smp (hO.app Y).set
  have hf : ∀ Y, doCall (callW pg) 0 2 (.fn 22 []) [.ptr 0 0 0 0, A] (F ++ Y) = some (.tup [.int .i64 0, .bool true], F ++ Y) := fun Y => by
    obtain ⟨vi, _, _, q⟩ := hfr Y
    obtain ⟨vj, q1, q2⟩ := q k (hk Y)
    exact find1_2 (ro := 0) (h0 Y) rfl rfl q2 q1 hA (by omega)
  have hth : ∀ Y, doCall (callW pg) 0 2 (.fn 23 []) [.agg [.arr s 0 0 1 1 false, v], .int .i64 n] (F ++ Y) = some (.bool true, F ++ Y) := fun Y => by
    obtain ⟨vi, q0, q1, _⟩ := hfr Y
    refine there_2 q1 ?_ ht.2.1 ht.2.2 hn
    rcases q0.imm with ⟨rfl, _⟩ | ⟨g, rfl⟩ <;> rfl
  have hla : ∀ Y, doCall (callW pg) 0 2 (.fn 24 []) [.arr s 0 0 1 1 false, .int .i64 n] (F ++ Y) = some (.tup [.agg (smp t V), .bool true], F ++ Y) := fun Y => by
    refine last_2 ⟨false, ?_⟩ ht.2.1
    have := frz_smp (hO.app Y).smp 10
    unfold frzArg
    show (Vs.frz0 12 _ _).getD _ = _
    rw [this]; rfl
  have d1 : ¬ t < 0 := by omega
  have d2 : ¬ n < t := by omega
  have d3 : ¬ t ≤ n - 100 := by omega
  have w2 : IntKind.i64.wrap ((0 : Int) + 1) = 1 := by decide
  refine ⟨[{ rows := [smp t V'] }, { rows := [[.arr s 0 0 1 1 false, v]] }, { rows := [smp t V] }], ?_⟩
  rw [callW_eqO (fn := fn9) rfl rfl]
  unfold smp at hla ⊢
  simp [-getElem?_pos, fn9, his, h, blkAt_eq, h0, d1, d2, wn, d3, hf, L, fn9B0, hk, hcv, hth, hla, w2, w01, w00, Vs.idx]

theorem len_1 {F : Hp} {l : List Pr} {k s : Nat} {v : IV} {n t V : Int} (hO : One F n t V l k s v) : doCall (callW pg) ro 2 (.fn 11 []) [.ptr 0 0 0 0] F = some (.int .i64 1, F) := by
  have L : ∀ e H ro, runW pg ro fn11L0 e H = seqO pg ro fn11L0 (runW pg ro fn11B0 (keepE [3, 9, 10, 11] e) H) := fun e H ro => runW_loopO
  have h0 := hO.h
  have hk := hO.row
  have hcv : cellOk v = true := hO.set.cok
  have w2 : IntKind.i64.wrap ((0 : Int) + 1) = 1 := by decide
  have hb : ∃ H', callW pg F.length 11 [.ptr 0 0 0 0] F = some (.int .i64 1, H') := by
    refine ⟨F ++ [{ rows := [[.arr s 0 0 1 1 false, v]] }], ?_⟩
    rw [callW_eqO (fn := fn11) rfl rfl]
    simp [-getElem?_pos, fn11, blkAt_eq, h0, L, fn11B0, hk, hcv, w2, w01, w00, Vs.idx]
  obtain ⟨H', hb⟩ := hb
  exact call2 (args' := [.ptr 0 0 0 0]) rfl hb rfl (.inl rfl)
theorem len_0 {F : Hp} {n : Int} (h0 : F[0]? = some { rows := [[.int .i64 n, .nsl]] }) : doCall (callW pg) ro 2 (.fn 11 []) [.ptr 0 0 0 0] F = some (.int .i64 0, F) := by
  have L : ∀ e H ro, runW pg ro fn11L0 e H = seqO pg ro fn11L0 (runW pg ro fn11B0 (keepE [3, 9, 10, 11] e) H) := fun e H ro => runW_loopO
  have hb : callW pg F.length 11 [.ptr 0 0 0 0] F = some (.int .i64 0, F) := by
    rw [callW_eqO (fn := fn11) rfl rfl]
    simp [-getElem?_pos, fn11, blkAt_eq, h0, L, fn11B0]
  exact call2 (args' := [.ptr 0 0 0 0]) rfl hb rfl (.inl rfl)

theorem of_2 {x : Int} (hx : x = 1 ∨ x = 2) : doCall (callW pg) ro 2 (.fn 10 []) [.int .i64 x] H = some (.agg [.bool false, .int .i64 (x * 1000000)], H) := by
  obtain ⟨H2, h⟩ := of_c (ro := H.length) (H := H) (Nat.le_refl _) (n := x) (by omega) (by omega)
  exact call2p h rfl rfl

theorem Short_val (x : (Ty.sl TP).den) (h : (Ty.sl TP).okw x) : ∃ l : List Pr, SlA ((Ty.sl TP).arg x) 2 (l.map prow) ∧ Short l ∧ l.length < 9223372036854775807 := by
  obtain ⟨l, hl, hx⟩ := sl_arg x
  refine ⟨l.map toPd, ?_, ?_, ?_⟩
  · rw [List.map_map]
    have : l.map TP.enc = l.map (prow ∘ toPd) := List.map_congr_left fun p _ => toP_row p
    rw [← this]; exact hl
  · intro p hp
    obtain ⟨q, hq, rfl⟩ := List.mem_map.1 hp
    rcases hx with ⟨_, rfl⟩ | rfl
    · cases hq
    · have h1 := (h l rfl).2 q hq
      have h2 : q.1.size ≤ reachBytes := h1.1
      have h3 : q.2.size ≤ reachBytes := h1.2
      rw [reach_eq] at h2 h3
      have e1 : (toPd q).1.length = q.1.size := by
        show q.1.data.toList.length = q.1.data.size
        simp
      have e2 : (toPd q).2.length = q.2.size := by
        show q.2.data.toList.length = q.2.data.size
        simp
      omega
  · rcases hx with ⟨_, rfl⟩ | rfl
    · simp
    · have h1 : l.length * 32 ≤ reachBytes := (h l rfl).1
      rw [reach_eq] at h1
      have e : (l.map toPd).length = l.length := List.length_map ..
      rw [e]; omega

theorem Ref.law {A : IV} {l : List Pr} (hA : SlA A 2 (l.map prow)) (hs : Short l) (hl : l.length < 9223372036854775807) {n t : Int} (hn : 0 ≤ n ∧ n < 65536) (ht : -9223372036854775808 ≤ t ∧ t < 9223372036854775808) :
    ∃ H', callW pg 0 3 [.int .u16 n, .int .i64 t, A] [] = some (.bool true, H') := by
  have hlen := hA.len
  rw [List.length_map] at hlen
  refine ex_of_map ?_
  rw [callW_eqO (fn := fn3) rfl rfl]
  by_cases c1 : 10 < l.length
  · have c1' : (10 : Int) < l.length := by omega
    simp [fn3, known_2, hlen, c1, c1']
  have c1' : ¬ (10 : Int) < l.length := by omega
  have hnew : callW pg 0 7 [] [] = some (.ptr 0 0 0 0, [{ rows := [[.int .i64 0, .nsl]] }]) := by
    rw [callW_eqO (fn := fn7) rfl rfl]
    simp [fn7]
  have wn : IntKind.i64.wrap n = n := by rw [IntKind.wrap_i64]; omega
  have wn2 : IntKind.i64.wrap (n - 100) = n - 100 := by rw [IntKind.wrap_i64]; omega
  have hadv : callW pg 0 8 [.ptr 0 0 0 0, .int .i64 n] [{ rows := [[.int .i64 0, .nsl]] }] = some (.tup [], [{ rows := [[.int .i64 n, .nsl]] }]) := by
    have e1 : min n 1000000 = n := by omega
    have e2 : max 0 n = n := by omega
    rw [callW_eqO (fn := fn8) rfl rfl]
    simp [-getElem?_pos, fn8, blkAt_eq, wbl, e1, e2]
  have o1 := fun H => of_2 (ro := 0) (H := H) (x := 1) (.inl rfl)
  have o2 := fun H => of_2 (ro := 0) (H := H) (x := 2) (.inr rfl)
  simp only [Int.one_mul] at o1
  by_cases hok : isB l = true ∧ (0 ≤ t ∧ t ≤ n ∧ n - 100 < t)
  · obtain ⟨F, k, s, v, a1, hO⟩ := add_yes (V := 1000000) hA hs (by omega) (n := n) (t := t) (by omega) (by decide) hok.1 hok.2
    obtain ⟨Y, a2⟩ := add_again (V' := 2 * 1000000) hO hA hs (by omega) (by omega) hok.1 hok.2
    have l1 := len_1 (ro := 0) hO
    have l2 := len_1 (ro := 0) (hO.app Y)
    have d1 : 0 ≤ t := hok.2.1
    have d2 : t ≤ n := hok.2.2.1
    have d3 : n - 100 < t := hok.2.2.2
    unfold smp at a1 a2
    simp at a2
    simp [-getElem?_pos, fn3, known_2, hlen, c1, c1', hnew, wn, hadv, o1, a1, d1, d2, wn2, d3, l1, o2, a2, l2]
  · have hno : isB l = false ∨ ¬ (0 ≤ t ∧ t ≤ n ∧ n - 100 < t) := by
      by_cases h : isB l = true
      · exact .inr fun h2 => hok ⟨h, h2⟩
      · exact .inl (by simpa using h)
    obtain ⟨F, a1, h0⟩ := add_no (V := 1000000) hA hs hl (n := n) (t := t) (by omega) hno
    have l0 := len_0 (ro := 0) h0
    unfold smp at a1
    by_cases h : isB l = true
    · rw [if_pos h] at a1
      have hno2 : ¬ (0 ≤ t ∧ t ≤ n ∧ n - 100 < t) := fun h2 => hok ⟨h, h2⟩
      by_cases d1 : 0 ≤ t
      · by_cases d2 : t ≤ n
        · have d3 : ¬ n - 100 < t := fun h => hno2 ⟨d1, d2, h⟩
          simp [-getElem?_pos, fn3, known_2, hlen, c1, c1', hnew, wn, hadv, o1, a1, d1, d2, wn2, d3, l0]
        · simp [-getElem?_pos, fn3, known_2, hlen, c1, c1', hnew, wn, hadv, o1, a1, d1, d2, wn2, l0]
      · simp [-getElem?_pos, fn3, known_2, hlen, c1, c1', hnew, wn, hadv, o1, a1, d1, wn2, l0]
    · rw [if_neg h] at a1
      by_cases d1 : 0 ≤ t <;> by_cases d2 : t ≤ n <;> by_cases d3 : n - 100 < t <;>
        simp [-getElem?_pos, fn3, known_2, hlen, c1, c1', hnew, wn, hadv, o1, a1, d1, d2, wn2, d3, l0]
theorem wf_u16' (n : Int) (h : (Lit.int .u16 n).wf = true) : 0 ≤ n ∧ n < 65536 := by simp [Lit.wf, IntKind.min, IntKind.max, IntKind.signed, IntKind.bits] at h; omega
theorem wf_i64' (n : Int) (h : (Lit.int .i64 n).wf = true) : -9223372036854775808 ≤ n ∧ n < 9223372036854775808 := by simp [Lit.wf, IntKind.min, IntKind.max, IntKind.signed, IntKind.bits] at h; omega
theorem Ref.wf (x0 : (Ty.int .u16).den) (x1 : (Ty.int .i64).den) (x2 : (Ty.sl TP).den) (h0 : (Ty.int .u16).ok x0) (h1 : (Ty.int .i64).ok x1) (_ : (Ty.sl TP).ok x2) (_ : (Ty.int .u16).okw x0) (_ : (Ty.int .i64).okw x1) (w2 : (Ty.sl TP).okw x2) :
    ∃ H', callW pg 0 3 [(Ty.int .u16).arg x0, (Ty.int .i64).arg x1, (Ty.sl TP).arg x2] [] = some (.bool true, H') := by
  obtain ⟨l, hA, hs, hl⟩ := Short_val x2 w2
  exact Ref.law hA hs hl (wf_u16' _ h0) (wf_i64' _ h1)
end Go.Proofs.YtnfddeiegbifhaaDoor
