import Derived.Test.YtnfddeiegbifhaaDoorTy8
/- The law 'HistoryStays'. -/
namespace Go.Proofs.YtnfddeiegbifhaaDoor
open Go Go.Vs
variable {ro : Nat} {H : Hp}

theorem between_0 {F : Hp} {n : Int} (h0 : F[0]? = some { rows := [[.int .i64 n, .nsl]] }) (h1 : F[1]? = some { rows := ab.map prow }) {a b : Int} : callW pg 0 12 [.ptr 0 0 0 0, Lab, .int .i64 a, .int .i64 b] F = some (.nsl, F) := by
  have hA : Sq F Lab 2 (ab.map prow) := .inr ⟨1, 0, [], [], 1, true, rfl, by decide, h1, by simp [ab, prow]⟩
  have hf := find0_f (ro := 0) (H := F) (b := 0) (g := 0) h0 rfl rfl (hA.frzA prow_plain)
  rw [callW_eqO (fn := fn12) rfl rfl]
  simp [-getElem?_pos, fn12, hf]

theorem Sty.law {A : IV} {V : List Nm} (hA : SlA A 2 (V.map vrow)) {gap : Int} (hg : 0 ≤ gap ∧ gap < 256) : ∃ H', callW pg 0 4 [A, .int .u8 gap] [] = some (.bool true, H') := by
  have hlen := hA.len
  rw [List.length_map] at hlen
  by_cases c1 : 60 < V.length
  · have c1' : (60 : Int) < V.length := by omega
    refine ex_of_map ?_
    rw [callW_eqO (fn := fn4) rfl rfl]
    simp [fn4, known_2, hlen, c1, c1']
  have c1' : ¬ (60 : Int) < V.length := by omega
  have hnew : callW pg 0 7 [] [] = some (.ptr 0 0 0 0, [{ rows := [[.int .i64 0, .nsl]] }]) := by
    rw [callW_eqO (fn := fn7) rfl rfl]
    simp [fn7]
  obtain ⟨g, hge⟩ : ∃ g, g = gap % 120 + 1 := ⟨_, rfl⟩
  have hgr : 1 ≤ g ∧ g ≤ 120 := by omega
  have r1 : binV .rem (.int .u8 gap) (.int .u8 120) = some (.int .u8 (g - 1)) := by
    have h4 : gap.tmod 120 = gap % 120 := Int.tmod_eq_emod_of_nonneg hg.1
    simp [bin_rem, h4]
    omega
  have w1 : IntKind.i64.wrap (g - 1) = g - 1 := by rw [IntKind.wrap_i64]; omega
  have w2 : IntKind.i64.wrap (g - 1 + 1) = g := by rw [IntKind.wrap_i64]; omega
  have wg1 : IntKind.i64.wrap g = g := by rw [IntKind.wrap_i64]; omega
  have w00 : IntKind.i64.wrap 0 = 0 := by decide
  have w11 : IntKind.i64.wrap 1 = 1 := by decide
  have hlab : (.arr 1 0 0 1 1 true : IV) = Lab := rfl
  have L : ∀ e H, runW pg 0 fn4L0 e H = seqO pg 0 fn4L0 (runW pg 0 fn4B0 (keepE [0, 5, 6, 7, 8] e) H) := fun e H => runW_loopO
  have L1 : ∀ e H, runW pg 0 fn4L1 e H = seqO pg 0 fn4L1 (runW pg 0 fn4B1 (keepE [0, 5, 6, 7, 9, 10] e) H) := fun e H => runW_loopO
  cases V with
  | nil =>
    have hb := between_0 (F := [{ rows := [[.int .i64 0, .nsl]] }, { rows := ab.map prow }]) (n := 0) rfl rfl (a := 0) (b := 0)
    have hl0 := len_0 (ro := 0) (F := [{ rows := [[.int .i64 0, .nsl]] }, { rows := ab.map prow }]) (n := 0) rfl
    refine ex_of_map ?_
    rw [callW_eqO (fn := fn4) rfl rfl]
    simp [ab, prow, Vs.bs] at hb hl0
    simp at hlen
    simp [-getElem?_pos, fn4, known_2, hlen, hnew, r1, w1, w2, wg1, w00, w11, hlab, L, fn4B0, hb, hl0, L1, fn4B1]
    done
  | cons x V' =>
    obtain ⟨V, hV⟩ : ∃ V, V = x :: V' := ⟨_, rfl⟩
    have hx : V[0]? = some x := by rw [hV]; rfl
    have hpos : 0 < V.length := by rw [hV]; simp
    rw [← hV] at hA hlen c1 c1'
    obtain ⟨F1, F2, k, X1, v, a1, a2, hF2, h21, k1, x1⟩ := lo_first hgr hx
    obtain ⟨e', F, X, hr, g0, g5, g6, g7, hF, hF1⟩ := lo_loop hA (by omega) hgr (V.length - 1) 1 F2 k X1 v (by omega) (by omega) (by simpa using hF2) h21 k1 x1
    have hgl : g * V.length ≤ 120 * 60 := Int.mul_le_mul hgr.2 (by omega) (by omega) (by omega)
    have hgl0 : 1 ≤ g * (V.length : Int) := by
      have := Int.mul_le_mul (a := 1) (b := 1) (c := g) (d := V.length) hgr.1 (by omega) (by omega) (by omega)
      omega
    have hne : SS g V ≠ [] := fun h => by
      have := SS_len (g := g) (V := V)
      rw [h] at this
      simp at this; omega
    have hI := SS_inc (g := g) (by omega) (V := V)
    have hSl : (SS g V).length ≤ 900 := by rw [SS_len]; omega
    have hab : SlA (frzArg F Lab) 2 (ab.map prow) := by
      have : Sq F Lab 2 (ab.map prow) := .inr ⟨1, 0, [], [], 1, true, rfl, by decide, hF1, by simp [ab, prow]⟩
      exact this.frzA prow_plain
    have u0 : upt 0 (SS g V) = 0 := SS_upt (by omega) (by omega) (by simp) (fun _ => by simp; omega)
    have u1 : upt (g * V.length) (SS g V) = V.length := SS_upt (by omega) (by omega) (by omega) (fun h => by omega)
    obtain ⟨W, Y, b1, b2⟩ := between_g hF hne hI hSl hab (by decide) (a := 0) (b := g * V.length) (by omega) (by omega)
    rw [u0, u1, List.drop_zero, List.take_of_length_le (by rw [List.length_map, SS_len]; omega)] at b2
    have hWl := b2.len
    rw [List.length_map, SS_len] at hWl
    have hn := len_g (ro := 0) (hF.app Y)
    have wl : IntKind.i64.wrap (V.length : Int) = V.length := by rw [IntKind.wrap_i64]; omega
    rw [SS_len, wl] at hn
    have h1l := (List.getElem?_eq_some_iff.1 hF1).1
    obtain ⟨e2, F3, c2⟩ := ck_loop hA (by omega) hgr (hF.app Y) (by rw [List.getElem?_append_left h1l]; exact hF1) b2 V.length 0 [] (by omega)
    rw [List.append_nil] at c2
    have wg : IntKind.i64.wrap (g * (V.length : Int)) = g * V.length := by rw [IntKind.wrap_i64]; omega
    have hpos' : (0 : Int) < V.length := by omega
    have hidx := hA.idx F1 0 (by simp; omega)
    rw [show ((0 : Nat) : Int) = 0 from rfl] at hidx
    have hloop : runW pg 0 fn4L0 [(0, A), (5, .ptr 0 0 0 0), (6, Lab), (7, .int .i64 g), (8, .int .i64 0)] [{ rows := [[.int .i64 0, .nsl]] }, { rows := ab.map prow }] = some (.exit 0, e', F) := by
      unfold srow at a2
      rw [L]
      simp at hr
      simp [-getElem?_pos, fn4B0, hlen, hpos, hpos', w11, wg1, a1, hidx, hx, vrow, a2, hr]
      done
    refine ex_of_map ?_
    rw [callW_eqO (fn := fn4) rfl rfl]
    simp [ab, prow, Vs.bs] at hloop
    simp at c2
    simp [-getElem?_pos, fn4, known_2, hlen, c1, c1', hnew, r1, w1, w2, wg1, w00, w11, hlab, hloop, g0, g5, g6, g7, wg, b1, hWl, hn, c2]
    done
theorem wf_u8' (n : Int) (h : (Lit.int .u8 n).wf = true) : 0 ≤ n ∧ n < 256 := by simp [Lit.wf, IntKind.min, IntKind.max, IntKind.signed, IntKind.bits] at h; omega
abbrev TNm : Ty := .pair .bool (.int .i64)
theorem Sty.wf (x0 : (Ty.sl TNm).den) (x1 : (Ty.int .u8).den) (_ : (Ty.sl TNm).ok x0) (h1 : (Ty.int .u8).ok x1) :
    ∃ H', callW pg 0 4 [(Ty.sl TNm).arg x0, (Ty.int .u8).arg x1] [] = some (.bool true, H') := by
  obtain ⟨l, hl, _⟩ := sl_arg x0
  exact Sty.law (V := l) hl (wf_u8' _ h1)
end Go.Proofs.YtnfddeiegbifhaaDoor
