import Derived.Test.YtnfddeiegbifhaaDoorTy4
/- Time goes on; how many; what is there at a time, between times. -/
namespace Go.Proofs.YtnfddeiegbifhaaDoor
open Go Go.Vs
variable {ro : Nat} {H : Hp}
variable {n : Int} {l : List Pr} {k : Nat} {X v : IV} {S : List Sm}

theorem adv_c {F : Hp} {n m : Int} {X : IV} (h : F[0]? = some { rows := [[.int .i64 n, X]] }) : callW pg 0 8 [.ptr 0 0 0 0, .int .i64 m] F = some (.tup [], F.set 0 { rows := [[.int .i64 (max n (min m 1000000)), X]] }) := by
  rw [callW_eqO (fn := fn8) rfl rfl]
  simp [-getElem?_pos, fn8, blkAt_eq, h, wbl]

theorem adv_his {F : Hp} (hF : His F n l k X v S) (m : Int) : ∃ F', callW pg 0 8 [.ptr 0 0 0 0, .int .i64 m] F = some (.tup [], F') ∧ His F' (max n (min m 1000000)) l k X v S ∧ F'.length = F.length ∧ ∀ c, c ≠ 0 → F'[c]? = F[c]? := by
  have hz := (List.getElem?_eq_some_iff.1 hF.h).1
  refine ⟨_, adv_c hF.h, ⟨by rw [List.getElem?_set_self hz], by rw [List.getElem?_set_ne (Ne.symm hF.k0)]; exact hF.row, hF.smp.fr fun c hc => List.getElem?_set_ne (Ne.symm (hF.sx c hc).1), hF.set.set fun hc => (hF.sv 0 hc).1 rfl, hF.k0, hF.sx, hF.sv⟩, by simp, fun c hc => List.getElem?_set_ne (Ne.symm hc)⟩

theorem len_g {F : Hp} (hF : His F n l k X v S) : doCall (callW pg) ro 2 (.fn 11 []) [.ptr 0 0 0 0] F = some (.int .i64 (IntKind.i64.wrap S.length), F) := by
  have L : ∀ e H ro, runW pg ro fn11L0 e H = seqO pg ro fn11L0 (runW pg ro fn11B0 (keepE [3, 9, 10, 11] e) H) := fun e H ro => runW_loopO
  have h0 := hF.h
  have hk := hF.row
  have hcv : cellOk v = true := hF.set.cok
  have hcX : cellOk X = true := hF.smp.sq.cok
  have hlen := hF.smp.sq.len
  have hcs := hF.smp.sq.cells
  rw [List.length_map] at hlen
  have w2 : IntKind.i64.wrap ((0 : Int) + 1) = 1 := by decide
  have hb : ∃ H', callW pg F.length 11 [.ptr 0 0 0 0] F = some (.int .i64 (IntKind.i64.wrap S.length), H') := by
    refine ⟨F ++ [{ rows := [[X, v]] }], ?_⟩
    rw [callW_eqO (fn := fn11) rfl rfl]
    simp [-getElem?_pos, fn11, blkAt_eq, h0, L, fn11B0, hk, hcv, hcX, hlen, hcs, w2, w01, w00, Vs.idx]
  obtain ⟨H', hb⟩ := hb
  exact call2 (args' := [.ptr 0 0 0 0]) rfl hb rfl (.inl rfl)

/-- The sample that holds at a time. -/
def atB (m : Int) (S : List Sm) : Bool := decide (0 < upt m S) && decide (m - 10 < (lastS m S).t)
theorem at_g {F : Hp} {A : IV} (hF : His F n l k X v S) (hS : S ≠ []) (hI : Inc S) (hlen : S.length ≤ 900) (hA : SlA (frzArg F A) 2 (l.map prow)) (hl : l.length ≤ 1000) {m : Int} (hm : 0 ≤ m ∧ m ≤ 1000000) :
    doCall (callW pg) ro 2 (.fn 13 []) [.ptr 0 0 0 0, A, .int .i64 m] F = some (.tup [.agg (srow (if atB m S then lastS m S else zeroS)), .bool (atB m S)], F) := by
  obtain ⟨B, hB⟩ : ∃ B, B = frzArg F A := ⟨_, rfl⟩
  have hBA : SlA B 2 (l.map prow) := by rw [hB]; exact hA
  have hb : ∃ H', callW pg F.length 13 [.ptr 0 0 0 0, B, .int .i64 m] F = some (.tup [.agg (srow (if atB m S then lastS m S else zeroS)), .bool (atB m S)], H') := by
    have h0 : ∀ Y, (F ++ Y)[0]? = some { rows := [[.int .i64 n, .arr k 0 0 1 1 false]] } := fun Y => (hF.app Y).h
    have hk : ∀ Y, (F ++ Y)[k]? = some { rows := [[X, v]] } := fun Y => (hF.app Y).row
    have hcv : cellOk v = true := hF.set.cok
    have hcX : cellOk X = true := hF.smp.sq.cok
    have hcs := hF.smp.sq.cells
    have hf : ∀ ro Y, doCall (callW pg) ro 2 (.fn 22 []) [.ptr 0 0 0 0, B] (F ++ Y) = some (.tup [.int .i64 0, .bool true], F ++ Y) := fun ro Y => by
      obtain ⟨R, f, Xi, vi, q1, _, _, _, _, g, q6⟩ := frz_his (hF.app Y) hS
      exact find1_f (h0 Y) rfl rfl q6 q1 (by rw [SlA.self hBA]; exact hBA) (by omega)
    have hla : ∀ ro Y, doCall (callW pg) ro 2 (.fn 24 []) [X, .int .i64 m] (F ++ Y) = some (.tup [.agg (srow (lastS m S)), .bool (decide (0 < upt m S))], F ++ Y) := fun ro Y => by
      obtain ⟨R, f, Xi, vi, _, q2, _, q4, _⟩ := frz_his (hF.app Y) hS
      exact last_g (by unfold SmA; rw [q4]; exact q2) (by omega) hI
    have wm : IntKind.i64.wrap (m - 10) = m - 10 := by rw [IntKind.wrap_i64]; omega
    refine ex_of_map ?_
    rw [callW_eqO (fn := fn13) rfl rfl]
    obtain ⟨y, hy⟩ : ∃ y, y = lastS m S := ⟨_, rfl⟩
    unfold atB
    rw [← hy] at hla ⊢
    obtain ⟨yt, yo, yn⟩ := y
    unfold srow at hla ⊢
    by_cases c1 : 0 < upt m S
    · by_cases c2 : m - 10 < yt
      · have c2' : ¬ yt ≤ m - 10 := by omega
        simp [-getElem?_pos, fn13, blkAt_eq, hf, h0, hk, hcX, hcs, hla, c1, c2, c2', wm, wbl, Vs.idx]
      · have c2' : yt ≤ m - 10 := by omega
        simp [-getElem?_pos, fn13, blkAt_eq, hf, h0, hk, hcX, hcs, hla, c1, c2, c2', wm, wbl, Vs.idx, zeroS]
    · simp [-getElem?_pos, fn13, blkAt_eq, hf, h0, hk, hcX, hcs, hla, c1, wbl, Vs.idx, zeroS]
  obtain ⟨H', hb⟩ := hb
  exact call2 (args' := [.ptr 0 0 0 0, B, .int .i64 m]) (by
    have h1 : frzArg F (.ptr 0 0 0 0) = .ptr 0 0 0 0 := rfl
    have h3 : frzArg F (.int .i64 m) = .int .i64 m := rfl
    simp [h1, h3, hB]) hb rfl (.inl rfl)

/-- From a place to a place. -/
theorem Sq_sub {sz : Nat} {rows : List (List IV)} (h : Sq H v sz rows) (hv : rows ≠ []) {i j : Nat} (hi : i ≤ j) (hj : j ≤ rows.length) : ∃ b g off cap ex, slSl H sz v i (some j) none = some (.arr b g off (j - i) cap ex) ∧ Sq H (.arr b g off (j - i) cap ex) sz ((rows.drop i).take (j - i)) := by
  rcases h with ⟨rfl, rfl⟩ | ⟨b, g, pre, post, cap, ex, rfl, hc, hB, hw⟩
  · exact absurd rfl hv
  · have hs := szOk_all hw
    have h1 : j ≤ cap := by omega
    have hll : ((rows.drop i).take (j - i)).length = j - i := by rw [List.length_take, List.length_drop]; omega
    have hsp : rows = rows.take i ++ ((rows.drop i).take (j - i) ++ (rows.drop i).drop (j - i)) := by rw [List.take_append_drop, List.take_append_drop]
    have hpl : (pre ++ rows.take i).length = pre.length + i := by rw [List.length_append, List.length_take]; omega
    refine ⟨b, g, pre.length + i, cap - i, ex, ?_, .inr ⟨b, g, pre ++ rows.take i, (rows.drop i).drop (j - i) ++ post, cap - i, ex, ?_, by rw [hll]; omega, ?_, ?_⟩⟩
    · have h2 : pre.length + j ≤ pre.length + (rows.length + post.length) := by omega
      simp [-getElem?_pos, hB, hs, h1, h2, hi]
    · rw [hll, hpl]
    · rw [hB]
      congr 2
      conv => lhs; rw [hsp]
      simp only [List.append_assoc]
    · intro r hr
      refine hw r ?_
      rw [hsp]
      simpa only [List.append_assoc] using hr

theorem cloneM_c {rows : List (List IV)} {b g off len cap : Nat} {ex : Bool} (h : Sq H (.arr b g off len cap ex) 3 rows) (hl : rows.length ≤ 1000) : ∃ v' Y, callW pg ro 29 [.arr b g off len cap ex] H = some (v', H ++ Y) ∧ Sq (H ++ Y) v' 3 rows := by
  obtain ⟨v', Y, c1, c2, c3⟩ := h.clone (bytes := 24) (ro := ro) (by unfold room; omega)
  refine ⟨v', Y, ?_, c2⟩
  rw [callW_eqO (fn := fn29) rfl rfl]
  simp [-getElem?_pos, fn29, c1]

theorem between_g {F : Hp} {A : IV} (hF : His F n l k X v S) (hS : S ≠ []) (hI : Inc S) (hlen : S.length ≤ 900) (hA : SlA (frzArg F A) 2 (l.map prow)) (hl : l.length ≤ 1000) {a b : Int} (hab : a < b) (hu : upt a S ≤ upt b S) :
    ∃ W Y, callW pg 0 12 [.ptr 0 0 0 0, A, .int .i64 a, .int .i64 b] F = some (W, F ++ Y) ∧ Sq (F ++ Y) W 3 ((S.map srow).drop (upt a S) |>.take (upt b S - upt a S)) := by
  have h0 : ∀ Y, (F ++ Y)[0]? = some { rows := [[.int .i64 n, .arr k 0 0 1 1 false]] } := fun Y => (hF.app Y).h
  have h0' := hF.h
  have hk : ∀ Y, (F ++ Y)[k]? = some { rows := [[X, v]] } := fun Y => (hF.app Y).row
  have hk' := hF.row
  have hcv : cellOk v = true := hF.set.cok
  have hcX : cellOk X = true := hF.smp.sq.cok
  have hcs := hF.smp.sq.cells
  have hf : doCall (callW pg) 0 2 (.fn 22 []) [.ptr 0 0 0 0, A] F = some (.tup [.int .i64 0, .bool true], F) := by
    obtain ⟨R, f, Xi, vi, q1, _, _, _, _, g, q6⟩ := frz_his hF hS
    exact find1_f hF.h rfl rfl q6 q1 hA (by omega)
  have hup : ∀ Y m, doCall (callW pg) 0 2 (.fn 30 []) [X, .int .i64 m] (F ++ Y) = some (.int .i64 (upt m S), F ++ Y) := fun Y m => by
    obtain ⟨R, f, Xi, vi, _, q2, _, q4, _⟩ := frz_his (hF.app Y) hS
    exact upto_g (by unfold SmA; rw [q4]; exact q2) (by omega) hI
  have hle := upt_le b S
  have hq := (hF.app [({ rows := [[X, v]] } : Bk)]).smp.sq
  obtain ⟨c, g, off, cap, ex, s1, s2⟩ := Sq_sub hq (by simpa using hS) hu (by rw [List.length_map]; exact hle)
  obtain ⟨W, Y, c1, c2⟩ := cloneM_c (ro := 0) s2 (by rw [List.length_take, List.length_drop, List.length_map]; omega)
  refine ⟨W, ({ rows := [[X, v]] } : Bk) :: Y, ?_, by simpa using c2⟩
  have hab' : ¬ b ≤ a := by omega
  rw [callW_eqO (fn := fn12) rfl rfl]
  simp [-getElem?_pos, fn12, blkAt_eq, hf, h0', hk', hcX, hcv, hcs, hab', hup, s1, c1, Vs.idx, wbl]
  done
end Go.Proofs.YtnfddeiegbifhaaDoor
