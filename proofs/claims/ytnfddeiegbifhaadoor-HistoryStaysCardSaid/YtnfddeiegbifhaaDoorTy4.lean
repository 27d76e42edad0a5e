import Derived.Test.YtnfddeiegbifhaaDoorTy3
/- Adding a sample to what is there. -/
namespace Go.Proofs.YtnfddeiegbifhaaDoor
open Go Go.Vs
variable {ro : Nat} {H : Hp}
variable {n : Int} {l : List Pr} {k : Nat} {X v : IV} {S : List Sm}

theorem frz_sm {v : IV} {l : List Sm} (h : Sq H v 3 (l.map srow)) (k : Nat) : ∃ vi, Vs.frz0 (k + 2) H v = some vi ∧ SlA vi 3 (l.map srow) := by
  have hw := h.wid
  rcases h with ⟨rfl, hr⟩ | ⟨b, g, pre, post, cap, ex, rfl, hc, hB, _⟩
  · exact ⟨.nsl, rfl, by rw [hr]; exact slA_nil⟩
  · refine ⟨.imm (l.map srow) (ex && cap == (l.map srow).length), ?_, slA_imm hw⟩
    have hd : (List.drop pre.length (pre ++ (l.map srow ++ post))).take (l.map srow).length = l.map srow := by rw [List.drop_left, List.take_left]
    rw [frz0_arr', blkAt_eq, hB, Option.bind_some, if_pos rfl, Option.bind_some, if_pos (by simp), hd]
    have hmo : mapO (mapO (Vs.frz0 (k + 1) H)) (l.map srow) = some (l.map srow) := mapO_id fun r hr => mapO_id fun x hx => by
      obtain ⟨y, _, rfl⟩ := List.mem_map.1 hr
      simp [srow] at hx
      rcases hx with rfl | rfl | rfl <;> rfl
    rw [hmo]; rfl

/-- Frozen: a set with its samples. -/
theorem frz_his (hH : His H n l k X v S) (hS : S ≠ []) : ∃ (R : List (List IV)) (f : Bool) (Xi vi : IV), SlA vi 2 (l.map prow) ∧ SlA Xi 3 (S.map srow) ∧ Xi = .imm R f ∧ frzArg H X = Xi ∧ frzArg H (.agg [X, v]) = .agg [Xi, vi] ∧ ∃ g, frzArg H (.arr k 0 0 1 1 false) = .imm [[.imm R f, vi]] g := by
  obtain ⟨vi, h1, h2⟩ := frz_sq hH.set 9
  obtain ⟨Xi, h3, h4⟩ := frz_sm hH.smp.sq 9
  obtain ⟨Xj, h5, h6⟩ := frz_sm hH.smp.sq 10
  have hXj : Xj = Xi := by
    rcases hH.smp with ⟨rfl, hr⟩ | ⟨b, g, pre, post, cap, ex, rfl, _, _, _, hB, _⟩
    · cases h3; cases h5; rfl
    · rw [frz0_arr', blkAt_eq, hB, Option.bind_some, if_pos rfl, Option.bind_some] at h3 h5
      have hd : (List.drop pre.length (pre ++ (S.map srow ++ post))).take (S.map srow).length = S.map srow := by rw [List.drop_left, List.take_left]
      have hmo : ∀ k, mapO (mapO (Vs.frz0 (k + 1) H)) (S.map srow) = some (S.map srow) := fun k => mapO_id fun r hr => mapO_id fun x hx => by
        obtain ⟨y, _, rfl⟩ := List.mem_map.1 hr
        simp [srow] at hx
        rcases hx with rfl | rfl | rfl <;> rfl
      rw [hd, hmo] at h3 h5
      rw [h5] at h3
      exact Option.some.inj h3
  subst hXj
  obtain ⟨f, hf⟩ : ∃ f, Xj = .imm (S.map srow) f := by
    rcases h4.imm with ⟨_, h⟩ | h
    · exact absurd (by simpa using h) hS
    · exact h
  refine ⟨S.map srow, f, Xj, vi, h2, h4, hf, ?_, ?_, ?_⟩
  · unfold frzArg
    show (Vs.frz0 12 H _).getD _ = _
    rw [h5]; rfl
  · have e : Vs.frz0 12 H (.agg [X, v]) = some (.agg [Xj, vi]) := by
      show (mapO (Vs.frz0 11 H) [X, v]).map IV.agg = _
      simp only [mapO, h3, h1, Option.bind_some, Option.map_some]
    unfold frzArg
    show (Vs.frz0 12 H _).getD _ = _
    rw [e]; rfl
  · refine ⟨false, ?_⟩
    have e : Vs.frz0 12 H (.arr k 0 0 1 1 false) = some (.imm [[Xj, vi]] false) := by
      rw [frz0_arr', blkAt_eq, hH.row, Option.bind_some, if_pos rfl, Option.bind_some]
      show ((mapO (mapO (Vs.frz0 11 H)) [[X, v]]).map fun rows => IV.imm rows (false && 1 == 1)) = _
      simp only [mapO, h3, h1, Option.bind_some, Option.map_some]
      rfl
    unfold frzArg
    show (Vs.frz0 12 H _).getD _ = _
    rw [e, hf]; rfl

/-- Is it there? -/
def thereB (n : Int) (S : List Sm) : Bool := decide (0 < upt n S) && decide (n - 100 < (lastS n S).t)
theorem there_g (hH : His H n l k X v S) (hS : S ≠ []) (hs : Inc S) (hl : S.length ≤ 1000) {m : Int} (hm : -1000 ≤ m ∧ m ≤ 2000000) : doCall (callW pg) ro 2 (.fn 23 []) [.agg [X, v], .int .i64 m] H = some (.bool (thereB m S), H) := by
  obtain ⟨R, f, Xi, vi, q1, q2, q3, q4, q5, _⟩ := frz_his hH hS
  have hok : cellOk vi = true := by
    rcases q1.imm with ⟨rfl, _⟩ | ⟨g, rfl⟩ <;> rfl
  have hb : ∃ H', callW pg H.length 23 [.agg [Xi, vi], .int .i64 m] H = some (.bool (thereB m S), H') := by
    have hla := fun ro X => last_g (ro := ro) (H := H ++ X) (S := Xi) (l := S) (n := m) (by unfold SmA; rw [SlA.self q2]; exact q2) hl hs
    have wn : IntKind.i64.wrap (m - 100) = m - 100 := by rw [IntKind.wrap_i64]; omega
    refine ⟨H ++ [{ rows := [[Xi, vi]] }, { rows := [srow (lastS m S)] }], ?_⟩
    subst q3
    rw [callW_eqO (fn := fn23) rfl rfl]
    unfold thereB
    unfold srow at hla ⊢
    by_cases c : 0 < upt m S
    · simp [-getElem?_pos, fn23, hla, blkAt_eq, hok, wn, c]
    · simp [-getElem?_pos, fn23, hla, blkAt_eq, hok, wn, c]
  obtain ⟨H', hb⟩ := hb
  exact call2 (args' := [.agg [Xi, vi], .int .i64 m]) (by
    have h3 : frzArg H (.int .i64 m) = .int .i64 m := rfl
    simp [q5, h3]) hb rfl (.inl rfl)

theorem add_later {F : Hp} {A : IV} {x : Sm} (hF : His F n l k X v S) (hS : S ≠ []) (hI : Inc S) (hlen : S.length ≤ 900) (hA : Sq F A 2 (l.map prow)) (hs : Short l) (hl : l.length ≤ 1000) (hn : 0 ≤ n ∧ n ≤ 1000000) (h : isB l = true) (ht : 0 ≤ x.t ∧ x.t ≤ n ∧ n - 100 < x.t) (hnew : (lastS n S).t < x.t) :
    ∃ F' X', callW pg 0 9 [.ptr 0 0 0 0, A, .agg (srow x)] F = some (.int .i64 0, F') ∧ His F' n l k X' v (S ++ [nrm x]) ∧ F.length ≤ F'.length ∧ (∀ c ∈ blkS X', c ∈ blkS X ∨ F.length ≤ c) ∧ ∀ c, c < F.length → c ≠ k → c ∉ blkS X → F'[c]? = F[c]? := by
  have hAf := fun Y => (hA.app Y).frzA prow_plain
  have his := fun Y => is_2 (ro := 0) (H := F ++ Y) (A := A) (l := l) (hAf Y) hs (by omega)
  have wn : IntKind.i64.wrap (n - 100) = n - 100 := by rw [IntKind.wrap_i64]; omega
  have L : ∀ e H, runW pg 0 fn9L0 e H = seqO pg 0 fn9L0 (runW pg 0 fn9B0 (keepE [0, 1, 5, 7, 8, 9, 50, 51, 52] e) H) := fun e H => runW_loopO
  have h0 : ∀ Y, (F ++ Y)[0]? = some { rows := [[.int .i64 n, .arr k 0 0 1 1 false]] } := fun Y => (hF.app Y).h
  have hk : ∀ Y, (F ++ Y)[k]? = some { rows := [[X, v]] } := fun Y => (hF.app Y).row
  have hcv : cellOk v = true := hF.set.cok
  have hcX : cellOk X = true := hF.smp.sq.cok
  have hf : ∀ Y, doCall (callW pg) 0 2 (.fn 22 []) [.ptr 0 0 0 0, A] (F ++ Y) = some (.tup [.int .i64 0, .bool true], F ++ Y) := fun Y => by
    obtain ⟨R, f, Xi, vi, q1, _, _, _, _, g, q6⟩ := frz_his (hF.app Y) hS
    exact find1_f (ro := 0) (h0 Y) rfl rfl q6 q1 (hAf Y) (by omega)
  have hth : ∀ Y, doCall (callW pg) 0 2 (.fn 23 []) [.agg [X, v], .int .i64 n] (F ++ Y) = some (.bool (thereB n S), F ++ Y) := fun Y => there_g (hF.app Y) hS hI (by omega) (by omega)
  have hla : ∀ Y, doCall (callW pg) 0 2 (.fn 24 []) [X, .int .i64 n] (F ++ Y) = some (.tup [.agg (srow (lastS n S)), .bool (decide (0 < upt n S))], F ++ Y) := fun Y => by
    obtain ⟨R, f, Xi, vi, _, q2, _, q4, _⟩ := frz_his (hF.app Y) hS
    exact last_g (by unfold SmA; rw [q4]; exact q2) (by omega) hI
  have w2 : IntKind.i64.wrap ((0 : Int) + 1) = 1 := by decide
  have hbx : ∀ Y, (F ++ (({ rows := [srow x] } : Bk) :: Y))[F.length]? = some { rows := [srow x] } := fun Y => by simp
  have hfin : ∀ Y E, get E 0 = .ptr 0 0 0 0 → get E 5 = .ptr F.length 0 0 0 → get E 7 = .int .i64 0 →
      ∃ F' X', finO [.t 6] (runW pg 0 tail7 E (F ++ (({ rows := [srow x] } : Bk) :: Y))) = some (.int .i64 0, F') ∧ His F' n l k X' v (S ++ [nrm x]) ∧ F.length ≤ F'.length ∧ (∀ c ∈ blkS X', c ∈ blkS X ∨ F.length ≤ c) ∧ ∀ c, c < F.length → c ≠ k → c ∉ blkS X → F'[c]? = F[c]? := fun Y E e0 e5 e7 => by
    have hz := (List.getElem?_eq_some_iff.1 hF.h).1
    have hkl := (List.getElem?_eq_some_iff.1 hF.row).1
    obtain ⟨F', X', a1, a2, a3, a4, a5⟩ := add_tail (hF.app (({ rows := [srow x] } : Bk) :: Y)) (hbx Y) (by omega) (by omega) (fun hc => Nat.lt_irrefl _ (hF.smp.sq.lt _ hc)) (fun hc => Nat.lt_irrefl _ (hF.set.lt _ hc)) (by omega) e0 e5 e7
    refine ⟨F', X', a1, a2, by simp at a3; omega, fun c hc => ?_, fun c h1 h2 h3 => ?_⟩
    · rcases a4 c hc with h | h
      · exact .inl h
      · right; simp at h; omega
    · rw [a5 c (by simp; omega) h2 (by omega) h3, List.getElem?_append_left h1]
  have e : fn9.cd = .seq (hd fn9.cd) (.seq (hd (tl fn9.cd)) (.seq (hd (tl (tl fn9.cd))) (.seq (hd (tl (tl (tl fn9.cd)))) (.seq (hd (tl (tl (tl (tl fn9.cd))))) (.seq (hd (tl (tl (tl (tl (tl fn9.cd)))))) (.seq (hd (tl (tl (tl (tl (tl (tl fn9.cd))))))) tail7)))))) := rfl
  obtain ⟨xt, xo, xn⟩ := x
  have t1 : runW pg 0 (hd fn9.cd) (parE 0 [.ptr 0 0 0 0, A, .agg (srow ⟨xt, xo, xn⟩)]) F = some (.nrm, [(0, .ptr 0 0 0 0), (1, A), (5, .ptr F.length 0 0 0)], F ++ [{ rows := [srow ⟨xt, xo, xn⟩] }]) := by
    unfold srow
    simp [fn9, hd]
  have t2 : runW pg 0 (hd (tl fn9.cd)) [(0, .ptr 0 0 0 0), (1, A), (5, .ptr F.length 0 0 0)] (F ++ [{ rows := [srow ⟨xt, xo, xn⟩] }]) = some (.nrm, [(0, .ptr 0 0 0 0), (1, A), (5, .ptr F.length 0 0 0), (18, .bool false)], F ++ [{ rows := [srow ⟨xt, xo, xn⟩] }]) := by
    have d1 : ¬ xt < 0 := by simp at ht; omega
    have d2 : ¬ n < xt := by simp at ht; omega
    have d3 : ¬ xt ≤ n - 100 := by simp at ht; omega
    unfold srow
    simp [-getElem?_pos, fn9, hd, tl, his, h, blkAt_eq, h0, d1, d2, wn, d3]
  have t3 : runW pg 0 (hd (tl (tl fn9.cd))) [(0, .ptr 0 0 0 0), (1, A), (5, .ptr F.length 0 0 0), (18, .bool false)] (F ++ [{ rows := [srow ⟨xt, xo, xn⟩] }]) = some (.nrm, [(0, .ptr 0 0 0 0), (1, A), (5, .ptr F.length 0 0 0), (7, .int .i64 0), (8, .bool true)], F ++ [{ rows := [srow ⟨xt, xo, xn⟩] }]) := by
    simp [-getElem?_pos, fn9, hd, tl, hf]
  have t4 : runW pg 0 (hd (tl (tl (tl fn9.cd)))) [(0, .ptr 0 0 0 0), (1, A), (5, .ptr F.length 0 0 0), (7, .int .i64 0), (8, .bool true)] (F ++ [{ rows := [srow ⟨xt, xo, xn⟩] }]) = some (.nrm, [(0, .ptr 0 0 0 0), (1, A), (5, .ptr F.length 0 0 0), (7, .int .i64 0), (8, .bool true), (9, .int .i64 0)], F ++ [{ rows := [srow ⟨xt, xo, xn⟩] }]) := by
    simp [fn9, hd, tl]
  have t5 : ∃ E, runW pg 0 (hd (tl (tl (tl (tl fn9.cd))))) [(0, .ptr 0 0 0 0), (1, A), (5, .ptr F.length 0 0 0), (7, .int .i64 0), (8, .bool true), (9, .int .i64 0)] (F ++ [{ rows := [srow ⟨xt, xo, xn⟩] }]) = some (.nrm, E, F ++ [{ rows := [srow ⟨xt, xo, xn⟩] }, { rows := [[X, v]] }]) ∧ get E 0 = .ptr 0 0 0 0 ∧ get E 1 = A ∧ get E 5 = .ptr F.length 0 0 0 ∧ get E 7 = .int .i64 0 ∧ get E 8 = .bool true ∧ get E 9 = .int .i64 (if thereB n S = true then 1 else 0) := by
    refine ⟨[(0, .ptr 0 0 0 0), (1, A), (5, .ptr F.length 0 0 0), (7, .int .i64 0), (8, .bool true), (9, .int .i64 (if thereB n S = true then 1 else 0)), (50, .arr k 0 0 1 1 false), (51, .int .i64 1), (52, .int .i64 1), (53, .bool false)], ?_, rfl, rfl, rfl, rfl, rfl, rfl⟩
    cases hb : thereB n S
    · rw [hb] at hth
      simp [-getElem?_pos, fn9, hd, tl, blkAt_eq, h0, L, fn9B0, hk, hcX, hcv, hth, w2, w01, w00, Vs.idx]
    · rw [hb] at hth
      simp [-getElem?_pos, fn9, hd, tl, blkAt_eq, h0, L, fn9B0, hk, hcX, hcv, hth, w2, w01, w00, Vs.idx]
  obtain ⟨E5, t5, x0, x1, x5, x7, x8, x9⟩ := t5
  have t6 : ∃ E Y, runW pg 0 (hd (tl (tl (tl (tl (tl fn9.cd)))))) E5 (F ++ [{ rows := [srow ⟨xt, xo, xn⟩] }, { rows := [[X, v]] }]) = some (.nrm, E, F ++ ({ rows := [srow ⟨xt, xo, xn⟩] } :: Y)) ∧ get E 0 = .ptr 0 0 0 0 ∧ get E 1 = A ∧ get E 5 = .ptr F.length 0 0 0 ∧ get E 7 = .int .i64 0 ∧ get E 8 = .bool true := by
    have hlt : ¬ xt ≤ (lastS n S).t := by simp at hnew; omega
    cases hb : thereB n S
    · rw [hb] at hth x9
      refine ⟨[(0, .ptr 0 0 0 0), (1, A), (5, .ptr F.length 0 0 0), (7, .int .i64 0), (8, .bool true), (102, .bool false)], [{ rows := [[X, v]] }], ?_, rfl, rfl, rfl, rfl, rfl⟩
      simp [-getElem?_pos, fn9, hd, tl, blkAt_eq, x0, x1, x5, x7, x8, x9, h0, hk, hcX, hcv, hth, Vs.idx]
    · rw [hb] at hth x9
      refine ⟨[(0, .ptr 0 0 0 0), (1, A), (5, .ptr F.length 0 0 0), (7, .int .i64 0), (8, .bool true), (101, .bool false)], [{ rows := [[X, v]] }, { rows := [srow (lastS n S)] }], ?_, rfl, rfl, rfl, rfl, rfl⟩
      unfold srow at hla ⊢
      simp [-getElem?_pos, fn9, hd, tl, blkAt_eq, x0, x1, x5, x7, x8, x9, h0, hk, hcX, hcv, hth, hla, Vs.idx, hlt]
  obtain ⟨E6, Y6, t6, y0, y1, y5, y7, y8⟩ := t6
  have t7 : runW pg 0 (hd (tl (tl (tl (tl (tl (tl fn9.cd))))))) E6 (F ++ ({ rows := [srow ⟨xt, xo, xn⟩] } :: Y6)) = some (.nrm, [(0, .ptr 0 0 0 0), (1, A), (5, .ptr F.length 0 0 0), (7, .int .i64 0), (106, .bool false)], F ++ ({ rows := [srow ⟨xt, xo, xn⟩] } :: Y6)) := by
    simp [-getElem?_pos, fn9, hd, tl, y0, y1, y5, y7, y8]
  obtain ⟨F', X', a1, a2⟩ := hfin Y6 [(0, .ptr 0 0 0 0), (1, A), (5, .ptr F.length 0 0 0), (7, .int .i64 0), (106, .bool false)] rfl rfl rfl
  refine ⟨F', X', ?_, a2⟩
  rw [callW_eqO (fn := fn9) rfl rfl, e]
  rw [runW_seqO, t1, seqO_nrm, runW_seqO, t2, seqO_nrm, runW_seqO, t3, seqO_nrm, runW_seqO, t4, seqO_nrm, runW_seqO, t5, seqO_nrm, runW_seqO, t6, seqO_nrm, runW_seqO, t7, seqO_nrm]
  exact a1
end Go.Proofs.YtnfddeiegbifhaaDoor
