import Derived.Test.YtnfddeiegbifhaaDoorTy2
/- Adding a sample: to nothing, to what is there. -/
namespace Go.Proofs.YtnfddeiegbifhaaDoor
open Go Go.Vs
variable {ro : Nat} {H : Hp}

theorem prow_plain {l : List Pr} : ∀ r ∈ l.map prow, ∀ x ∈ r, plainD 10 x = true := by
  intro r hr x hx
  obtain ⟨y, _, rfl⟩ := List.mem_map.1 hr
  simp [prow] at hx
  rcases hx with rfl | rfl <;> rfl

theorem find0_f {A : IV} {l : List Pr} {b g : Nat} {B : Bk} {n : Int} (hB : H[b]? = some B) (hg : B.gen = g) (hr : B.rows = [[.int .i64 n, .nsl]]) (hA : SlA (frzArg H A) 2 (l.map prow)) : doCall (callW pg) ro 2 (.fn 22 []) [.ptr b g 0 0, A] H = some (.tup [.int .i64 0, .bool false], H) := by
  have hf := fun ro => fb0_2 (ro := ro) (H := H) hA
  refine call2 (H2 := H) (args' := [.ptr b g 0 0, frzArg H A]) (by
    have h1 : frzArg H (.ptr b g 0 0) = .ptr b g 0 0 := rfl
    simp [h1]) ?_ rfl (.inl rfl)
  rw [callW_eqO (fn := fn22) rfl rfl]
  simp [-getElem?_pos, fn22, blkAt_eq, hB, hg, hr, hf]
theorem find1_f {A Ci X : IV} {l : List Pr} {b g : Nat} {B : Bk} {n : Int} {R : List (List IV)} {f g' : Bool} (hB : H[b]? = some B) (hg : B.gen = g) (hr : B.rows = [[.int .i64 n, X]]) (hX : frzArg H X = .imm [[.imm R f, Ci]] g') (hC : SlA Ci 2 (l.map prow)) (hA : SlA (frzArg H A) 2 (l.map prow)) (hl : l.length ≤ 9223372036854775807) :
    doCall (callW pg) ro 2 (.fn 22 []) [.ptr b g 0 0, A] H = some (.tup [.int .i64 0, .bool true], H) := by
  have hf := fun ro => fb1_2 (ro := ro) hX hC hA hl
  refine call2 (H2 := H) (args' := [.ptr b g 0 0, frzArg H A]) (by
    have h1 : frzArg H (.ptr b g 0 0) = .ptr b g 0 0 := rfl
    simp [h1]) ?_ rfl (.inl rfl)
  rw [callW_eqO (fn := fn22) rfl rfl]
  simp [-getElem?_pos, fn22, blkAt_eq, hB, hg, hr, hf]

theorem cloneS_c {A : IV} {L : List Pr} (h : Sq H A 2 (L.map prow)) (hl : L.length ≤ 1000) : ∃ v' Y, callW pg ro 26 [A] H = some (v', H ++ Y) ∧ Sq (H ++ Y) v' 2 (L.map prow) ∧ ∀ b ∈ blkS v', H.length ≤ b := by
  rcases h with ⟨rfl, hr⟩ | h
  · refine ⟨.nsl, [], ?_, by rw [hr]; exact Sq.nil, by simp [blkS]⟩
    rw [callW_eqO (fn := fn26) rfl rfl]
    simp [-getElem?_pos, fn26]
  · have h' : Sq H A 2 (L.map prow) := .inr h
    obtain ⟨v', Y, c1, c2, c3⟩ := h'.clone (bytes := 32) (ro := ro) (by rw [List.length_map]; unfold room; omega)
    obtain ⟨b, g, pre, post, cap, ex, rfl, _⟩ := h
    refine ⟨v', Y, ?_, c2, c3⟩
    rw [List.length_map] at c1
    rw [callW_eqO (fn := fn26) rfl rfl]
    simp [-getElem?_pos, fn26, c1]

theorem add_first {H0 : Hp} {A : IV} {l : List Pr} {n : Int} {x : Sm} (h0 : H0[0]? = some { rows := [[.int .i64 n, .nsl]] }) (hA : Sq H0 A 2 (l.map prow)) (hA0 : 0 ∉ blkS A) (hs : Short l) (hl : l.length ≤ 1000) (hn : 0 ≤ n ∧ n ≤ 1000000) (h : isB l = true) (ht : 0 ≤ x.t ∧ x.t ≤ n ∧ n - 100 < x.t) :
    ∃ F k X v, callW pg 0 9 [.ptr 0 0 0 0, A, .agg (srow x)] H0 = some (.int .i64 0, F) ∧ His F n l k X v [nrm x] ∧ H0.length ≤ F.length ∧ (∀ c ∈ blkS X, H0.length ≤ c) ∧ (∀ c ∈ blkS v, H0.length ≤ c) ∧ H0.length ≤ k ∧ ∀ c, c < H0.length → c ≠ 0 → F[c]? = H0[c]? := by
  have hzl : 0 < H0.length := (List.getElem?_eq_some_iff.1 h0).1
  have hAf := fun Y => (hA.app Y).frzA prow_plain
  have his := fun Y => is_2 (ro := 0) (H := H0 ++ Y) (A := A) (l := l) (hAf Y) hs (by omega)
  have wn : IntKind.i64.wrap (n - 100) = n - 100 := by rw [IntKind.wrap_i64]; omega
  have h00 : ∀ Y, (H0 ++ Y)[0]? = some { rows := [[.int .i64 n, .nsl]] } := fun Y => by rw [List.getElem?_append_left hzl]; exact h0
  have hf := find0_f (ro := 0) (H := H0 ++ [{ rows := [srow x] }]) (b := 0) (g := 0) (h00 _) rfl rfl (hAf _)
  obtain ⟨v, Y, c1, c2, c3⟩ := cloneS_c (ro := 0) (H := H0 ++ [{ rows := [srow x] }]) (hA.app _) hl
  have L : ∀ e H, runW pg 0 fn9L0 e H = seqO pg 0 fn9L0 (runW pg 0 fn9B0 (keepE [0, 1, 5, 7, 8, 9, 50, 51, 52] e) H) := fun e H => runW_loopO
  obtain ⟨G, hG⟩ : ∃ G : Hp, G = H0 ++ [{ rows := [srow x] }] ++ Y := ⟨_, rfl⟩
  rw [← hG] at c1 c2
  have g0 : G[0]? = some { rows := [[.int .i64 n, .nsl]] } := by rw [hG, List.append_assoc]; exact h00 _
  have g1 : G[H0.length]? = some { rows := [srow x] } := by rw [hG]; simp
  have gl : H0.length + 1 ≤ G.length := by rw [hG]; simp
  have hcv : cellOk v = true := c2.cok
  have hi : insV 0 (G ++ [{ rows := [[.nsl, v]] }]) 2 48 .nsl (.int .i64 0) (.arr G.length 0 0 1 1 true) = some (.arr (G.length + 1) 0 0 1 1 false, G ++ [{ rows := [[.nsl, v]] }, { rows := [[.nsl, v]] }]) := by
    have hr : rowsOf (G ++ [({ rows := [[.nsl, v]] } : Bk)]) (.arr G.length 0 0 1 1 true) = some [[.nsl, v]] := by simp [rowsOf, blkAt_eq]
    have ha := app_nsl (ro := 0) (H := G ++ [({ rows := [[.nsl, v]] } : Bk)]) (sz := 2) (bytes := 48) hr rfl (by simp) (by simp [room])
    simp [insV, hr, isSl, ha]
  have hi2 : callW pg 0 25 [.nsl, .int .i64 0, .arr G.length 0 0 1 1 true] (G ++ [{ rows := [[.nsl, v]] }]) = some (.arr (G.length + 1) 0 0 1 1 false, G ++ [{ rows := [[.nsl, v]] }, { rows := [[.nsl, v]] }]) := by
    rw [callW_eqO (fn := fn25) rfl rfl]
    simp [fn25, insW, hi]
  obtain ⟨K, hK⟩ : ∃ K : Hp, K = (G ++ [({ rows := [[.nsl, v]] } : Bk), { rows := [[.nsl, v]] }]).set 0 { rows := [[.int .i64 n, .arr (G.length + 1) 0 0 1 1 false]] } := ⟨_, rfl⟩
  have hvl : ∀ c ∈ blkS v, H0.length + 1 ≤ c ∧ c < G.length := fun c hc => ⟨by have := c3 c hc; simpa using this, c2.lt c hc⟩
  have hKs : His K n l (G.length + 1) .nsl v [] := by
    refine ⟨?_, ?_, Ow.nil, ?_, by omega, by simp [blkS], fun c hc => ⟨?_, ?_, by simp [blkS]⟩⟩
    · rw [hK, List.getElem?_set_self (by simp)]
    · rw [hK, List.getElem?_set_ne (by omega), List.getElem?_append_right (by omega)]; simp
    · rw [hK]
      exact (c2.app _).set fun hc => by have := hvl 0 hc; omega
    · have := hvl c hc; omega
    · have := hvl c hc; omega
  have k1 : K[H0.length]? = some { rows := [srow x] } := by rw [hK, List.getElem?_set_ne (by omega), List.getElem?_append_left (by omega)]; exact g1
  obtain ⟨F, X, t8, hF, hl1, hX, hfr⟩ := add_tail hKs k1 (by omega) (by omega) (by simp [blkS]) (fun hc => by have := hvl _ hc; omega) (by simp) (E := [(0, .ptr 0 0 0 0), (5, .ptr H0.length 0 0 0), (7, .int .i64 0)]) rfl rfl rfl
  have hKl : K.length = G.length + 2 := by rw [hK]; simp
  refine ⟨F, G.length + 1, X, v, ?_, hF, by omega, fun c hc => ?_, fun c hc => by have := hvl c hc; omega, by omega, fun c hc hc0 => ?_⟩
  rotate_left
  · rcases hX c hc with h | h
    · simp [blkS] at h
    · omega
  · rw [hfr c (by omega) (by omega) (by omega) (by simp [blkS]), hK, List.getElem?_set_ne (Ne.symm hc0), List.getElem?_append_left (by omega), hG, List.append_assoc, List.getElem?_append_left hc]
  have e : fn9.cd = .seq (hd fn9.cd) (.seq (hd (tl fn9.cd)) (.seq (hd (tl (tl fn9.cd))) (.seq (hd (tl (tl (tl fn9.cd)))) (.seq (hd (tl (tl (tl (tl fn9.cd))))) (.seq (hd (tl (tl (tl (tl (tl fn9.cd)))))) (.seq (hd (tl (tl (tl (tl (tl (tl fn9.cd))))))) tail7)))))) := rfl
  obtain ⟨xt, xo, xn⟩ := x
  have t1 : runW pg 0 (hd fn9.cd) (parE 0 [.ptr 0 0 0 0, A, .agg (srow ⟨xt, xo, xn⟩)]) H0 = some (.nrm, [(0, .ptr 0 0 0 0), (1, A), (5, .ptr H0.length 0 0 0)], H0 ++ [{ rows := [srow ⟨xt, xo, xn⟩] }]) := by
    unfold srow
    simp [fn9, hd]
  have t2 : runW pg 0 (hd (tl fn9.cd)) [(0, .ptr 0 0 0 0), (1, A), (5, .ptr H0.length 0 0 0)] (H0 ++ [{ rows := [srow ⟨xt, xo, xn⟩] }]) = some (.nrm, [(0, .ptr 0 0 0 0), (1, A), (5, .ptr H0.length 0 0 0), (18, .bool false)], H0 ++ [{ rows := [srow ⟨xt, xo, xn⟩] }]) := by
    have d1 : ¬ xt < 0 := by simp at ht; omega
    have d2 : ¬ n < xt := by simp at ht; omega
    have d3 : ¬ xt ≤ n - 100 := by simp at ht; omega
    unfold srow
    simp [-getElem?_pos, fn9, hd, tl, his, h, blkAt_eq, h00, d1, d2, wn, d3]
  have t3 : runW pg 0 (hd (tl (tl fn9.cd))) [(0, .ptr 0 0 0 0), (1, A), (5, .ptr H0.length 0 0 0), (18, .bool false)] (H0 ++ [{ rows := [srow ⟨xt, xo, xn⟩] }]) = some (.nrm, [(0, .ptr 0 0 0 0), (1, A), (5, .ptr H0.length 0 0 0), (7, .int .i64 0), (8, .bool false)], H0 ++ [{ rows := [srow ⟨xt, xo, xn⟩] }]) := by
    simp [-getElem?_pos, fn9, hd, tl, hf]
  have t4 : runW pg 0 (hd (tl (tl (tl fn9.cd)))) [(0, .ptr 0 0 0 0), (1, A), (5, .ptr H0.length 0 0 0), (7, .int .i64 0), (8, .bool false)] (H0 ++ [{ rows := [srow ⟨xt, xo, xn⟩] }]) = some (.nrm, [(0, .ptr 0 0 0 0), (1, A), (5, .ptr H0.length 0 0 0), (7, .int .i64 0), (8, .bool false), (9, .int .i64 0)], H0 ++ [{ rows := [srow ⟨xt, xo, xn⟩] }]) := by
    simp [fn9, hd, tl]
  have t5 : ∃ X, runW pg 0 (hd (tl (tl (tl (tl fn9.cd))))) [(0, .ptr 0 0 0 0), (1, A), (5, .ptr H0.length 0 0 0), (7, .int .i64 0), (8, .bool false), (9, .int .i64 0)] (H0 ++ [{ rows := [srow ⟨xt, xo, xn⟩] }]) = some (.nrm, X, H0 ++ [{ rows := [srow ⟨xt, xo, xn⟩] }]) ∧ get X 0 = .ptr 0 0 0 0 ∧ get X 1 = A ∧ get X 5 = .ptr H0.length 0 0 0 ∧ get X 7 = .int .i64 0 ∧ get X 8 = .bool false ∧ get X 9 = .int .i64 0 := by
    refine ⟨[(0, .ptr 0 0 0 0), (1, A), (5, .ptr H0.length 0 0 0), (7, .int .i64 0), (8, .bool false), (9, .int .i64 0), (50, .nsl), (51, .int .i64 0), (52, .int .i64 0), (53, .bool false)], ?_, rfl, rfl, rfl, rfl, rfl, rfl⟩
    simp [-getElem?_pos, fn9, hd, tl, blkAt_eq, h00, L, fn9B0]
  obtain ⟨E5, t5, x0, x1, x5, x7, x8, x9⟩ := t5
  have t6 : runW pg 0 (hd (tl (tl (tl (tl (tl fn9.cd)))))) E5 (H0 ++ [{ rows := [srow ⟨xt, xo, xn⟩] }]) = some (.nrm, [(0, .ptr 0 0 0 0), (1, A), (5, .ptr H0.length 0 0 0), (7, .int .i64 0), (8, .bool false), (102, .bool false)], H0 ++ [{ rows := [srow ⟨xt, xo, xn⟩] }]) := by
    simp [-getElem?_pos, fn9, hd, tl, x0, x1, x5, x7, x8, x9]
  have t7 : runW pg 0 (hd (tl (tl (tl (tl (tl (tl fn9.cd))))))) [(0, .ptr 0 0 0 0), (1, A), (5, .ptr H0.length 0 0 0), (7, .int .i64 0), (8, .bool false), (102, .bool false)] (H0 ++ [{ rows := [srow ⟨xt, xo, xn⟩] }]) = some (.nrm, [(0, .ptr 0 0 0 0), (5, .ptr H0.length 0 0 0), (7, .int .i64 0)], K) := by
    have hpos : 0 < G.length := by omega
    have hcs : cellsO v = some [v] := c2.cells
    rw [hK]
    simp [-getElem?_pos, fn9, hd, tl, blkAt_eq, h00, c1, g0, List.getElem?_append_left hpos, hcs, hcv, hi2, wbl]
  rw [callW_eqO (fn := fn9) rfl rfl, e]
  rw [runW_seqO, t1, seqO_nrm, runW_seqO, t2, seqO_nrm, runW_seqO, t3, seqO_nrm, runW_seqO, t4, seqO_nrm, runW_seqO, t5, seqO_nrm, runW_seqO, t6, seqO_nrm, runW_seqO, t7, seqO_nrm]
  exact t8
end Go.Proofs.YtnfddeiegbifhaaDoor
