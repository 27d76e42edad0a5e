import Derived.Test.YtnfddeiegbifhaaDoorTy6
/- Numbers; a place in a slice, however the heap grows; the first loop. -/
namespace Go.Proofs.YtnfddeiegbifhaaDoor
open Go Go.Vs
variable {ro : Nat} {H : Hp}

def vrow (x : Nm) : List IV := [.bool x.1, .int .i64 x.2]

theorem is_g {x : Nm} : doCall (callW pg) ro 2 (.fn 14 []) [.agg (vrow x)] H = some (.bool (isN x), H) := by
  have hov : ∀ ro H, doCall (callW pg) ro 2 (.fn 31 []) [] H = some (.agg [.bool true, .int .i64 0], H) := fun ro H => call2p (ovf_c (ro := H.length) (H := H) (Nat.le_refl _)) rfl rfl
  have hb : ∃ H', callW pg H.length 14 [.agg (vrow x)] H = some (.bool (isN x), H') := by
    refine ex_of_map ?_
    rw [callW_eqO (fn := fn14) rfl rfl]
    obtain ⟨o, n⟩ := x
    unfold isN vrow
    cases o
    · by_cases h : n = -9223372036854775808
      · subst h
        simp [-getElem?_pos, fn14, blkAt_eq, hov]
      · simp [-getElem?_pos, fn14, blkAt_eq, hov, h]
    · by_cases h : n = 0
      · subst h
        simp [-getElem?_pos, fn14, blkAt_eq, hov]
      · simp [-getElem?_pos, fn14, blkAt_eq, hov, h]
  obtain ⟨H', hb⟩ := hb
  exact call2p hb (by simp [vrow, plainD, frzD]) rfl

theorem Sq_idxA {v : IV} {sz : Nat} {rows : List (List IV)} (h : Sq H v sz rows) {i : Nat} {row : List IV} (hi : rows[i]? = some row) : ∃ b g j R, (∀ Y, Vs.idx (H ++ Y) sz v i = some (.ptr b g j 0)) ∧ (∀ Y, (H ++ Y)[b]? = some { rows := R, gen := g }) ∧ R[j]? = some row := by
  rcases h with ⟨rfl, rfl⟩ | ⟨b, g, pre, post, cap, ex, rfl, _, hB, hw⟩
  · simp at hi
  · have hlt : i < rows.length := (List.getElem?_eq_some_iff.1 hi).1
    have hbl := (List.getElem?_eq_some_iff.1 hB).1
    have hBY : ∀ Y, (H ++ Y)[b]? = some { rows := pre ++ (rows ++ post), gen := g } := fun Y => by rw [List.getElem?_append_left hbl]; exact hB
    have hs := szOk_all hw
    refine ⟨b, g, pre.length + i, pre ++ (rows ++ post), fun Y => ?_, hBY, ?_⟩
    · have h2 : (i : Int) < rows.length := by omega
      have := hBY Y
      simp [-getElem?_pos, this, hs, h2]
    · rw [List.getElem?_append_right (by omega), show pre.length + i - pre.length = i by omega, List.getElem?_append_left hlt]; exact hi

def ab : List Pr := [([97], [98])]
theorem isB_ab : isB ab = true := by decide
theorem short_ab : Short ab := by
  intro p hp
  simp [ab] at hp
  subst hp
  exact ⟨by decide, by decide⟩
def Lab : IV := .arr 1 0 0 1 1 true

/-- A step of the first loop: time goes on, then a sample is added. -/
theorem lo_step {F : Hp} {n : Int} {k : Nat} {X v : IV} {g : Int} (hg : 1 ≤ g ∧ g ≤ 120) {V : List Nm} {x : Nm} {i : Nat} (hF : His F n ab k X v (SS g (V.take i))) (hx : V[i]? = some x) (hi : 0 < i) (hl : V.length ≤ 60) (hn : n = g * i)
    (h1 : F[1]? = some { rows := ab.map prow }) (k1 : 1 ≠ k) (x1 : 1 ∉ blkS X) :
    ∃ F1 F2 X', callW pg 0 8 [.ptr 0 0 0 0, .int .i64 (g * (i + 1))] F = some (.tup [], F1) ∧ callW pg 0 9 [.ptr 0 0 0 0, Lab, .agg (srow ⟨g * (i + 1), x.1, x.2⟩)] F1 = some (.int .i64 0, F2) ∧
      His F2 (g * (i + 1)) ab k X' v (SS g (V.take (i + 1))) ∧ F2[1]? = some { rows := ab.map prow } ∧ 1 ∉ blkS X' := by
  have hil : i < V.length := (List.getElem?_eq_some_iff.1 hx).1
  have hgi : g * (i + 1) ≤ 120 * 60 := Int.mul_le_mul hg.2 (by omega) (by omega) (by omega)
  have e : g * ((i : Int) + 1) = g * i + g := by rw [Int.mul_add, Int.mul_one]
  have h0 : 0 ≤ g * (i : Int) := Int.mul_nonneg (by omega) (by omega)
  obtain ⟨F1, a1, hF1, a2, a3⟩ := adv_his hF (g * (i + 1))
  have en : max n (min (g * (i + 1)) 1000000) = g * (i + 1) := by omega
  rw [en] at hF1
  have h1l := (List.getElem?_eq_some_iff.1 h1).1
  have h11 : F1[1]? = some { rows := ab.map prow } := by rw [a3 1 (by omega)]; exact h1
  have hA : Sq F1 Lab 2 (ab.map prow) := .inr ⟨1, 0, [], [], 1, true, rfl, by decide, h11, by simp [ab, prow]⟩
  have htl : (V.take i).length = i := by rw [List.length_take]; omega
  have hne : SS g (V.take i) ≠ [] := fun h => by
    have := SS_len (g := g) (V := V.take i)
    rw [h, htl] at this
    simp at this; omega
  have hu : upt (g * (i + 1)) (SS g (V.take i)) = i := SS_upt (by omega) (by omega) (by omega) (fun h => by omega)
  have hu' : upt (g * (i + 1)) (SS g (V.take i)) = (i - 1) + 1 := by omega
  obtain ⟨y, hy⟩ : ∃ y, (SS g (V.take i))[i - 1]? = some y := ⟨_, List.getElem?_eq_getElem (by rw [SS_len]; omega)⟩
  have hlast := SS_last hu' hy
  have hyt := SS_t hy
  have e2 : ((i - 1 : Nat) : Int) + 1 = i := by omega
  rw [e2] at hyt
  obtain ⟨F2, X', b1, b2, b3, b4, b5⟩ := add_later (x := ⟨g * (i + 1), x.1, x.2⟩) hF1 hne (SS_inc (by omega)) (by rw [SS_len]; omega) hA short_ab (by decide) (by omega) isB_ab (by simp only []; omega) (by rw [hlast, hyt]; simp only []; omega)
  have ht : V.take (i + 1) = V.take i ++ [x] := by rw [List.take_add_one, hx]; rfl
  have hs : SS g (V.take (i + 1)) = SS g (V.take i) ++ [nrm ⟨g * (i + 1), x.1, x.2⟩] := by rw [ht, SS_snoc, htl]
  refine ⟨F1, F2, X', a1, b1, by rw [hs]; exact b2, by rw [b5 1 (by omega) k1 x1]; exact h11, fun h => ?_⟩
  rcases b4 1 h with h | h
  · exact x1 h
  · omega

/-- The first one. -/
theorem lo_first {g : Int} (hg : 1 ≤ g ∧ g ≤ 120) {V : List Nm} {x : Nm} (hx : V[0]? = some x) :
    ∃ F1 F2 k X' v, callW pg 0 8 [.ptr 0 0 0 0, .int .i64 g] [{ rows := [[.int .i64 0, .nsl]] }, { rows := ab.map prow }] = some (.tup [], F1) ∧ callW pg 0 9 [.ptr 0 0 0 0, Lab, .agg (srow ⟨g, x.1, x.2⟩)] F1 = some (.int .i64 0, F2) ∧
      His F2 g ab k X' v (SS g (V.take 1)) ∧ F2[1]? = some { rows := ab.map prow } ∧ 1 ≠ k ∧ 1 ∉ blkS X' := by
  have a1 := adv_c (F := [{ rows := [[.int .i64 0, .nsl]] }, { rows := ab.map prow }]) (n := 0) (m := g) (X := .nsl) rfl
  have en : max 0 (min g 1000000) = g := by omega
  rw [en] at a1
  obtain ⟨F1, hF1⟩ : ∃ F1 : Hp, F1 = [{ rows := [[.int .i64 g, .nsl]] }, { rows := ab.map prow }] := ⟨_, rfl⟩
  have a1 : callW pg 0 8 [.ptr 0 0 0 0, .int .i64 g] [{ rows := [[.int .i64 0, .nsl]] }, { rows := ab.map prow }] = some (.tup [], F1) := by rw [a1, hF1]; rfl
  have h11 : F1[1]? = some { rows := ab.map prow } := by rw [hF1]; rfl
  have hA : Sq F1 Lab 2 (ab.map prow) := .inr ⟨1, 0, [], [], 1, true, rfl, by decide, h11, by simp [ab, prow]⟩
  obtain ⟨F2, k, X', v, b1, b2, b3, b4, b5, b6, b7⟩ := add_first (x := ⟨g, x.1, x.2⟩) (H0 := F1) (A := Lab) (l := ab) (n := g) (by rw [hF1]; rfl) hA (by simp [Lab, blkS]) short_ab (by decide) (by omega) isB_ab (by simp only []; omega)
  have hl : F1.length = 2 := by rw [hF1]; rfl
  have ht : V.take 1 = [x] := by rw [List.take_add_one, hx]; rfl
  have hs : SS g (V.take 1) = [nrm ⟨g, x.1, x.2⟩] := by rw [ht]; simp [SS]
  refine ⟨F1, F2, k, X', v, a1, b1, by rw [hs]; exact b2, by rw [b7 1 (by omega) (by omega)]; exact h11, by omega, fun h => ?_⟩
  have := b4 1 h
  omega

theorem lo_loop {A : IV} {V : List Nm} (hA : SlA A 2 (V.map vrow)) (hl : V.length ≤ 60) {g : Int} (hg : 1 ≤ g ∧ g ≤ 120) : ∀ (d i : Nat) (F : Hp) (k : Nat) (X v : IV), i + d = V.length → 0 < i → His F (g * i) ab k X v (SS g (V.take i)) → F[1]? = some { rows := ab.map prow } → 1 ≠ k → 1 ∉ blkS X →
    ∃ e' F' X', runW pg 0 fn4L0 [(0, A), (5, .ptr 0 0 0 0), (6, Lab), (7, .int .i64 g), (8, .int .i64 i)] F = some (.exit 0, e', F') ∧ get e' 0 = A ∧ get e' 5 = .ptr 0 0 0 0 ∧ get e' 6 = Lab ∧ get e' 7 = .int .i64 g ∧ His F' (g * V.length) ab k X' v (SS g V) ∧ F'[1]? = some { rows := ab.map prow } := by
  have L : ∀ e H, runW pg 0 fn4L0 e H = seqO pg 0 fn4L0 (runW pg 0 fn4B0 (keepE [0, 5, 6, 7, 8] e) H) := fun e H => runW_loopO
  have hlen := hA.len
  rw [List.length_map] at hlen
  intro d
  induction d with
  | zero =>
    intro i F k X v hd hi hF h1 k1 x1
    have : i = V.length := by omega
    subst this
    rw [List.take_length] at hF
    refine ⟨[(0, A), (5, .ptr 0 0 0 0), (6, Lab), (7, .int .i64 g), (8, .int .i64 V.length), (31, .bool false)], F, X, ?_, rfl, rfl, rfl, rfl, hF, h1⟩
    rw [L]; simp [-getElem?_pos, fn4B0, hlen]
  | succ d ih =>
    intro i F k X v hd hi hF h1 k1 x1
    obtain ⟨x, hx⟩ : ∃ x, V[i]? = some x := ⟨_, List.getElem?_eq_getElem (by omega)⟩
    obtain ⟨F1, F2, X', a1, a2, a3, a4, a5⟩ := lo_step hg hF hx hi hl rfl h1 k1 x1
    obtain ⟨e', F', X'', hr, hrest⟩ := ih (i + 1) F2 k X' v (by omega) (by omega) (by push_cast; exact a3) a4 k1 a5
    push_cast at hr
    refine ⟨e', F', X'', ?_, hrest⟩
    have hgi : g * (i + 1) ≤ 120 * 60 := Int.mul_le_mul hg.2 (by omega) (by omega) (by omega)
    have hgi0 : 0 ≤ g * ((i : Int) + 1) := Int.mul_nonneg (by omega) (by omega)
    have w1 : IntKind.i64.wrap ((i : Int) + 1) = i + 1 := by rw [IntKind.wrap_i64]; omega
    have w2 : IntKind.i64.wrap (g * ((i : Int) + 1)) = g * (i + 1) := by rw [IntKind.wrap_i64]; omega
    have hi1 : (i : Int) < V.length := by omega
    have hidx := hA.idx F1 i (by simp; omega)
    unfold srow at a2
    rw [L]
    simp [-getElem?_pos, fn4B0, hlen, hi1, w1, w2, a1, hidx, hx, vrow, a2, hr]
    done
end Go.Proofs.YtnfddeiegbifhaaDoor
