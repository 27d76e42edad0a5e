import Derived.Test.YtinmpfflkcnkfaaTw2
/- A label set with other values: the walk, on. -/
namespace Go.Proofs.Ytinmpfflkcnkfaa
open Go Go.Vs
variable {ro : Nat} {H : Hp}

theorem Ow.put {v : IV} {sz : Nat} {rows : List (List IV)} (h : Ow H v sz rows) {i : Nat} {row : List IV} (hi : rows[i]? = some row) : ∃ b B j, b ∈ blkS v ∧ idx H sz v i = some (.ptr b B.gen j 0) ∧ H[b]? = some B ∧ B.frz = false ∧ B.rows[j]? = some row ∧
    ∀ row', row'.length = sz → Ow (H.set b { rows := B.rows.set j row', gen := B.gen }) v sz (rows.set i row') := by
  rcases h with ⟨rfl, rfl⟩ | ⟨b, g, pre, post, cap, ex, rfl, h1, h2, h3, hB, hw⟩
  · simp at hi
  · have hlt : i < rows.length := (List.getElem?_eq_some_iff.1 hi).1
    have hblt : b < H.length := (List.getElem?_eq_some_iff.1 hB).1
    have hs := szOk_all hw
    refine ⟨b, _, pre.length + i, by simp [blkS], ?_, hB, rfl, ?_, fun row' hr' => .inr ⟨b, g, pre, post, cap, ex, by simp, by simpa using h1, by simpa using h2, fun he => by simpa using h3 he, ?_, fun r hr => ?_⟩⟩
    · have h2 : (i : Int) < rows.length := by omega
      simp [-getElem?_pos, hB, hs, h2]
    · rw [List.getElem?_append_right (by omega), show pre.length + i - pre.length = i by omega, List.getElem?_append_left hlt]; exact hi
    · rw [List.getElem?_set_self hblt]
      congr 2
      rw [List.set_append_right _ _ (by omega), show pre.length + i - pre.length = i by omega, List.set_append_left _ _ hlt]
    · rcases List.mem_append.1 hr with hr | hr
      · exact hw r (by simp [hr])
      · rcases List.mem_append.1 hr with hr | hr
        · rcases List.mem_or_eq_of_mem_set hr with hr | rfl
          · exact hw r (by simp [hr])
          · exact hr'
        · exact hw r (by simp [hr])

theorem ins_c {s v x : IV} {i : Int} {H' : Hp} (h : insV ro H 2 32 s (.int .i64 i) v = some (x, H')) : callW pg ro 59 [s, .int .i64 i, v] H = some (x, H') := by
  rw [callW_eqO (fn := fn59) rfl rfl]
  simp [fn59, insW, h]

theorem setP_len (x : Pr) (l : List Pr) : (setP x l).length ≤ l.length + 1 := by
  unfold setP
  split
  · split
    · have := List.length_eraseIdx_le l (posP x l); omega
    · simp
  · split
    · omega
    · simp; omega

theorem with_loop {B : IV} {ps : List Pr} (hB : SlA B 2 (ps.map prow)) (hp : ps.length ≤ 100) : ∀ (k i : Nat) (G : Hp) (v : IV) (o : List Pr), i + k = ps.length → o.length + k ≤ 500 → Strict o → Ow G v 2 (o.map prow) → (∀ b ∈ blkS v, ro ≤ b) → ro ≤ G.length →
    ∃ e' G' v', runW pg ro fn25L0 [(6, v), (16, B), (17, .int .i64 ps.length), (18, .int .i64 i)] G = some (.exit 0, e', G') ∧ get e' 6 = v' ∧ Ow G' v' 2 ((setAll (ps.drop i) o).map prow) ∧ (∀ b ∈ blkS v', ro ≤ b) := by
  have L : ∀ e H, runW pg ro fn25L0 e H = seqO pg ro fn25L0 (runW pg ro fn25B0 (keepE [6, 16, 17, 18] e) H) := fun e H => runW_loopO
  intro k
  induction k with
  | zero =>
    intro i G v o hi _ _ h hro _
    have : i = ps.length := by omega
    subst this
    refine ⟨[(6, v), (16, B), (17, .int .i64 ps.length), (18, .int .i64 ps.length), (19, .bool false)], G, v, ?_, rfl, by rw [List.drop_length]; exact h, hro⟩
    rw [L]; simp [fn25B0]
  | succ k ih =>
    intro i G v o hi hol hs h hro hroG
    have h2 : i < ps.length := by omega
    have h1 : (i : Int) < ps.length := by omega
    have w1 : IntKind.i64.wrap ((i : Int) + 1) = i + 1 := by rw [IntKind.wrap_i64]; omega
    obtain ⟨x, hx⟩ : ∃ x, ps[i]? = some x := ⟨_, List.getElem?_eq_getElem h2⟩
    have hdr : ps.drop i = x :: ps.drop (i + 1) := by
      have := List.drop_eq_getElem_cons h2
      rw [this]; congr 1
      rw [List.getElem?_eq_getElem h2] at hx; exact Option.some.inj hx
    have hidx := fun H => hB.idx H i (by simp; omega)
    have hG1 : Ow (G ++ [{ rows := [prow x] }]) v 2 (o.map prow) := h.app _
    have hf := find_2 (ro := ro) (x := x) hG1.sq (by omega) hs
    have hple := posP_le x o
    have wp : IntKind.i64.wrap ((posP x o : Int) + 1) = posP x o + 1 := by rw [IntKind.wrap_i64]; omega
    have hst := setP_strict (x := x) hs
    have hsl := setP_len x o
    have hset : setAll (ps.drop i) o = setAll (ps.drop (i + 1)) (setP x o) := by rw [hdr]; rfl
    rw [hset]
    have step : ∀ v' G', Ow G' v' 2 ((setP x o).map prow) → (∀ b ∈ blkS v', ro ≤ b) → ro ≤ G'.length →
        runW pg ro fn25L0 [(6, v), (16, B), (17, .int .i64 ps.length), (18, .int .i64 i)] G = runW pg ro fn25L0 [(6, v'), (16, B), (17, .int .i64 ps.length), (18, .int .i64 (i + 1))] G' →
        ∃ e' G' v', runW pg ro fn25L0 [(6, v), (16, B), (17, .int .i64 ps.length), (18, .int .i64 i)] G = some (.exit 0, e', G') ∧ get e' 6 = v' ∧ Ow G' v' 2 ((setAll (ps.drop (i + 1)) (setP x o)).map prow) ∧ (∀ b ∈ blkS v', ro ≤ b) := by
      intro v' G' a1 a2 a3 a4
      obtain ⟨e', G2, v2, q1, q2⟩ := ih (i + 1) G' v' (setP x o) (by omega) (by omega) hst a1 a2 a3
      push_cast at q1
      exact ⟨e', G2, v2, by rw [a4, q1], q2⟩
    have hro1 : ro ≤ (G ++ [({ rows := [prow x] } : Bk)]).length := by simp; omega
    have bsnil : (IV.str ⟨#[]⟩) = .str (bs []) := rfl
    cases hh : hasP x o
    · rw [hh] at hf
      by_cases hx2 : x.2 = []
      · -- nothing
        refine step v _ (by unfold setP; rw [if_neg (by simp [hh]), if_pos hx2]; exact hG1) hro hro1 ?_
        have hxe : (x.2 == []) = true := by simp [hx2]
        rw [L]
        unfold prow at hf ⊢
        simp [-getElem?_pos, fn25B0, h1, hidx, hx, prow, hroG, hf, bsnil, hxe, w1]
      · -- put in
        have hc : (G ++ [({ rows := [prow x] } : Bk)]).length ∉ blkS v := fun hc => by
          have := hG1.sq.lt _ hc; omega
        obtain ⟨v', G', a1, a2, a3, a4, a5⟩ := Ow.ins (ro := ro) (hG1.app [{ rows := [prow x] }]) hro (c := (G ++ [({ rows := [prow x] } : Bk)]).length) (gc := 0) (voff := 0) (vcap := 1) (vex := true) (r := prow x) (by simp [rowsOf, blkAt_eq]) hc rfl (bytes := 32) (i := posP x o) (by simpa using hple) (by simp only [room, List.length_map]; omega)
        refine step v' G' (by
          unfold setP; rw [if_neg (by simp [hh]), if_neg hx2]
          rw [List.map_append, List.map_cons, List.map_take, List.map_drop]
          exact a2) (fun b hb => by
          rcases a3 b hb with h | h
          · exact hro b h
          · rw [h]; simp; omega) (Nat.le_trans (by simp; omega) a4) ?_
        have hxe : (x.2 == []) = false := by simpa using hx2
        have a1 := ins_c a1
        rw [L]
        unfold prow at hf a1
        simp at a1 hf
        simp [-getElem?_pos, fn25B0, h1, hidx, hx, prow, hroG, hf, bsnil, hxe, w1, a1]
    · rw [hh] at hf
      have hlt : posP x o < o.length := by
        unfold hasP at hh
        split at hh
        · rename_i y hy; exact (List.getElem?_eq_some_iff.1 hy).1
        · cases hh
      by_cases hx2 : x.2 = []
      · -- taken out
        obtain ⟨v', G', a1, a2, a3, a4, a5⟩ := del_c (ro := ro) hG1 hro hlt (by omega)
        refine step v' G' (by unfold setP; rw [if_pos hh, if_pos hx2]; exact a2) (fun b hb => hro b (by rw [← a3]; exact hb)) (by rw [a4]; exact hro1) ?_
        have hxe : (x.2 == []) = true := by simp [hx2]
        rw [L]
        unfold prow at hf a1
        simp [-getElem?_pos, fn25B0, h1, hidx, hx, prow, hroG, hf, bsnil, hxe, w1, wp, a1]
      · -- written over
        obtain ⟨y, hy⟩ : ∃ y, o[posP x o]? = some y := ⟨_, List.getElem?_eq_getElem hlt⟩
        obtain ⟨b, B2, j, c1, c2, c3, c4, c5, c6⟩ := Ow.put hG1 (i := posP x o) (row := prow y) (by rw [List.getElem?_map, hy]; rfl)
        have hrb := hro b c1
        refine step v _ (by
          have := c6 (prow x) rfl
          unfold setP; rw [if_pos hh, if_neg hx2, List.map_set]
          exact this) hro (by simp; omega) ?_
        have hxe : (x.2 == []) = false := by simpa using hx2
        have ho : over (prow y) 0 (prow x) = prow x := rfl
        rw [L]
        unfold prow at hf c2 c3 c5 ho ⊢
        simp [-getElem?_pos, fn25B0, h1, hidx, hx, prow, hroG, hf, bsnil, hxe, w1, c2, c3, c4, c5, hrb, ho]
end Go.Proofs.Ytinmpfflkcnkfaa
