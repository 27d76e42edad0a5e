import Derived.Test.YtinmpfflkcnkfaaTw1
/- A label set with other values: the walk. -/
namespace Go.Proofs.Ytinmpfflkcnkfaa
open Go Go.Vs
variable {ro : Nat} {H : Hp}

theorem bs_loop {A : IV} {l : List Pr} {x : Pr} (hA : SlA A 2 (l.map prow)) (hl : l.length ≤ 1000) (hs : Strict l) {d : Nat} (hd : H[d]? = some { rows := [prow x] }) : ∀ (k i j : Nat), j - i ≤ k → i ≤ posP x l → posP x l ≤ j → j ≤ l.length →
    ∃ e', runW pg ro fn57L0 [(0, A), (2, .fn 50 []), (4, .ptr d 0 0 0), (8, .int .i64 l.length), (9, .int .i64 i), (10, .int .i64 j)] H = some (.exit 0, e', H) ∧ get e' 0 = A ∧ get e' 2 = .fn 50 [] ∧ get e' 4 = .ptr d 0 0 0 ∧ get e' 8 = .int .i64 l.length ∧ get e' 9 = .int .i64 (posP x l) := by
  have L : ∀ e, runW pg ro fn57L0 e H = seqO pg ro fn57L0 (runW pg ro fn57B0 (keepE [0, 2, 4, 8, 9, 10] e) H) := fun e => runW_loopO
  intro k
  induction k with
  | zero =>
    intro i j h1 h2 h3 h4
    have : i = posP x l := by omega
    subst this
    have : j = posP x l := by omega
    subst this
    refine ⟨[(0, A), (2, .fn 50 []), (4, .ptr d 0 0 0), (8, .int .i64 l.length), (9, .int .i64 (posP x l)), (10, .int .i64 (posP x l)), (17, .bool false)], ?_, rfl, rfl, rfl, rfl, rfl⟩
    rw [L]; simp [fn57B0]
  | succ k ih =>
    intro i j h1 h2 h3 h4
    by_cases hij : i < j
    · have hij' : (i : Int) < j := by omega
      obtain ⟨m, hm⟩ : ∃ m, m = (i + j) / 2 := ⟨_, rfl⟩
      have hml : m < l.length := by omega
      have w1 : IntKind.i64.wrap ((i : Int) + j) = ((i + j : Nat) : Int) := by rw [IntKind.wrap_i64]; omega
      have w2 : IntKind.u64.wrap ((i + j : Nat) : Int) = ((i + j : Nat) : Int) := by rw [IntKind.wrap_u64]; omega
      have w3 : binV .shr (.int .u64 ((i + j : Nat) : Int)) (.int .u64 1) = some (.int .u64 (m : Int)) := by
        have h2 : (2 : Int) ^ (min (1 : Int).toNat IntKind.u64.bits) = 2 := by decide
        rw [bin_shr, if_neg (by decide), h2]
        congr 2; omega
      have w4 : IntKind.i64.wrap (m : Int) = m := by rw [IntKind.wrap_i64]; omega
      have w5 : IntKind.i64.wrap ((m : Int) + 1) = m + 1 := by rw [IntKind.wrap_i64]; omega
      obtain ⟨y, hy⟩ : ∃ y, l[m]? = some y := ⟨_, List.getElem?_eq_getElem hml⟩
      have hidx := hA.idx H m (by simp; omega)
      have hb := bcmp_2 (ro := ro) (H := H) (p := y) (q := x)
      unfold prow at hb hd
      push_cast at w1 w2 w3
      by_cases hc : cN y x < 0
      · have hp : m + 1 ≤ posP x l := by
          rcases Nat.lt_or_ge m (posP x l) with h | h
          · exact h
          · have := pos_ge hs h hy; omega
        obtain ⟨e', hr, h5⟩ := ih (m + 1) j (by omega) hp h3 h4
        push_cast at hr
        refine ⟨e', ?_, h5⟩
        rw [L]
        simp [-getElem?_pos, fn57B0, hij', hij, w1, w2, w3, w4, hidx, hy, prow, blkAt_eq, hd, hb, hc, w5, hr]
      · have hp : posP x l ≤ m := by
          rcases Nat.lt_or_ge m (posP x l) with h | h
          · have := pos_lt h hy; omega
          · exact h
        obtain ⟨e', hr, h5⟩ := ih i m (by omega) h2 hp (by omega)
        refine ⟨e', ?_, h5⟩
        rw [L]
        simp [-getElem?_pos, fn57B0, hij', hij, w1, w2, w3, w4, hidx, hy, prow, blkAt_eq, hd, hb, hc, hr]
    · exact ih i j (by omega) h2 h3 h4

theorem find_2 {v : IV} {l : List Pr} {x : Pr} (h : Sq H v 2 (l.map prow)) (hl : l.length ≤ 1000) (hs : Strict l) :
    doCall (callW pg) ro 2 (.fn 57 []) [v, .agg (prow x), .fn 50 []] H = some (.tup [.int .i64 (posP x l), .bool (hasP x l)], H) := by
  have hA := h.frzA prow_plain
  have hlen := hA.len
  rw [List.length_map] at hlen
  obtain ⟨A, hAe⟩ : ∃ A, A = frzArg H v := ⟨_, rfl⟩
  rw [← hAe] at hA hlen
  have hb : ∃ H', callW pg H.length 57 [A, .agg (prow x), .fn 50 []] H = some (.tup [.int .i64 (posP x l), .bool (hasP x l)], H') := by
    refine ⟨H ++ [{ rows := [prow x] }], ?_⟩
    obtain ⟨e', hr, g0, g2, g4, g8, g9⟩ := bs_loop (ro := H.length) (H := H ++ [{ rows := [prow x] }]) (x := x) hA hl hs (d := H.length) (by simp) l.length 0 l.length (by omega) (Nat.zero_le _) (posP_le x l) (Nat.le_refl _)
    have hple := posP_le x l
    rw [callW_eqO (fn := fn57) rfl rfl]
    by_cases hp : posP x l < l.length
    · obtain ⟨y, hy⟩ : ∃ y, l[posP x l]? = some y := ⟨_, List.getElem?_eq_getElem hp⟩
      have hp' : (posP x l : Int) < l.length := by omega
      have hidx := hA.idx (H ++ [{ rows := [prow x] }]) (posP x l) (by simp; omega)
      have hb := bcmp_2 (ro := H.length) (H := H ++ [{ rows := [prow x] }]) (p := y) (q := x)
      have hh : hasP x l = decide (cN y x = 0) := by unfold hasP; rw [hy]
      rw [hh]
      unfold prow at hb hr hidx ⊢
      simp at hr
      simp [-getElem?_pos, fn57, hlen, hr, g0, g2, g4, g8, g9, hp, hp', hidx, hy, hb]
    · have hp' : ¬ (posP x l : Int) < l.length := by omega
      have hh : hasP x l = false := by unfold hasP; rw [List.getElem?_eq_none (by omega)]
      rw [hh]
      unfold prow at hr ⊢
      simp at hr
      simp [-getElem?_pos, fn57, hlen, hr, g0, g2, g4, g8, g9, hp, hp']
  obtain ⟨H', hb⟩ := hb
  exact call2 (args' := [A, .agg (prow x), .fn 50 []]) (by
    simp only [List.append_nil, List.map_cons, List.map_nil, ← hAe]
    rfl) hb rfl (.inl rfl)

/-- A row taken out (slices.Delete of one). -/
theorem Ow.del1 {v : IV} {sz : Nat} {rows : List (List IV)} (h : Ow H v sz rows) (hro : ∀ b ∈ blkS v, ro ≤ b) {i bytes : Nat} {z : List IV} (hz : z.length = sz) (hi : i < rows.length) :
    ∃ v0 v1 v2 v3 v4 H1 H2, slSl H sz v i (some (i + 1)) (some rows.length) = some v0 ∧ slSl H sz v 0 (some i) none = some v1 ∧ slSl H sz v (i + 1) none none = some v2 ∧ appV ro H sz bytes v1 v2 = some (v3, H1) ∧ lenV false v3 = some (rows.length - 1) ∧ slSl H1 sz v3 (rows.length - 1) (some rows.length) none = some v4 ∧ clearV ro H1 sz z v4 = some (.tup [], H2) ∧
      Ow H2 v3 sz (rows.eraseIdx i) ∧ blkS v3 = blkS v ∧ H2.length = H.length ∧ ∀ b, b ∉ blkS v → H2[b]? = H[b]? := by
  rcases h with ⟨rfl, rfl⟩ | ⟨b, g, pre, post, cap, ex, rfl, h1, h2, h3, hB, hw⟩
  · simp at hi
  have hblt : b < H.length := (List.getElem?_eq_some_iff.1 hB).1
  have hrb : ro ≤ b := hro b (by simp [blkS])
  have hs : szOk sz (pre ++ (rows ++ post)) = true := szOk_all hw
  have f1 : slSl H sz (.arr b g pre.length rows.length cap ex) i (some (i + 1)) (some rows.length) = some (.arr b g (pre.length + i) 1 (rows.length - i) true) := by
    have c1 : i + 1 ≤ rows.length := hi
    have c2 : pre.length + (i + 1) ≤ pre.length + (rows.length + post.length) := by omega
    simp [-getElem?_pos, hB, hs, c1, c2, h1]
  have f2 : slSl H sz (.arr b g pre.length rows.length cap ex) 0 (some i) none = some (.arr b g pre.length i cap ex) := by
    have c1 : i ≤ cap := by omega
    have c2 : pre.length + i ≤ pre.length + (rows.length + post.length) := by omega
    simp [-getElem?_pos, hB, hs, c1, c2]
  have f3 : slSl H sz (.arr b g pre.length rows.length cap ex) (i + 1) none none = some (.arr b g (pre.length + (i + 1)) (rows.length - (i + 1)) (cap - (i + 1)) ex) := by
    have c1 : i + 1 ≤ rows.length := hi
    simp [-getElem?_pos, hB, hs, c1, h1]
  have hdr : (List.drop (pre.length + (i + 1)) (pre ++ (rows ++ post))).take (rows.length - (i + 1)) = rows.drop (i + 1) := by
    rw [List.drop_length_add_append, List.drop_append_of_le_length (by omega), List.take_append_of_le_length (by simp), List.take_of_length_le (by simp)]
  have hrw : rowsOf H (.arr b g (pre.length + (i + 1)) (rows.length - (i + 1)) (cap - (i + 1)) ex) = some (rows.drop (i + 1)) := by
    have c1 : pre.length + (i + 1) + (rows.length - (i + 1)) ≤ (pre ++ (rows ++ post)).length := by simp; omega
    simp only [rowsOf, blkAt_eq, hB, Option.bind_some, if_true, c1, hdr]
  -- moved up
  obtain ⟨W, H1, f4, hH1, hWl, hWw, hHo, hHl⟩ : ∃ (W : List (List IV)) (H1 : Hp), appV ro H sz bytes (.arr b g pre.length i cap ex) (.arr b g (pre.length + (i + 1)) (rows.length - (i + 1)) (cap - (i + 1)) ex) = some (.arr b g pre.length (rows.length - 1) cap ex, H1) ∧
      H1[b]? = some { rows := pre ++ (rows.eraseIdx i ++ W), gen := g } ∧ W.length = post.length + 1 ∧ (∀ r ∈ W, r.length = sz) ∧ (∀ c, c ≠ b → H1[c]? = H[c]?) ∧ H1.length = H.length := by
    have hsY : szOk sz (rows.drop (i + 1)) = true := szOk_all fun r hr => hw r (by simp [List.mem_of_mem_drop hr])
    have hle : ¬ (pre.length + (rows.length + post.length) < pre.length + i) := by omega
    by_cases hl : rows.length - (i + 1) = 0
    · have hie : i = rows.length - 1 := by omega
      obtain ⟨x, hx⟩ : ∃ x, rows[i]? = some x := ⟨_, List.getElem?_eq_getElem hi⟩
      have e1 : rows = rows.eraseIdx i ++ [x] := by
        rw [List.eraseIdx_eq_take_drop_succ, List.drop_eq_nil_of_le (by omega), List.append_nil]
        conv => lhs; rw [← List.take_append_drop i rows]
        congr 1
        obtain ⟨h, rfl⟩ := List.getElem?_eq_some_iff.1 hx
        rw [List.drop_eq_getElem_cons h, List.drop_eq_nil_of_le (by omega)]
      refine ⟨x :: post, H, ?_, ?_, by simp, fun r hr => ?_, fun _ _ => rfl, rfl⟩
      · have e0 : rows.drop (i + 1) = [] := List.drop_eq_nil_of_le (by omega)
        simp only [appV, hrw, Option.bind_some, hsY, Bool.true_eq_false, if_false, blkAt_eq, hB, if_true, hs, List.length_append, hle, or_self, e0, List.length_nil, szOk_nil]
        rw [hie]
      · rw [hB]; congr 2
        conv => lhs; rw [e1]
        simp
      · rcases List.mem_cons.1 hr with rfl | hr
        · exact hw _ (by simp [List.mem_of_getElem? hx])
        · exact hw r (by simp [hr])
    · have hn0 : ¬ (rows.drop (i + 1)).length = 0 := by simpa using hl
      have hfit : i + (rows.drop (i + 1)).length ≤ cap := by simp; omega
      have hle2 : pre.length + i + (rows.drop (i + 1)).length ≤ pre.length + (rows.length + post.length) := by simp; omega
      have elen : i + (rows.drop (i + 1)).length = rows.length - 1 := by simp; omega
      have t1 : List.take (pre.length + i) (pre ++ (rows ++ post)) = pre ++ rows.take i := by rw [List.take_length_add_append, List.take_append_of_le_length (by omega)]
      have t2 : List.drop (pre.length + i + (rows.drop (i + 1)).length) (pre ++ (rows ++ post)) = rows.drop (rows.length - 1) ++ post := by
        rw [Nat.add_assoc, elen, List.drop_length_add_append, List.drop_append_of_le_length (by omega)]
      refine ⟨rows.drop (rows.length - 1) ++ post, H.set b { rows := pre ++ (rows.eraseIdx i ++ (rows.drop (rows.length - 1) ++ post)), gen := g }, ?_, by rw [List.getElem?_set_self hblt], by simp; omega, fun r hr => ?_, fun c hc => List.getElem?_set_ne (Ne.symm hc), by simp⟩
      · simp only [appV, hrw, Option.bind_some, hsY, Bool.true_eq_false, if_false, blkAt_eq, hB, if_true, hs, List.length_append, hle, or_self, hn0, hfit, hrb, hle2, and_self, t1, t2]
        rw [elen, List.eraseIdx_eq_take_drop_succ]
        simp only [List.append_assoc]
      · rcases List.mem_append.1 hr with hr | hr
        · exact hw r (by simp [List.mem_of_mem_drop hr])
        · exact hw r (by simp [hr])
  have hel : (rows.eraseIdx i).length = rows.length - 1 := by rw [List.length_eraseIdx, if_pos hi]
  have hwE : ∀ r ∈ rows.eraseIdx i, r.length = sz := fun r hr => hw r (by simp [List.mem_of_mem_eraseIdx hr])
  have hs1 : szOk sz (pre ++ (rows.eraseIdx i ++ W)) = true := szOk_all fun r hr => by
    rcases List.mem_append.1 hr with hr | hr
    · exact hw r (by simp [hr])
    · rcases List.mem_append.1 hr with hr | hr
      · exact hwE r hr
      · exact hWw r hr
  have f6 : slSl H1 sz (.arr b g pre.length (rows.length - 1) cap ex) (rows.length - 1) (some rows.length) none = some (.arr b g (pre.length + (rows.length - 1)) 1 (cap - (rows.length - 1)) ex) := by
    have c1 : rows.length - 1 ≤ rows.length := Nat.sub_le _ _
    have c2 : pre.length + rows.length ≤ pre.length + (rows.length - 1 + (post.length + 1)) := by omega
    have c3 : rows.length - (rows.length - 1) = 1 := by omega
    simp [-getElem?_pos, hH1, hs1, h1, hel, hWl, c2, c3]
  have hblt1 : b < H1.length := by rw [hHl]; exact hblt
  refine ⟨_, _, _, _, _, H1, H1.set b { rows := pre ++ (rows.eraseIdx i ++ z :: W.drop 1), gen := g }, f1, f2, f3, f4, rfl, f6, ?_, .inr ⟨b, g, pre, z :: W.drop 1, cap, ex, by rw [hel], by omega, ?_, fun he => ?_, by rw [List.getElem?_set_self hblt1], fun r hr => ?_⟩, rfl, by simp [hHl], fun c hc => ?_⟩
  · have t1 : List.take (pre.length + (rows.length - 1)) (pre ++ (rows.eraseIdx i ++ W)) = pre ++ rows.eraseIdx i := by rw [List.take_length_add_append, ← hel, List.take_left]
    have t2 : List.drop (pre.length + (rows.length - 1) + 1) (pre ++ (rows.eraseIdx i ++ W)) = W.drop 1 := by
      rw [Nat.add_assoc, List.drop_length_add_append, ← hel, List.drop_length_add_append]
    have n1 : ¬ (pre.length + (rows.length - 1 + (post.length + 1)) < pre.length + (rows.length - 1) + 1) := by omega
    simp [-getElem?_pos, clearV, wbl, blkAt_eq, hH1, hs1, hrb, hz, hel, hWl, n1, t1, t2]
  · simp [hel, hWl]; omega
  · have := h3 he; simp; omega
  · rcases List.mem_append.1 hr with hr | hr
    · exact hw r (by simp [hr])
    · rcases List.mem_append.1 hr with hr | hr
      · exact hwE r hr
      · rcases List.mem_cons.1 hr with rfl | hr
        · exact hz
        · exact hWw r (List.mem_of_mem_drop hr)
  · have : c ≠ b := fun e => hc (by simp [blkS, e])
    rw [List.getElem?_set_ne (Ne.symm this), hHo c this]

theorem del_c {v : IV} {l : List Pr} (h : Ow H v 2 (l.map prow)) (hro : ∀ b ∈ blkS v, ro ≤ b) {i : Nat} (hi : i < l.length) (hl : l.length ≤ 1000) :
    ∃ v' H', callW pg ro 58 [v, .int .i64 i, .int .i64 (i + 1)] H = some (v', H') ∧ Ow H' v' 2 ((l.eraseIdx i).map prow) ∧ blkS v' = blkS v ∧ H'.length = H.length ∧ ∀ b, b ∉ blkS v → H'[b]? = H[b]? := by
  obtain ⟨v0, v1, v2, v3, v4, H1, H2, f1, f2, f3, f4, f5, f6, f7, g1, g2, g3, g4⟩ := Ow.del1 (ro := ro) h hro (bytes := 32) (z := [.str ⟨#[]⟩, .str ⟨#[]⟩]) rfl (i := i) (by simpa using hi)
  have hlen := h.sq.len
  rw [List.length_map] at f1 f5 f6 hlen
  have e0 : (l.map prow).eraseIdx i = (l.eraseIdx i).map prow := by rw [List.eraseIdx_eq_take_drop_succ, List.eraseIdx_eq_take_drop_succ, List.map_append, List.map_take, List.map_drop]
  refine ⟨v3, H2, ?_, by rw [← e0]; exact g1, g2, g3, g4⟩
  have e1 : ((i : Int) + 1).toNat = i + 1 := by omega
  have e2 : (0 : Int) ≤ (i : Int) + 1 := by omega
  have e3 : ¬ ((i : Int) = i + 1) := by omega
  rw [callW_eqO (fn := fn58) rfl rfl]
  simp [-getElem?_pos, -slSl_arr, fn58, hlen, e1, e2, e3, f1, f2, f3, f4, f5, f6, f7]
end Go.Proofs.Ytinmpfflkcnkfaa
