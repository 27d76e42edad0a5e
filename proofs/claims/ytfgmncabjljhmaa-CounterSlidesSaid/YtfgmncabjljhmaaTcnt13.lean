import Derived.Test.YtfgmncabjljhmaaTcnt12
namespace Go.Proofs.Ytfgmncabjljhmaa
open Go Go.Vs
variable {ro : Nat} {H : Hp}

abbrev Smp := Int × Bool × Int
def srow (s : Smp) : List IV := [.int .i64 s.1, .bool s.2.1, .int .i64 s.2.2]

/-- What a counter rose by between two samples. -/
def riseN (a b : Num) : Num := if cmpN b.1 b.2 a.1 a.2 < 0 then normN b else subN b a

theorem sumL_one {b : Num} (hb : NumOk b.2) : sumL [b] = normN b := by
  obtain ⟨o, n⟩ := b
  unfold NumOk at hb
  dsimp only at hb
  unfold sumL normN anyOv totN totN fitN
  have e := okov (o := o) (n := n)
  simp only [List.any_cons, List.any_nil, Bool.or_false]
  rw [← e]
  cases hk : okNum o n
  · cases o <;> simp
  · cases o
    · have : ¬ n = -9223372036854775808 := by intro h; subst h; simp [okNum] at hk
      simp; omega
    · have : n = 0 := by simpa [okNum] using hk
      simp [this]
theorem fitN_ok {S : Int} : NumOk (fitN S).2 := by unfold fitN NumOk; split <;> (dsimp only; omega)
theorem sumL_ok {l : List Num} : NumOk (sumL l).2 := by
  unfold sumL; split
  · simp [NumOk]
  · exact fitN_ok
theorem normN_ok {x : Num} (h : NumOk x.2) : NumOk (normN x).2 := by
  unfold normN; split
  · exact h
  · simp [NumOk]
theorem riseN_ok {a b : Num} (h : NumOk b.2) : NumOk (riseN a b).2 := by
  unfold riseN; split
  · exact normN_ok h
  · exact sumL_ok

theorem reset_2 {a b : Smp} : doCall (callW pg) ro 2 (.fn 37 []) [.agg (srow a), .agg (srow b)] H = some (.bool (decide (cmpN b.2.1 b.2.2 a.2.1 a.2.2 < 0)), H) := by
  obtain ⟨at_, ao, an⟩ := a
  obtain ⟨bt, bo, bn⟩ := b
  have h : ∃ H2, callW pg H.length 37 [.agg [.int .i64 at_, .bool ao, .int .i64 an], .agg [.int .i64 bt, .bool bo, .int .i64 bn]] H = some (.bool (decide (cmpN bo bn ao an < 0)), H2) := by
    rw [callW_eqO (fn := fn37) rfl rfl]
    simp [-getElem?_pos, fn37, cmp_2]
  obtain ⟨H2, h⟩ := h
  exact call2p h rfl rfl

theorem rise_2 {a b : Smp} (ha : NumOk a.2.2) (hb : NumOk b.2.2) : doCall (callW pg) ro 2 (.fn 23 []) [.agg (srow a), .agg (srow b)] H = some (nval (riseN a.2 b.2), H) := by
  obtain ⟨at_, ao, an⟩ := a
  obtain ⟨bt, bo, bn⟩ := b
  have h : ∃ H2, callW pg H.length 23 [.agg [.int .i64 at_, .bool ao, .int .i64 an], .agg [.int .i64 bt, .bool bo, .int .i64 bn]] H = some (nval (riseN (ao, an) (bo, bn)), H2) := by
    have hr := fun ro H => reset_2 (ro := ro) (H := H) (a := (at_, ao, an)) (b := (bt, bo, bn))
    simp only [srow] at hr
    rw [callW_eqO (fn := fn23) rfl rfl]
    unfold riseN
    dsimp only
    by_cases hc : cmpN bo bn ao an < 0
    · rw [if_pos hc]
      have hs := fun ro => sum_g (ro := ro) (H := H ++ [{ rows := [[.int .i64 at_, .bool ao, .int .i64 an]] }, { rows := [[.int .i64 bt, .bool bo, .int .i64 bn]] }, { rows := [[.bool false, .int .i64 0]] }, { rows := [[.bool bo, .int .i64 bn]] }]) (A := .arr (H.length + 3) 0 0 1 1 true) (l := [(bo, bn)]) (by
        have e : frzArg (H ++ [{ rows := [[.int .i64 at_, .bool ao, .int .i64 an]] }, { rows := [[.int .i64 bt, .bool bo, .int .i64 bn]] }, { rows := [[.bool false, .int .i64 0]] }, { rows := [[.bool bo, .int .i64 bn]] }]) (.arr (H.length + 3) 0 0 1 1 true) = .imm [[.bool bo, .int .i64 bn]] true := by
          unfold frzArg
          rw [show frzD = 12 from rfl, frz0_arr]
          simp [blkAt_eq]
          rfl
        rw [e]
        exact slA_imm (by simp [nrow])) (by simp) (by
        intro x hx; simp at hx; subst hx; exact hb)
      rw [sumL_one hb] at hs
      obtain ⟨⟨no, nn⟩, hn⟩ : ∃ y, normN (bo, bn) = y := ⟨_, rfl⟩
      rw [hn] at hs ⊢
      simp only [nval] at hs ⊢
      simp [-getElem?_pos, fn23, hr, hc, hs]
    · rw [if_neg hc]
      have hs := fun ro H => sub_2 (ro := ro) (H := H) (a := (bo, bn)) (b := (ao, an)) hb
      obtain ⟨⟨no, nn⟩, hn⟩ : ∃ y, subN (bo, bn) (ao, an) = y := ⟨_, rfl⟩
      rw [hn] at hs ⊢
      simp only [nval] at hs ⊢
      simp [-getElem?_pos, fn23, hr, hc, hs]
  obtain ⟨H2, h⟩ := h
  exact call2p h rfl rfl

/-- The first i of what it rose by. -/
def rs (l : List Smp) (i : Nat) : List Num := (List.range i).map fun (j : Nat) => riseN (l.getD j (0, false, 0)).2 (l.getD (j + 1) (0, false, 0)).2
theorem rs_succ (l : List Smp) (i : Nat) : rs l (i + 1) = rs l i ++ [riseN (l.getD i (0, false, 0)).2 (l.getD (i + 1) (0, false, 0)).2] := by simp [rs, List.range_succ]
theorem rs_len (l : List Smp) (i : Nat) : (rs l i).length = i := by simp [rs]
def Given (l : List Smp) : Prop := ∀ s ∈ l, NumOk s.2.2
theorem given {l : List Smp} (h : Given l) (j : Nat) : NumOk (l.getD j (0, false, 0)).2.2 := by
  rw [List.getD_eq_getElem?_getD]
  cases hx : l[j]? with
  | none => simp [NumOk]
  | some x => exact h x (List.mem_of_getElem? hx)
theorem rs_ok {l : List Smp} (h : Given l) (i : Nat) : ∀ x ∈ rs l i, NumOk x.2 := by
  intro x hx
  obtain ⟨j, _, rfl⟩ := List.mem_map.1 hx
  exact riseN_ok (given h (j + 1))

/-- What samples rose by. -/
def incL (l : List Smp) : Num × Bool := if l.length < 2 then ((false, 0), false) else (sumL (rs l (l.length - 1)), true)

theorem O0_eq {e : Env} : runW pg ro fn9L0 e H = seqO pg ro fn9L0 (runW pg ro fn9B0 (keepE [0, 2, 4, 5] e) H) := runW_loopO
theorem I0_eq {e : Env} : runW pg ro fn10L0 e H = seqO pg ro fn10L0 (runW pg ro fn10B0 (keepE [0, 2, 4, 5] e) H) := runW_loopO

theorem oloop {A q : IV} {l : List Smp} (hA : SlA A 3 (l.map srow)) (hG : Given l) (hl : l.length ≤ 100000) : ∀ (n i : Nat) (H : Hp) (w : IV), i + 1 + n = l.length → ro ≤ H.length → Sl H w 2 ((rs l i).map nrow) → (∀ b ∈ blkS w, ro ≤ b) →
    ∃ e' w' H', get e' 2 = q ∧ get e' 4 = w' ∧ runW pg ro fn9L0 [(0, A), (2, q), (4, w), (5, .int .i64 ((i : Int) + 1))] H = some (.exit 0, e', H') ∧ Sl H' w' 2 ((rs l (l.length - 1)).map nrow) ∧ Stp H H' (blkS w) (blkS w')
  | 0, i, H, w, hi, hro, hw, hd => by
    have hlen := hA.len
    rw [List.length_map] at hlen
    have hf : ¬ ((i : Int) + 1 < l.length) := by omega
    refine ⟨[(0, A), (2, q), (4, w), (5, .int .i64 ((i : Int) + 1)), (13, .bool false)], w, H, rfl, rfl, ?_, by rw [show l.length - 1 = i by omega]; exact hw, Stp.refl⟩
    rw [O0_eq]; simp [fn9B0, hlen, hf]
  | n + 1, i, H, w, hi, hro, hw, hd => by
    have hlen := hA.len
    rw [List.length_map] at hlen
    obtain ⟨a, ha⟩ : ∃ x, l[i]? = some x := ⟨_, List.getElem?_eq_getElem (by omega)⟩
    obtain ⟨b, hb⟩ : ∃ x, l[i + 1]? = some x := ⟨_, List.getElem?_eq_getElem (by omega)⟩
    have na := hG a (List.mem_of_getElem? ha)
    have nb := hG b (List.mem_of_getElem? hb)
    have ea : l.getD i (0, false, 0) = a := by rw [List.getD_eq_getElem?_getD, ha]; rfl
    have eb : l.getD (i + 1) (0, false, 0) = b := by rw [List.getD_eq_getElem?_getD, hb]; rfl
    have hrow : (l.map srow)[i]? = some (srow a) := by rw [List.getElem?_map, ha]; rfl
    have hrow2 : (l.map srow)[i + 1]? = some (srow b) := by rw [List.getElem?_map, hb]; rfl
    have hidx := fun H => hA.idx H i (by simp; omega)
    have hidx2 := fun H => hA.idx H (i + 1) (by simp; omega)
    have hlt : (i : Int) + 1 < l.length := by omega
    have w0 : IntKind.i64.wrap (i : Int) = i := by rw [IntKind.wrap_i64]; omega
    have w1 : IntKind.i64.wrap ((i : Int) + 1 + 1) = i + 1 + 1 := by rw [IntKind.wrap_i64]; omega
    have w2 : IntKind.i64.wrap ((i : Int) + 1 - 1) = i := by rw [IntKind.wrap_i64]; omega
    have hri := fun ro H => rise_2 (ro := ro) (H := H) na nb
    obtain ⟨y, hy⟩ : ∃ y, riseN a.2 b.2 = y := ⟨_, rfl⟩
    rw [hy] at hri
    obtain ⟨b2, g2, o2, n2, c2, H2, happ, hsl2, hst2⟩ := (hw.app [{ rows := [nrow y] }]).push (r := nrow y) (y := .arr H.length 0 0 1 1 true) (bytes := 16) (ro := ro) (by simp) rfl
      (by rw [List.length_map, rs_len]; unfold room; omega) hd
    have hw2 : Sl H2 (.arr b2 g2 o2 n2 c2 false) 2 ((rs l (i + 1)).map nrow) := by rw [rs_succ, ea, eb, hy, List.map_append]; exact hsl2
    have hst1 : Stp H H2 (blkS w) (blkS (.arr b2 g2 o2 n2 c2 false)) := (Stp.app (Y := [{ rows := [nrow y] }])).trans hst2
    obtain ⟨e', w', H', g2', g4, hrun, h1, h2⟩ := oloop (q := q) hA hG hl n (i + 1) H2 _ (by omega) (by have := hst1.len; omega) hw2 (fun b hb => by
      rcases hst1.new b hb with h | h
      · exact hd b h
      · omega)
    push_cast at hrun hidx2
    refine ⟨e', w', H', g2', g4, ?_, h1, hst1.trans h2⟩
    rw [O0_eq]
    simp only [nrow, nval, srow] at happ hri hrow hrow2
    simp [-getElem?_pos, fn9B0, hlen, hlt, w0, w1, w2, hidx, hidx2, hrow, hrow2, hri, happ, hrun]

theorem of_g {A : IV} {l : List Smp} (hA : SlA (frzArg H A) 3 (l.map srow)) (hG : Given l) (hl : l.length ≤ 100000) : doCall (callW pg) ro 2 (.fn 9 []) [A] H = some (.tup [nval (incL l).1, .bool (incL l).2], H) := by
  have h : ∃ H2, callW pg H.length 9 [frzArg H A] H = some (.tup [nval (incL l).1, .bool (incL l).2], H2) := by
    have hlen := hA.len
    rw [List.length_map] at hlen
    rw [callW_eqO (fn := fn9) rfl rfl]
    unfold incL
    by_cases h2 : l.length < 2
    · have h2' : (l.length : Int) < 2 := by omega
      rw [if_pos h2]
      simp [-getElem?_pos, fn9, hlen, h2', nval]
    · have h2' : ¬ (l.length : Int) < 2 := by omega
      rw [if_neg h2]
      obtain ⟨e', w', H', g2, g4, hrun, h1, hst⟩ := oloop (ro := H.length) (q := .ptr H.length 0 0 0) hA hG hl (l.length - 1) 0 (H ++ [{ rows := [[.bool false, .int .i64 0]] }]) .nsl (by omega) (by simp) (by simp [rs]; exact Sl.nil) (by simp [blkS])
      have hs := fun ro => sum_g (ro := ro) (H := H') (A := w') (l := rs l (l.length - 1)) (h1.frzA (by
        intro r hr x hx
        obtain ⟨s, _, rfl⟩ := List.mem_map.1 hr
        simp [nrow] at hx
        rcases hx with rfl | rfl <;> rfl)) (by rw [rs_len]; omega) (rs_ok hG _)
      have hc : H'[H.length]? = some { rows := [[.bool false, .int .i64 0]] } := by rw [hst.same _ (by simp) (by simp [blkS])]; simp
      have hlt := (List.getElem?_eq_some_iff.1 hc).1
      obtain ⟨⟨so, sn⟩, hsm⟩ : ∃ y, sumL (rs l (l.length - 1)) = y := ⟨_, rfl⟩
      rw [hsm] at hs ⊢
      simp only [nval] at hs ⊢
      simp at hrun
      simp [-getElem?_pos, fn9, hlen, h2', hrun, g2, g4, hs, hc, hlt]
  obtain ⟨H2, h⟩ := h
  exact call2 (args' := [frzArg H A]) (by simp) h (by rfl) (.inl (by rfl))

theorem iloop {A q : IV} {l : List Smp} (hA : SlA A 3 (l.map srow)) (hG : Given l) (hl : l.length ≤ 100000) : ∀ (n i : Nat) (H : Hp) (w : IV), i + 1 + n = l.length → ro ≤ H.length → Sl H w 2 ((rs l i).map nrow) → (∀ b ∈ blkS w, ro ≤ b) →
    ∃ e' w' H', get e' 2 = q ∧ get e' 4 = w' ∧ runW pg ro fn10L0 [(0, A), (2, q), (4, w), (5, .int .i64 ((i : Int) + 1))] H = some (.exit 0, e', H') ∧ Sl H' w' 2 ((rs l (l.length - 1)).map nrow) ∧ Stp H H' (blkS w) (blkS w')
  | 0, i, H, w, hi, hro, hw, hd => by
    have hlen := hA.len
    rw [List.length_map] at hlen
    have hf : ¬ ((i : Int) + 1 < l.length) := by omega
    refine ⟨[(0, A), (2, q), (4, w), (5, .int .i64 ((i : Int) + 1)), (13, .bool false)], w, H, rfl, rfl, ?_, by rw [show l.length - 1 = i by omega]; exact hw, Stp.refl⟩
    rw [I0_eq]; simp [fn10B0, hlen, hf]
  | n + 1, i, H, w, hi, hro, hw, hd => by
    have hlen := hA.len
    rw [List.length_map] at hlen
    obtain ⟨a, ha⟩ : ∃ x, l[i]? = some x := ⟨_, List.getElem?_eq_getElem (by omega)⟩
    obtain ⟨b, hb⟩ : ∃ x, l[i + 1]? = some x := ⟨_, List.getElem?_eq_getElem (by omega)⟩
    have na := hG a (List.mem_of_getElem? ha)
    have nb := hG b (List.mem_of_getElem? hb)
    have ea : l.getD i (0, false, 0) = a := by rw [List.getD_eq_getElem?_getD, ha]; rfl
    have eb : l.getD (i + 1) (0, false, 0) = b := by rw [List.getD_eq_getElem?_getD, hb]; rfl
    have hrow : (l.map srow)[i]? = some (srow a) := by rw [List.getElem?_map, ha]; rfl
    have hrow2 : (l.map srow)[i + 1]? = some (srow b) := by rw [List.getElem?_map, hb]; rfl
    have hidx := fun H => hA.idx H i (by simp; omega)
    have hidx2 := fun H => hA.idx H (i + 1) (by simp; omega)
    have hlt : (i : Int) + 1 < l.length := by omega
    have w0 : IntKind.i64.wrap (i : Int) = i := by rw [IntKind.wrap_i64]; omega
    have w1 : IntKind.i64.wrap ((i : Int) + 1 + 1) = i + 1 + 1 := by rw [IntKind.wrap_i64]; omega
    have w2 : IntKind.i64.wrap ((i : Int) + 1 - 1) = i := by rw [IntKind.wrap_i64]; omega
    obtain ⟨y, hy⟩ : ∃ y, riseN a.2 b.2 = y := ⟨_, rfl⟩
    obtain ⟨b2, g2, o2, n2, c2, H2, happ, hsl2, hst2⟩ := (hw.app [{ rows := [nrow y] }]).push (r := nrow y) (y := .arr H.length 0 0 1 1 true) (bytes := 16) (ro := ro) (by simp) rfl
      (by rw [List.length_map, rs_len]; unfold room; omega) hd
    have hw2 : Sl H2 (.arr b2 g2 o2 n2 c2 false) 2 ((rs l (i + 1)).map nrow) := by rw [rs_succ, ea, eb, hy, List.map_append]; exact hsl2
    have hst1 : Stp H H2 (blkS w) (blkS (.arr b2 g2 o2 n2 c2 false)) := (Stp.app (Y := [{ rows := [nrow y] }])).trans hst2
    obtain ⟨e', w', H', g2', g4, hrun, h1, h2⟩ := iloop (q := q) hA hG hl n (i + 1) H2 _ (by omega) (by have := hst1.len; omega) hw2 (fun b hb => by
      rcases hst1.new b hb with h | h
      · exact hd b h
      · omega)
    push_cast at hrun hidx2
    refine ⟨e', w', H', g2', g4, ?_, h1, hst1.trans h2⟩
    rw [I0_eq]
    obtain ⟨at_, ao, an⟩ := a
    obtain ⟨bt, bo, bn⟩ := b
    obtain ⟨yo, yn⟩ := y
    simp only [nrow, nval, srow] at happ hrow hrow2
    unfold riseN at hy
    dsimp only at hy
    by_cases hc : cmpN bo bn ao an < 0
    · rw [if_pos hc] at hy
      have hno := fun ro H => norm_2 (ro := ro) (H := H) (o := bo) (n := bn)
      rw [hy] at hno
      simp [-getElem?_pos, fn10B0, hlen, hlt, w0, w1, w2, hidx, hidx2, hrow, hrow2, cmp2_2, hc, hno, happ, hrun]
    · rw [if_neg hc] at hy
      have hsu := fun ro H => sub2_2 (ro := ro) (H := H) (a := (bo, bn)) (b := (ao, an)) nb
      rw [hy] at hsu
      simp only [nval] at hsu
      simp [-getElem?_pos, fn10B0, hlen, hlt, w0, w1, w2, hidx, hidx2, hrow, hrow2, cmp2_2, hc, hsu, happ, hrun]

theorem inc_g {A : IV} {l : List Smp} (hA : SlA (frzArg H A) 3 (l.map srow)) (hG : Given l) (hl : l.length ≤ 100000) : doCall (callW pg) ro 2 (.fn 10 []) [A] H = some (.tup [nval (incL l).1, .bool (incL l).2], H) := by
  have h : ∃ H2, callW pg H.length 10 [frzArg H A] H = some (.tup [nval (incL l).1, .bool (incL l).2], H2) := by
    have hlen := hA.len
    rw [List.length_map] at hlen
    rw [callW_eqO (fn := fn10) rfl rfl]
    unfold incL
    by_cases h2 : l.length < 2
    · have h2' : (l.length : Int) < 2 := by omega
      rw [if_pos h2]
      simp [-getElem?_pos, fn10, hlen, h2', nval]
    · have h2' : ¬ (l.length : Int) < 2 := by omega
      rw [if_neg h2]
      obtain ⟨e', w', H', g2, g4, hrun, h1, hst⟩ := iloop (ro := H.length) (q := .ptr H.length 0 0 0) hA hG hl (l.length - 1) 0 (H ++ [{ rows := [[.bool false, .int .i64 0]] }]) .nsl (by omega) (by simp) (by simp [rs]; exact Sl.nil) (by simp [blkS])
      have hs := fun ro => sum2_g (ro := ro) (H := H') (A := w') (l := rs l (l.length - 1)) (h1.frzA (by
        intro r hr x hx
        obtain ⟨s, _, rfl⟩ := List.mem_map.1 hr
        simp [nrow] at hx
        rcases hx with rfl | rfl <;> rfl)) (by rw [rs_len]; omega) (rs_ok hG _)
      have hc : H'[H.length]? = some { rows := [[.bool false, .int .i64 0]] } := by rw [hst.same _ (by simp) (by simp [blkS])]; simp
      have hlt := (List.getElem?_eq_some_iff.1 hc).1
      obtain ⟨⟨so, sn⟩, hsm⟩ : ∃ y, sumL (rs l (l.length - 1)) = y := ⟨_, rfl⟩
      rw [hsm] at hs ⊢
      simp only [nval] at hs ⊢
      simp at hrun
      simp [-getElem?_pos, fn10, hlen, h2', hrun, g2, g4, hs, hc, hlt]
  obtain ⟨H2, h⟩ := h
  exact call2 (args' := [frzArg H A]) (by simp) h (by rfl) (.inl (by rfl))

theorem known_c : ∃ H', callW pg 0 8 [] [] = some (.bool true, H') := callW_of (n := 40) (by kernel_rfl)

/-! the law 'CounterOf' -/
namespace Cof

theorem law {A : IV} {l : List Smp} (hA : SlA A 3 (l.map srow)) (hG : Given l) : ∃ H', callW pg 0 3 [A] [] = some (.bool true, H') := by
  obtain ⟨Hk, hkn⟩ := known_c
  have hk2 : doCall (callW pg) 0 2 (.fn 8 []) [] [] = some (.bool true, []) := call2p hkn rfl rfl
  have hlen := hA.len
  rw [List.length_map] at hlen
  rw [callW_eqO (fn := fn3) rfl rfl]
  have fz : ∀ H, frzArg H A = A := fun H => by rcases hA.imm with ⟨rfl, _⟩ | ⟨f, rfl⟩ <;> rfl
  by_cases hl : (100 : Int) < l.length
  · refine ⟨[], ?_⟩
    simp [-getElem?_pos, fn3, hk2, hlen, hl]
  have ho := fun ro (H : Hp) => of_g (ro := ro) (H := H) (A := A) (l := l) (by rw [fz]; exact hA) hG (by omega)
  have hi := fun ro (H : Hp) => inc_g (ro := ro) (H := H) (A := A) (l := l) (by rw [fz]; exact hA) hG (by omega)
  obtain ⟨⟨⟨so, sn⟩, sb⟩, hs⟩ : ∃ y, incL l = y := ⟨_, rfl⟩
  rw [hs] at ho hi
  simp only [nval] at ho hi
  refine ⟨[{ rows := [[.bool so, .int .i64 sn]] }, { rows := [[.bool so, .int .i64 sn]] }], ?_⟩
  cases sb <;> simp [-getElem?_pos, fn3, hk2, hlen, hl, ho, hi]

abbrev TL : Ty := .sl (.pair (.int .i64) (.pair .bool (.int .i64)))
theorem wf (x0 : TL.den) (ok0 : TL.ok x0) : ∃ H', callW pg 0 3 [TL.arg x0] [] = some (.bool true, H') := by
  obtain ⟨l, hA, hl⟩ := sl_arg (e := .pair (.int .i64) (.pair .bool (.int .i64))) x0
  refine law (l := l) hA ?_
  rcases hl with ⟨_, rfl⟩ | h
  · intro y hy; cases hy
  · intro y hy
    exact wf_i64 _ ((ok0 l h).2 y hy).2.2

end Cof
end Go.Proofs.Ytfgmncabjljhmaa
