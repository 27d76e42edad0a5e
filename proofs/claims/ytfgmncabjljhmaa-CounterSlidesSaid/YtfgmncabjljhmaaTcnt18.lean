import Derived.Test.YtfgmncabjljhmaaTcnt17
namespace Go.Proofs.Ytfgmncabjljhmaa
open Go Go.Vs
variable {ro : Nat} {H : Hp}

/-! what a counter tells -/
theorem inc_2 {R : Nat} {v : IV} {r : Cnt} (h : CntAt H R v r) (ho : CntOk r) : doCall (callW pg) ro 2 (.fn 16 []) [.ptr R 0 0 0] H = some (.tup [nval (incL r.l).1, .bool (incL r.l).2], H) := by
  have hc : ∃ H2, callW pg H.length 16 [.ptr R 0 0 0] H = some (.tup [nval (incL r.l).1, .bool (incL r.l).2], H2) := by
    have hR := h.at_
    have hlt : R < H.length := (List.getElem?_eq_some_iff.1 hR).1
    have f1 := fun ro Y => of_g (ro := ro) (H := H ++ Y) (A := v) (l := r.l) ((h.sl.app Y).frzA plain_srow) ho.num ho.len
    obtain ⟨⟨⟨so, sn⟩, sb⟩, hs⟩ : ∃ y, incL r.l = y := ⟨_, rfl⟩
    rw [hs] at f1 ⊢
    simp only [nval] at f1 ⊢
    rw [callW_eqO (fn := fn16) rfl rfl]
    simp [-getElem?_pos, fn16, hR, hlt, Cnt.row, f1, List.getElem?_append_left]
  obtain ⟨H2, hc⟩ := hc
  exact call2 (args' := [.ptr R 0 0 0]) (by simp) hc (by rfl) (.inl (by rfl))

def rateL (w : Int) (l : List Smp) : Num × Bool := if (incL l).2 = true then (divN (incL l).1 (false, w * 1000000), true) else ((incL l).1, false)

theorem incL_ok {l : List Smp} : NumOk (incL l).1.2 := by
  unfold incL; split
  · simp [NumOk]
  · exact sumL_ok

theorem rate_2 {R : Nat} {v : IV} {r : Cnt} (h : CntAt H R v r) (ho : CntOk r) : doCall (callW pg) ro 2 (.fn 17 []) [.ptr R 0 0 0] H = some (.tup [nval (rateL r.w r.l).1, .bool (rateL r.w r.l).2], H) := by
  have hc : ∃ H2, callW pg H.length 17 [.ptr R 0 0 0] H = some (.tup [nval (rateL r.w r.l).1, .bool (rateL r.w r.l).2], H2) := by
    have hR := h.at_
    have hlt : R < H.length := (List.getElem?_eq_some_iff.1 hR).1
    have app : ∀ Y, CntAt (H ++ Y) R v r := fun Y => ⟨by rw [List.getElem?_append_left hlt]; exact hR, h.sl.app Y, h.ne⟩
    have f1 := fun ro Y => inc_2 (ro := ro) (app Y) ho
    have hw1 := ho.w1
    have hw2 := ho.w2
    have hok := incL_ok (l := r.l)
    have f2 := fun ro H => of_2 (ro := ro) (H := H) (n := r.w) (by omega) (by omega)
    unfold rateL
    obtain ⟨⟨⟨so, sn⟩, sb⟩, hs⟩ : ∃ y, incL r.l = y := ⟨_, rfl⟩
    rw [hs] at f1 hok ⊢
    have f3 := fun ro H => div_2 (ro := ro) (H := H) (a := (so, sn)) (b := (false, r.w * 1000000)) hok (by unfold NumOk; dsimp only; omega)
    obtain ⟨⟨do_, dn⟩, hd⟩ : ∃ y, divN (so, sn) (false, r.w * 1000000) = y := ⟨_, rfl⟩
    rw [hd] at f3
    simp only [nval] at f1 f3 ⊢
    rw [callW_eqO (fn := fn17) rfl rfl]
    cases sb
    · simp [-getElem?_pos, fn17, f1]
    · simp [-getElem?_pos, fn17, hR, hlt, Cnt.row, f1, f2, f3, hd, List.getElem?_append_left]
  obtain ⟨H2, hc⟩ := hc
  exact call2 (args' := [.ptr R 0 0 0]) (by simp) hc (by rfl) (.inl (by rfl))

/-- How often it began anew. -/
def resN (l : List Smp) : Nat → Int
  | 0 => 0
  | i + 1 => resN l i + if cmpN (l.getD (i + 1) (0, false, 0)).2.1 (l.getD (i + 1) (0, false, 0)).2.2 (l.getD i (0, false, 0)).2.1 (l.getD i (0, false, 0)).2.2 < 0 then 1 else 0
theorem resN_le (l : List Smp) : ∀ i, 0 ≤ resN l i ∧ resN l i ≤ i
  | 0 => by simp [resN]
  | i + 1 => by have := resN_le l i; simp only [resN]; push_cast; split <;> omega

theorem R0_eq {e : Env} : runW pg ro fn20L0 e H = seqO pg ro fn20L0 (runW pg ro fn20B0 (keepE [0, 3, 4] e) H) := runW_loopO
theorem R1_eq {e : Env} : runW pg ro fn21L0 e H = seqO pg ro fn21L0 (runW pg ro fn21B0 (keepE [0, 3, 4] e) H) := runW_loopO

theorem rloop {R : Nat} {v : IV} {r : Cnt} (h : CntAt H R v r) (hl : r.l.length ≤ 100000) : ∀ (n i : Nat), i + 1 + n = r.l.length → 
    ∃ e', get e' 3 = .int .i64 (resN r.l (r.l.length - 1)) ∧ runW pg ro fn20L0 [(0, .ptr R 0 0 0), (3, .int .i64 (resN r.l i)), (4, .int .i64 ((i : Int) + 1))] H = some (.exit 0, e', H)
  | 0, i, hi => by
    have hR := h.at_
    have hlen := h.sl.len
    rw [List.length_map] at hlen
    have hf : ¬ ((i : Int) + 1 < r.l.length) := by omega
    refine ⟨[(0, .ptr R 0 0 0), (3, .int .i64 (resN r.l i)), (4, .int .i64 ((i : Int) + 1)), (11, .bool false)], by rw [show r.l.length - 1 = i by omega]; rfl, ?_⟩
    rw [R0_eq]; simp [-getElem?_pos, fn20B0, hR, Cnt.row, hlen, hf]
  | n + 1, i, hi => by
    have hR := h.at_
    have hlen := h.sl.len
    rw [List.length_map] at hlen
    obtain ⟨a, ha⟩ : ∃ x, r.l[i]? = some x := ⟨_, List.getElem?_eq_getElem (by omega)⟩
    obtain ⟨b, hb⟩ : ∃ x, r.l[i + 1]? = some x := ⟨_, List.getElem?_eq_getElem (by omega)⟩
    have ea : r.l.getD i (0, false, 0) = a := by rw [List.getD_eq_getElem?_getD, ha]; rfl
    have eb : r.l.getD (i + 1) (0, false, 0) = b := by rw [List.getD_eq_getElem?_getD, hb]; rfl
    obtain ⟨b1, B1, j1, _, i1, hB1, _, r1⟩ := h.sl.idx (i := i) (row := srow a) (by rw [List.getElem?_map, ha]; rfl)
    obtain ⟨b2, B2, j2, _, i2, hB2, _, r2⟩ := h.sl.idx (i := i + 1) (row := srow b) (by rw [List.getElem?_map, hb]; rfl)
    push_cast at i2
    have hlt : (i : Int) + 1 < r.l.length := by omega
    have w0 : IntKind.i64.wrap (i : Int) = i := by rw [IntKind.wrap_i64]; omega
    have w1 : IntKind.i64.wrap ((i : Int) + 1 + 1) = i + 1 + 1 := by rw [IntKind.wrap_i64]; omega
    have w2 : IntKind.i64.wrap ((i : Int) + 1 - 1) = i := by rw [IntKind.wrap_i64]; omega
    have hrn := resN_le r.l i
    have w3 : IntKind.i64.wrap (resN r.l i + 1) = resN r.l i + 1 := by rw [IntKind.wrap_i64]; omega
    have hre := fun ro H => reset_2 (ro := ro) (H := H) (a := a) (b := b)
    obtain ⟨e', g3, hrun⟩ := rloop h hl n (i + 1) (by omega)
    push_cast at hrun
    refine ⟨e', g3, ?_⟩
    rw [R0_eq]
    simp only [resN, ea, eb] at hrun
    simp only [srow] at r1 r2 hre
    by_cases hc : cmpN b.2.1 b.2.2 a.2.1 a.2.2 < 0
    · simp only [hc, if_true] at hrun
      simp [-getElem?_pos, fn20B0, hR, Cnt.row, hlen, hlt, w0, w1, w2, i1, hB1, r1, i2, hB2, r2, hre, hc, w3, hrun]
    · simp only [hc, if_false, Int.add_zero] at hrun
      simp [-getElem?_pos, fn20B0, hR, Cnt.row, hlen, hlt, w0, w1, w2, i1, hB1, r1, i2, hB2, r2, hre, hc, hrun]

theorem resets_2 {R : Nat} {v : IV} {r : Cnt} (h : CntAt H R v r) (hl : r.l.length ≤ 100000) : doCall (callW pg) ro 2 (.fn 20 []) [.ptr R 0 0 0] H = some (.int .i64 (resN r.l (r.l.length - 1)), H) := by
  have hc : callW pg H.length 20 [.ptr R 0 0 0] H = some (.int .i64 (resN r.l (r.l.length - 1)), H) := by
    have hR := h.at_
    have hlen := h.sl.len
    rw [List.length_map] at hlen
    rw [callW_eqO (fn := fn20) rfl rfl]
    by_cases h0 : r.l.length = 0
    · have hf : ¬ ((1 : Int) < r.l.length) := by omega
      have hb : runW pg H.length fn20L0 [(0, .ptr R 0 0 0), (3, .int .i64 0), (4, .int .i64 1)] H = some (.exit 0, [(0, .ptr R 0 0 0), (3, .int .i64 0), (4, .int .i64 1), (11, .bool false)], H) := by
        rw [R0_eq]; simp [-getElem?_pos, fn20B0, hR, Cnt.row, hlen, hf]
      have e : resN r.l (r.l.length - 1) = 0 := by rw [h0]; rfl
      rw [e]
      simp [-getElem?_pos, fn20, hb]
    · obtain ⟨e', g3, hrun⟩ := rloop (ro := H.length) h hl (r.l.length - 1) 0 (by omega)
      simp [resN] at hrun
      simp [-getElem?_pos, fn20, hrun, g3]
  exact call2 (args' := [.ptr R 0 0 0]) (by simp) hc rfl (.inl rfl)

theorem rloop2 {A : IV} {l : List Smp} (hA : SlA A 3 (l.map srow)) (hl : l.length ≤ 100000) : ∀ (n i : Nat), i + 1 + n = l.length →
    ∃ e', get e' 3 = .int .i64 (resN l (l.length - 1)) ∧ runW pg ro fn21L0 [(0, A), (3, .int .i64 (resN l i)), (4, .int .i64 ((i : Int) + 1))] H = some (.exit 0, e', H)
  | 0, i, hi => by
    have hlen := hA.len
    rw [List.length_map] at hlen
    have hf : ¬ ((i : Int) + 1 < l.length) := by omega
    refine ⟨[(0, A), (3, .int .i64 (resN l i)), (4, .int .i64 ((i : Int) + 1)), (8, .bool false)], by rw [show l.length - 1 = i by omega]; rfl, ?_⟩
    rw [R1_eq]; simp [-getElem?_pos, fn21B0, hlen, hf]
  | n + 1, i, hi => by
    have hlen := hA.len
    rw [List.length_map] at hlen
    obtain ⟨a, ha⟩ : ∃ x, l[i]? = some x := ⟨_, List.getElem?_eq_getElem (by omega)⟩
    obtain ⟨b, hb⟩ : ∃ x, l[i + 1]? = some x := ⟨_, List.getElem?_eq_getElem (by omega)⟩
    have ea : l.getD i (0, false, 0) = a := by rw [List.getD_eq_getElem?_getD, ha]; rfl
    have eb : l.getD (i + 1) (0, false, 0) = b := by rw [List.getD_eq_getElem?_getD, hb]; rfl
    have r1 : (l.map srow)[i]? = some (srow a) := by rw [List.getElem?_map, ha]; rfl
    have r2 : (l.map srow)[i + 1]? = some (srow b) := by rw [List.getElem?_map, hb]; rfl
    have i1 := fun H => hA.idx H i (by simp; omega)
    have i2 := fun H => hA.idx H (i + 1) (by simp; omega)
    push_cast at i2
    have hlt : (i : Int) + 1 < l.length := by omega
    have w0 : IntKind.i64.wrap (i : Int) = i := by rw [IntKind.wrap_i64]; omega
    have w1 : IntKind.i64.wrap ((i : Int) + 1 + 1) = i + 1 + 1 := by rw [IntKind.wrap_i64]; omega
    have w2 : IntKind.i64.wrap ((i : Int) + 1 - 1) = i := by rw [IntKind.wrap_i64]; omega
    have hrn := resN_le l i
    have w3 : IntKind.i64.wrap (resN l i + 1) = resN l i + 1 := by rw [IntKind.wrap_i64]; omega
    obtain ⟨e', g3, hrun⟩ := rloop2 hA hl n (i + 1) (by omega)
    push_cast at hrun
    refine ⟨e', g3, ?_⟩
    rw [R1_eq]
    simp only [resN, ea, eb] at hrun
    simp only [srow] at r1 r2
    by_cases hc : cmpN b.2.1 b.2.2 a.2.1 a.2.2 < 0
    · simp only [hc, if_true] at hrun
      simp [-getElem?_pos, fn21B0, hlen, hlt, w0, w1, w2, i1, r1, i2, r2, cmp2_2, hc, w3, hrun]
    · simp only [hc, if_false, Int.add_zero] at hrun
      simp [-getElem?_pos, fn21B0, hlen, hlt, w0, w1, w2, i1, r1, i2, r2, cmp2_2, hc, hrun]

theorem resetsm_2 {A : IV} {l : List Smp} (hA : SlA (frzArg H A) 3 (l.map srow)) (hl : l.length ≤ 100000) : doCall (callW pg) ro 2 (.fn 21 []) [A] H = some (.int .i64 (resN l (l.length - 1)), H) := by
  have hc : callW pg H.length 21 [frzArg H A] H = some (.int .i64 (resN l (l.length - 1)), H) := by
    have hlen := hA.len
    rw [List.length_map] at hlen
    rw [callW_eqO (fn := fn21) rfl rfl]
    by_cases h0 : l.length = 0
    · have hf : ¬ ((1 : Int) < l.length) := by omega
      have hb : runW pg H.length fn21L0 [(0, frzArg H A), (3, .int .i64 0), (4, .int .i64 1)] H = some (.exit 0, [(0, frzArg H A), (3, .int .i64 0), (4, .int .i64 1), (8, .bool false)], H) := by
        rw [R1_eq]; simp [-getElem?_pos, fn21B0, hlen, hf]
      have e : resN l (l.length - 1) = 0 := by rw [h0]; rfl
      rw [e]
      simp [-getElem?_pos, fn21, hb]
    · obtain ⟨e', g3, hrun⟩ := rloop2 (ro := H.length) (H := H) hA hl (l.length - 1) 0 (by omega)
      simp [resN] at hrun
      simp [-getElem?_pos, fn21, hrun, g3]
  exact call2 (args' := [frzArg H A]) (by simp) hc rfl (.inl rfl)

theorem inc_h {R : Nat} {r : Cnt} (h : Hold H (CO R r)) (ho : CntOk r) : doCall (callW pg) ro 2 (.fn 16 []) [.ptr R 0 0 0] H = some (.tup [nval (incL r.l).1, .bool (incL r.l).2], H) := let ⟨_, _, h, _⟩ := h; inc_2 h ho
theorem rate_h {R : Nat} {r : Cnt} (h : Hold H (CO R r)) (ho : CntOk r) : doCall (callW pg) ro 2 (.fn 17 []) [.ptr R 0 0 0] H = some (.tup [nval (rateL r.w r.l).1, .bool (rateL r.w r.l).2], H) := let ⟨_, _, h, _⟩ := h; rate_2 h ho
theorem resets_h {R : Nat} {r : Cnt} (h : Hold H (CO R r)) (hl : r.l.length ≤ 100000) : doCall (callW pg) ro 2 (.fn 20 []) [.ptr R 0 0 0] H = some (.int .i64 (resN r.l (r.l.length - 1)), H) := let ⟨_, _, h, _⟩ := h; resets_2 h hl

/-- A counter that came to be by its own calls. -/
structure Good (r : Cnt) : Prop where
  w1 : 1 ≤ r.w
  w2 : r.w ≤ 100
  n1 : 0 ≤ r.now
  n2 : r.now ≤ 1000000
  asc : Asc r.l
  le : ∀ s ∈ r.l, s.1 ≤ r.last
  num : Given r.l
theorem Good.ok {r : Cnt} (h : Good r) (hl : r.l.length ≤ 100000) : CntOk r := ⟨h.w1, h.w2, h.n1, h.n2, hl, h.num⟩
theorem Good.adv {r : Cnt} {n : Int} (h : Good r) : Good (r.adv n) := by
  refine ⟨h.w1, h.w2, ?_, ?_, strip_asc h.asc, fun s hs => h.le s (strip_sub hs), fun s hs => h.num s (strip_sub hs)⟩
  · have := h.n1; simp only [Cnt.adv]; omega
  · have := h.n2; simp only [Cnt.adv]; omega
theorem Good.add {r : Cnt} {s : Smp} (h : Good r) (hs : NumOk s.2.2) : Good (r.add s) := by
  unfold Cnt.add
  split
  · rename_i ht
    obtain ⟨t1, t2, t3⟩ := takes_0 ht
    refine ⟨h.w1, h.w2, h.n1, h.n2, asc_snoc h.asc fun x hx => ?_, fun x hx => ?_, fun x hx => ?_⟩
    · have := h.le x hx; simp only [heldS]; omega
    · rcases List.mem_append.1 hx with hx | hx
      · have := h.le x hx; simp only; omega
      · simp at hx; subst hx; simp only [heldS]; omega
    · rcases List.mem_append.1 hx with hx | hx
      · exact h.num x hx
      · simp at hx; subst hx; exact normN_ok hs
  · exact h

end Go.Proofs.Ytfgmncabjljhmaa
