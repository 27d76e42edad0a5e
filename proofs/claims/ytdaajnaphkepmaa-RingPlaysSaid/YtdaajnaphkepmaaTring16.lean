import Derived.Test.YtdaajnaphkepmaaTring15
namespace Go.Proofs.Ytdaajnaphkepmaa
open Go Go.Vs
variable {ro : Nat} {H : Hp}

/-! a ring tells what its samples tell -/
def HeldN (x : Num) : Prop := (x.1 = true ∧ x.2 = 0) ∨ (x.1 = false ∧ -9223372036854775808 < x.2 ∧ x.2 < 9223372036854775808)
def HeldL (l : List Smp) : Prop := ∀ s ∈ l, HeldN s.2

theorem held_norm {x : Num} (h : HeldN x) : normN x = x ∧ ovN x.1 x.2 = x.1 ∧ NumOk x.2 := by
  obtain ⟨o, n⟩ := x
  rcases h with ⟨h1, h2⟩ | ⟨h1, h2, h3⟩
  · simp only at h1 h2; subst h1; subst h2; simp [normN, okNum, ovN, NumOk]
  · simp only at h1 h2 h3; subst h1
    have : ¬ n = -9223372036854775808 := by omega
    simp [normN, okNum, ovN, NumOk, this]; omega
theorem heldS_held {s : Smp} (h : NumOk s.2.2) : HeldN (heldS s).2 := by
  obtain ⟨t, o, n⟩ := s
  unfold NumOk at h
  unfold heldS okNum HeldN
  dsimp only at *
  cases o
  · by_cases e : n = -9223372036854775808
    · simp [e]
    · simp [e]; omega
  · by_cases e : n = 0
    · simp [e]
    · simp [e]
theorem heldS_norm {s : Smp} : heldS s = (s.1, normN s.2) := by
  unfold heldS normN; split <;> rfl
theorem held_given {l : List Smp} (h : HeldL l) : Given l := fun s hs => (held_norm (h s hs)).2.2
theorem vals_held {l : List Smp} (h : HeldL l) : vals l = l.map (·.2) := by
  unfold vals; exact List.map_congr_left fun s hs => (held_norm (h s hs)).1

theorem sum_eq : ∀ {l : List Smp}, HeldL l → (anyOv (vals l) = decide (0 < cntO l)) ∧ (cntO l = 0 → totN (vals l) = sumS l)
  | [], _ => by simp [vals, anyOv, totN, cntO, sumS]
  | s :: l, h => by
    have ih := sum_eq (l := l) fun x hx => h x (List.mem_cons_of_mem _ hx)
    obtain ⟨h1, h2, h3⟩ := held_norm (h s (List.mem_cons_self ..))
    have hc := (cntO_le l).1
    have e : vals (s :: l) = s.2 :: vals l := by simp [vals, h1]
    rw [e]
    constructor
    · have e2 : anyOv (s.2 :: vals l) = (s.2.1 || anyOv (vals l)) := by
        show (ovN s.2.1 s.2.2 || anyOv (vals l)) = _
        rw [h2]
      rw [e2, ih.1]
      simp only [cntO, so]
      by_cases ho : s.2.1 = true
      · simp [ho]; omega
      · simp [ho]
    · intro h0
      simp only [cntO, so] at h0
      cases ho : s.2.1 with
      | true => rw [ho] at h0; simp at h0; omega
      | false =>
        rw [ho] at h0
        simp at h0
        simp only [totN, sumS, sv, ho]
        have := ih.2 h0
        simp; omega

theorem sumNN_held {l : List Smp} (h : HeldL l) : sumL (vals l) = sumNN (sumS l) (cntO l) := by
  obtain ⟨h1, h2⟩ := sum_eq h
  have hc := (cntO_le l).1
  unfold sumL sumNN
  rw [h1]
  by_cases h0 : 0 < cntO l
  · simp [h0]
  · have h0' : cntO l = 0 := by omega
    rw [h2 h0']
    simp only [h0, decide_false, Bool.false_eq_true, if_false, false_or]
    unfold fitN
    by_cases hf : -9223372036854775808 < sumS l ∧ sumS l < 9223372036854775808
    · rw [if_pos hf, if_neg (by omega)]
    · rw [if_neg hf, if_pos (by omega)]

theorem avg_held {l : List Smp} (h : HeldL l) : ovAvg l = avgR l := by
  unfold ovAvg avgR; rw [sumNN_held h]
theorem delta_held {l : List Smp} (h : HeldL l) : ovDelta l = deltaR l := by
  by_cases h2 : l.length < 2
  · unfold ovDelta; rw [if_pos h2]
    match l, h2 with
    | [], _ => rfl
    | [_], _ => rfl
    | _ :: _ :: _, h2 => simp at h2; omega
  · obtain ⟨s, hs⟩ : ∃ x, l[0]? = some x := ⟨_, List.getElem?_eq_getElem (by omega)⟩
    obtain ⟨z, hz⟩ : ∃ x, l[l.length - 1]? = some x := ⟨_, List.getElem?_eq_getElem (by omega)⟩
    rw [Mns.delta_of (by omega) hs hz]
    unfold ovDelta
    rw [if_neg h2, vals_held h, List.getD_eq_getElem?_getD, List.getD_eq_getElem?_getD, List.getElem?_map, List.getElem?_map, hs, hz]
    rfl

theorem none_fl {R : Nat} {v : IV} {r : Ring} (h : RingAt H R v r) (h0 : r.l = []) : doCall (callW pg) ro 2 (.fn 15 []) [.ptr R 0 0 0] H = some (.tup [.agg [.int .i64 0, .bool false, .int .i64 0], .bool false], H) ∧
    doCall (callW pg) ro 2 (.fn 24 []) [.ptr R 0 0 0] H = some (.tup [.agg [.int .i64 0, .bool false, .int .i64 0], .bool false], H) := by
  have hR := h.at_
  have hlt : R < H.length := (List.getElem?_eq_some_iff.1 hR).1
  have hlen := h.sl'.len
  rw [h0] at hlen
  simp at hlen
  have c1 : ∃ H2, callW pg H.length 15 [.ptr R 0 0 0] H = some (.tup [.agg [.int .i64 0, .bool false, .int .i64 0], .bool false], H2) := by
    rw [callW_eqO (fn := fn15) rfl rfl]
    simp [-getElem?_pos, fn15, hR, hlt, hlen, Ring.row, List.getElem?_append_left]
  have c2 : ∃ H2, callW pg H.length 24 [.ptr R 0 0 0] H = some (.tup [.agg [.int .i64 0, .bool false, .int .i64 0], .bool false], H2) := by
    rw [callW_eqO (fn := fn24) rfl rfl]
    simp [-getElem?_pos, fn24, hR, hlt, hlen, Ring.row, List.getElem?_append_left]
  obtain ⟨H2, c1⟩ := c1
  obtain ⟨H3, c2⟩ := c2
  exact ⟨call2 (args' := [.ptr R 0 0 0]) (by simp) c1 rfl (.inl rfl), call2 (args' := [.ptr R 0 0 0]) (by simp) c2 rfl (.inl rfl)⟩

theorem last_2 {R : Nat} {v : IV} {r : Ring} (h : RingAt H R v r) {p : Nat} {z : Smp} (hp : r.l.length = p + 1) (hz : r.l[p]? = some z) (hl : r.l.length ≤ 1000000) : doCall (callW pg) ro 2 (.fn 24 []) [.ptr R 0 0 0] H = some (.tup [.agg [.int .i64 z.1, .bool z.2.1, .int .i64 z.2.2], .bool true], H) := by
  have hR := h.at_
  have hlt : R < H.length := (List.getElem?_eq_some_iff.1 hR).1
  have hlen := h.sl'.len
  rw [List.length_map] at hlen
  obtain ⟨b1, B1, j1, _, i1, hB1, _, r1⟩ := (h.sl'.app [{ rows := [[.int .i64 0, .bool false, .int .i64 0]] }]).idx (i := p) (row := [.int .i64 z.1, .bool z.2.1, .int .i64 z.2.2]) (by rw [List.getElem?_map, hz]; rfl)
  have h0 : ¬ (r.l.length : Int) = 0 := by omega
  have h0' : ¬ r.l = [] := fun e => by rw [e] at hp; simp at hp
  have w1 : IntKind.i64.wrap ((r.l.length : Int) - 1) = p := by rw [IntKind.wrap_i64]; omega
  have c1 : ∃ H2, callW pg H.length 24 [.ptr R 0 0 0] H = some (.tup [.agg [.int .i64 z.1, .bool z.2.1, .int .i64 z.2.2], .bool true], H2) := by
    rw [callW_eqO (fn := fn24) rfl rfl]
    simp [-getElem?_pos, fn24, hR, hlt, hlen, h0, h0', w1, i1, hB1, r1, Ring.row, List.getElem?_append_left]
  obtain ⟨H2, c1⟩ := c1
  exact call2 (args' := [.ptr R 0 0 0]) (by simp) c1 rfl (.inl rfl)

theorem Stp.nil_ring {H H' : Hp} {F : List Nat} (h : Stp H H' [] F) {R : Nat} {v : IV} {r : Ring} (hr : RingAt H R v r) : RingAt H' R v r := by
  refine ⟨by rw [h.same R (List.getElem?_eq_some_iff.1 hr.at_).1 (by simp)]; exact hr.at_, ?_, hr.ne⟩
  rcases hr.sl with h1 | ⟨b', g, pre, rfl, hB, h1⟩
  · exact .inl h1
  · exact .inr ⟨b', g, pre, rfl, by rw [h.same b' (List.getElem?_eq_some_iff.1 hB).1 (by simp)]; exact hB, h1⟩

theorem alike_2 {R : Nat} {v A : IV} {r : Ring} (h : RingAt H R v r) (ho : RingOk r) (hl : r.l.length ≤ 1000) (hh : HeldL r.l) (hA : SlA (frzArg H A) 3 (r.l.map srow)) : doCall (callW pg) ro 2 (.fn 23 []) [.ptr R 0 0 0, A] H = some (.bool true, H) := by
  have hG := held_given hh
  obtain ⟨B, hB⟩ : ∃ B, frzArg H A = B := ⟨_, rfl⟩
  rw [hB] at hA
  have hc : ∃ H2, callW pg H.length 23 [.ptr R 0 0 0, B] H = some (.bool true, H2) := by
    obtain ⟨A1, al, sA1⟩ := all_2 h ho
    have hlenB := hA.len
    rw [List.length_map] at hlenB
    have sm := fun ro (H : Hp) => same_2 (ro := ro) (H := H) sA1 hA (by omega)
    have ln := fun ro => len_2 (ro := ro) h
    have su := fun ro => sum_2 (ro := ro) h ho
    obtain ⟨w, H1, v1, s1, t1⟩ := values_c (ro := H.length) (H := H) hA (by omega) (Nat.le_refl _)
    have hle := t1.len
    have h1 := Stp.nil_ring t1 h
    have s2 := fun ro => sum2_g (ro := ro) (H := H1) (A := w) (l := vals r.l) (s1.frzA plain_nrow) (by rw [vals_len]; omega) (vals_ok hG)
    rw [sumNN_eq] at su
    rw [sumNN_held hh] at s2
    have av := fun ro Y => avg_2 (ro := ro) (h1.app Y) ho
    have av1 := fun ro => avg_2 (ro := ro) h1 ho
    have oa := fun ro (H : Hp) => ovAvg_2 (ro := ro) (H := H) hA hG (by omega) (d := 1)
    rw [avg_held hh] at oa
    have de := fun ro Y => delta_2 (ro := ro) (h1.app Y) (by omega) hG
    have od := fun ro (H : Hp) => ovDelta_2 (ro := ro) (H := H) hA hG (by omega) (d := 1)
    rw [delta_held hh] at od
    obtain ⟨⟨so, sn⟩, hs⟩ : ∃ y, sumNN (sumS r.l) (cntO r.l) = y := ⟨_, rfl⟩
    rw [hs] at su s2
    obtain ⟨⟨⟨ao, an⟩, ab⟩, ha⟩ : ∃ y, avgR r.l = y := ⟨_, rfl⟩
    rw [ha] at av1 oa
    obtain ⟨⟨⟨do_, dn⟩, db⟩, hd⟩ : ∃ y, deltaR r.l = y := ⟨_, rfl⟩
    rw [hd] at de od
    simp only [nval] at su s2 av1 oa de od
    rw [callW_eqO (fn := fn23) rfl rfl]
    by_cases h0 : r.l = []
    · have fl := fun ro Y => none_fl (ro := ro) (h1.app Y) h0
      have f1 := fun ro Y => (fl ro Y).1
      have f2 := fun ro Y => (fl ro Y).2
      have l0 : r.l.length = 0 := by rw [h0]; rfl
      have l0' : (r.l.length : Int) = 0 := by omega
      have hz : ¬ (0 : Int) < r.l.length := by omega
      cases ab <;> cases db <;> simp [-getElem?_pos, fn23, hle, al, sm, ln, hlenB, su, v1, s2, av1, oa, de, od, f1, f2, l0, l0', hz]
    · obtain ⟨p, hp⟩ : ∃ p, r.l.length = p + 1 := ⟨r.l.length - 1, by have : r.l.length ≠ 0 := fun e => h0 (List.length_eq_zero_iff.1 e); omega⟩
      obtain ⟨s, q, hsq⟩ : ∃ s q, r.l = s :: q := by cases hr : r.l with | nil => exact absurd hr h0 | cons s q => exact ⟨s, q, rfl⟩
      obtain ⟨z, hz⟩ : ∃ x, r.l[p]? = some x := ⟨_, List.getElem?_eq_getElem (by omega)⟩
      have f1 := fun ro Y => first_2 (ro := ro) (h1.app Y) hsq
      have f2 := fun ro Y => last_2 (ro := ro) (h1.app Y) hp hz (by omega)
      have rs0 : (r.l.map srow)[0]? = some (srow s) := by rw [hsq]; rfl
      have rsz : (r.l.map srow)[p]? = some (srow z) := by rw [List.getElem?_map, hz]; rfl
      have i0 := fun H => hA.idx H 0 (by simp; omega)
      have iz := fun H => hA.idx H p (by simp; omega)
      simp only [Int.natCast_zero] at i0
      have w1 : IntKind.i64.wrap ((r.l.length : Int) - 1) = p := by rw [IntKind.wrap_i64]; omega
      have hpos : (0 : Int) < r.l.length := by omega
      have hpos' : 0 < r.l.length := by omega
      simp only [srow] at rs0 rsz
      have rs0' : Option.map srow r.l[0]? = some [.int .i64 s.1, .bool s.2.1, .int .i64 s.2.2] := by rw [hsq]; rfl
      cases ab <;> cases db <;> simp [-getElem?_pos, -List.getElem?_map, fn23, hle, al, sm, ln, hlenB, su, v1, s2, av1, oa, de, od, f1, f2, hpos, hpos', i0, rs0, w1, iz, rsz, h0]
  obtain ⟨H2, hc⟩ := hc
  exact call2 (args' := [.ptr R 0 0 0, B]) (by simp [hB]) hc rfl (.inl rfl)

end Go.Proofs.Ytdaajnaphkepmaa
