import Derived.Test.YtdaajnaphkepmaaTring3
namespace Go.Proofs.Ytdaajnaphkepmaa
open Go Go.Vs
variable {ro : Nat} {H : Hp}

theorem SlOk.set {v : IV} {l : List (Int × Bool × Int)} {R : Nat} {B : Bk} (h : SlOk H v l) (hne : blkV v ≠ some R) : SlOk (H.set R B) v l := by
  rcases h with h | ⟨b, g, pre, rfl, h1, h2, h3⟩
  · exact .inl h
  · exact .inr ⟨b, g, pre, rfl, by rw [List.getElem?_set_ne (fun e => hne (by rw [e]; rfl))]; exact h1, h2, h3⟩

def Ring.adv (r : Ring) (n : Int) : Ring := ⟨r.w, max r.now (min n 1000000), r.last, strip (max r.now (min n 1000000) - r.w) r.l⟩

theorem adv_c {R : Nat} {v : IV} {r : Ring} {n : Int} (h : RingAt H R v r) (ho : RingOk r) :
    ∃ H' v', callW pg 0 11 [.ptr R 0 0 0, .int .i64 n] H = some (.tup [], H') ∧ RingAt H' R v' (r.adv n) ∧ Keeps H H' R .nsl ∧ blkV v' = blkV v := by
  have hR := h.at_
  have hlt : R < H.length := (List.getElem?_eq_some_iff.1 hR).1
  have hm := moves_c (ro := 0) (n := n) (rest := [.int .u64 (hi (sumS r.l)), .int .u64 (lo (sumS r.l)), .int .i64 (cntO r.l), v]) hR (Nat.zero_le _)
  have hat : RingAt (H.set R { rows := [Ring.row ⟨r.w, max r.now (min n 1000000), r.last, r.l⟩ v] }) R v ⟨r.w, max r.now (min n 1000000), r.last, r.l⟩ := ⟨by rw [List.getElem?_set_self hlt], h.sl.set h.ne, h.ne⟩
  have hw : IntKind.i64.wrap (max r.now (min n 1000000) - r.w) = max r.now (min n 1000000) - r.w := by
    have := ho.w1; have := ho.w2; have := ho.n1; have := ho.n2
    rw [IntKind.wrap_i64]; omega
  obtain ⟨H', v', ⟨e', hrun⟩, h1, h2, h3⟩ := loop_c hw r.l _ v hat ho.nums ho.len
  refine ⟨H', v', ?_, h1, ⟨?_, fun b hb hne _ => ?_⟩, h3⟩
  · rw [callW_eqO (fn := fn11) rfl rfl]
    simp only [Ring.row] at hrun
    simp [-getElem?_pos, fn11, hm, hrun]
  · have := h2.len; simpa using this
  · rw [h2.same b (by simpa using hb) hne (by simp [blkV]), List.getElem?_set_ne (Ne.symm hne)]

/-- A sample's value as it is held. -/
def heldS (s : Int × Bool × Int) : Int × Bool × Int := if okNum s.2.1 s.2.2 then s else (s.1, true, 0)

def Ring.add (r : Ring) (s : Int × Bool × Int) : Ring := if takes r.w r.now r.last s.1 = 0 then ⟨r.w, r.now, s.1, r.l ++ [heldS s]⟩ else r

theorem held_2 {s : Int × Bool × Int} : doCall (callW pg) ro 2 (.fn 32 []) [.agg [.bool s.2.1, .int .i64 s.2.2]] H = some (.agg [.bool (heldS s).2.1, .int .i64 (heldS s).2.2], H) := by
  obtain ⟨H2, h⟩ := held_c (ro := H.length) (H := H) (o := s.2.1) (n := s.2.2) (Nat.le_refl _)
  have e : held s.2.1 s.2.2 = .agg [.bool (heldS s).2.1, .int .i64 (heldS s).2.2] := by
    unfold held heldS; split <;> rfl
  rw [e] at h
  exact call2p h rfl rfl

theorem heldS_ok {s : Int × Bool × Int} (h1 : -9223372036854775808 ≤ s.2.2) (h2 : s.2.2 < 9223372036854775808) : SmpOk (heldS s) := by
  unfold heldS
  split
  · rename_i h
    intro ho
    simp [okNum, ho] at h
    omega
  · intro h; cases h

theorem add_no {R : Nat} {v : IV} {r : Ring} {s : Int × Bool × Int} (h : RingAt H R v r) (ht : takes r.w r.now r.last s.1 ≠ 0) :
    callW pg 0 12 [.ptr R 0 0 0, .agg (srow s |>.take 1 |>.append [.bool s.2.1, .int .i64 s.2.2])] H = some (.int .i64 (takes r.w r.now r.last s.1), H ++ [{ rows := [srow s] }]) := by
  have hR := h.at_
  have hlt : R < H.length := (List.getElem?_eq_some_iff.1 hR).1
  have hR' : (H ++ [{ rows := [srow s] }])[R]? = some { rows := [r.row v] } := by rw [List.getElem?_append_left hlt]; exact hR
  have htk := takes_c (ro := 0) (t := s.1) (rest := [.int .u64 (hi (sumS r.l)), .int .u64 (lo (sumS r.l)), .int .i64 (cntO r.l), v]) hR' (Nat.zero_le _)
  simp only [ht, if_false, srow] at htk
  rw [callW_eqO (fn := fn12) rfl rfl]
  simp [-getElem?_pos, fn12, srow, htk, ht]

theorem add_row {r : Ring} {s : Int × Bool × Int} {v' : IV} (ht : takes r.w r.now r.last s.1 = 0) : (r.add s).row v' = [.int .i64 r.w, .int .i64 r.now, .int .i64 s.1, .int .u64 (hi (sumS r.l + sv (heldS s))), .int .u64 (lo (sumS r.l + sv (heldS s))), .int .i64 (cntO r.l + so (heldS s)), v'] := by
  simp [Ring.add, ht, Ring.row, sumS_app, cntO_app, sumS, cntO]

theorem heldS_t {s : Int × Bool × Int} : (heldS s).1 = s.1 := by unfold heldS; split <;> rfl

theorem add_yes {R : Nat} {v : IV} {r : Ring} {s : Int × Bool × Int} (h : RingAt H R v r) (ho : RingOk r) (ht : takes r.w r.now r.last s.1 = 0) (h1 : -9223372036854775808 ≤ s.2.2) (h2 : s.2.2 < 9223372036854775808) :
    ∃ H' v', callW pg 0 12 [.ptr R 0 0 0, .agg [.int .i64 s.1, .bool s.2.1, .int .i64 s.2.2]] H = some (.int .i64 0, H') ∧ RingAt H' R v' (r.add s) ∧ Keeps H H' R v ∧ (blkV v' = blkV v ∨ blkV v = none ∧ ∃ b, blkV v' = some b ∧ H.length ≤ b) := by
  have hR := h.at_
  have hlt : R < H.length := (List.getElem?_eq_some_iff.1 hR).1
  have hR' : (H ++ [{ rows := [[.int .i64 s.1, .bool s.2.1, .int .i64 s.2.2]] }])[R]? = some { rows := [r.row v] } := by rw [List.getElem?_append_left hlt]; exact hR
  have htk := takes_c (ro := 0) (t := s.1) (rest := [.int .u64 (hi (sumS r.l)), .int .u64 (lo (sumS r.l)), .int .i64 (cntO r.l), v]) hR' (Nat.zero_le _)
  simp only [ht, if_true, List.set_append_left _ _ hlt] at htk
  have hco := cntO_le r.l
  have hlen := ho.len
  have hsm := heldS_ok h1 h2
  have hadds : ∀ (X : Hp) (v' : IV), X[R]? = some { rows := [[.int .i64 r.w, .int .i64 r.now, .int .i64 s.1, .int .u64 (hi (sumS r.l)), .int .u64 (lo (sumS r.l)), .int .i64 (cntO r.l), v']] } →
      callW pg 0 30 [.ptr R 0 0 3, .agg [.bool (heldS s).2.1, .int .i64 (heldS s).2.2], .bool false] X = some (.tup [], X.set R { rows := [(r.add s).row v'] } ++ [{ rows := [[.bool (heldS s).2.1, .int .i64 (heldS s).2.2]] }]) := by
    intro X v' hX
    have := adds_c (ro := 0) (away := false) (t := s.1) hX (Nat.zero_le _) (o := (heldS s).2.1) (n := (heldS s).2.2) (by rw [← heldS_t (s := s)]; exact hsm) (by omega) (by omega)
    rw [this, add_row ht]
    have e : ((s.1, (heldS s).2.1, (heldS s).2.2) : Int × Bool × Int) = heldS s := by rw [← heldS_t (s := s)]
    simp only [e]
    simp
  have h24 : 24 ≤ room := by unfold room; omega
  have htake : List.take r.l.length (List.map srow r.l) = List.map srow r.l := List.take_of_length_le (by simp)
  have hnot : ¬ r.l.length + 1 ≤ r.l.length := by omega
  have hroom : (r.l.length + 1) * 24 ≤ room := by unfold room; omega
  have hadd : r.add s = ⟨r.w, r.now, s.1, r.l ++ [heldS s]⟩ := by simp [Ring.add, ht]
  rcases h.sl with ⟨rfl, hl⟩ | ⟨b, g, pre, rfl, hB, hpos, hpre⟩
  · -- the first one
    have hcall : callW pg 0 12 [.ptr R 0 0 0, .agg [.int .i64 s.1, .bool s.2.1, .int .i64 s.2.2]] H = some (.int .i64 0, H.set R { rows := [(r.add s).row (.arr (H.length + 2) 0 0 1 1 false)] } ++
        [{ rows := [[.int .i64 s.1, .bool (heldS s).2.1, .int .i64 (heldS s).2.2]] }, { rows := [[.int .i64 s.1, .bool (heldS s).2.1, .int .i64 (heldS s).2.2]] }, { rows := [[.int .i64 s.1, .bool (heldS s).2.1, .int .i64 (heldS s).2.2]] }, { rows := [[.bool (heldS s).2.1, .int .i64 (heldS s).2.2]] }]) := by
      rw [callW_eqO (fn := fn12) rfl rfl]
      simp [-getElem?_pos, fn12, htk, held_2, hlt, List.getElem?_append_left, List.set_append_left, List.getElem?_set, appV, blkAt_eq, newArr, szOk, hadds, h24, Ring.row]
    refine ⟨_, .arr (H.length + 2) 0 0 1 1 false, hcall, ⟨?_, .inr ⟨H.length + 2, 0, [], ?_, ?_, ?_, ?_⟩, ?_⟩, ⟨?_, fun c hc hne _ => ?_⟩, .inr ⟨rfl, _, rfl, by omega⟩⟩
    · rw [List.getElem?_append_left (by simpa using hlt), List.getElem?_set_self hlt]
    · simp [hadd, hl]
    · rw [hadd, hl]
      simp [srow, heldS_t]
    · simp [hadd]
    · simp
    · simp [blkV]; omega
    · simp
    · rw [List.getElem?_append_left (by simpa using hc), List.getElem?_set_ne (Ne.symm hne)]
  · have hbR : b ≠ R := fun e => h.ne (by rw [e]; rfl)
    have hblt : b < H.length := (List.getElem?_eq_some_iff.1 hB).1
    have hsz : szOk 3 (pre ++ r.l.map srow) = true := szOk_all (all3 hpre)
    have hcomm : ∀ (A B A' : Bk), ((H.set R A).set b B).set R A' = (H.set b B).set R A' := fun A B A' => by rw [List.set_comm _ _ (Ne.symm hbR), List.set_set]
    have hcall : callW pg 0 12 [.ptr R 0 0 0, .agg [.int .i64 s.1, .bool s.2.1, .int .i64 s.2.2]] H = some (.int .i64 0, (H.set b { rows := r.l.map srow ++ [[.int .i64 s.1, .bool (heldS s).2.1, .int .i64 (heldS s).2.2]], gen := g + 1 }).set R { rows := [(r.add s).row (.arr b (g + 1) 0 (r.l.length + 1) (r.l.length + 1) false)] } ++
        [{ rows := [[.int .i64 s.1, .bool (heldS s).2.1, .int .i64 (heldS s).2.2]] }, { rows := [[.int .i64 s.1, .bool (heldS s).2.1, .int .i64 (heldS s).2.2]] }, { rows := [[.bool (heldS s).2.1, .int .i64 (heldS s).2.2]] }]) := by
      rw [callW_eqO (fn := fn12) rfl rfl]
      simp [-getElem?_pos, fn12, htk, held_2, hlt, hblt, hB, hbR, Ne.symm hbR, hsz, hpos, hroom, hcomm, List.getElem?_append_left, List.set_append_left, List.getElem?_set, appV, blkAt_eq, newArr, hadds, htake, hnot]
    refine ⟨_, .arr b (g + 1) 0 (r.l.length + 1) (r.l.length + 1) false, hcall, ⟨?_, .inr ⟨b, g + 1, [], ?_, ?_, ?_, ?_⟩, ?_⟩, ⟨?_, fun c hc hne hnb => ?_⟩, .inl rfl⟩
    · rw [List.getElem?_append_left (by simpa using hlt), List.getElem?_set_self (by simpa using hlt)]
    · simp [hadd]
    · rw [List.getElem?_append_left (by simpa using hblt), List.getElem?_set_ne (Ne.symm hbR), List.getElem?_set_self hblt, hadd]
      simp [srow, heldS_t]
    · simp [hadd]
    · simp
    · simpa [blkV] using hbR
    · simp
    · have hcb : c ≠ b := fun e => hnb (by rw [e]; rfl)
      rw [List.getElem?_append_left (by simpa using hc), List.getElem?_set_ne (Ne.symm hne), List.getElem?_set_ne (Ne.symm hcb)]

end Go.Proofs.Ytdaajnaphkepmaa
