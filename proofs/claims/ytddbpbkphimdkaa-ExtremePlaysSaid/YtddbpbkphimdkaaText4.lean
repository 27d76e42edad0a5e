import Derived.Test.YtddbpbkphimdkaaText3
namespace Go.Proofs.Ytddbpbkphimdkaa
open Go Go.Vs
variable {ro : Nat} {H : Hp}

/-- What is left when the last ones have gone as long as they are beaten. -/
def rdrop (p : Smp → Bool) (l : List Smp) : List Smp := (l.reverse.dropWhile p).reverse
theorem rdrop_nil {p : Smp → Bool} : rdrop p [] = [] := rfl
theorem rdrop_snoc {p : Smp → Bool} {l : List Smp} {s : Smp} : rdrop p (l ++ [s]) = if p s = true then rdrop p l else l ++ [s] := by
  unfold rdrop
  rw [List.reverse_append, List.reverse_singleton, List.singleton_append, List.dropWhile_cons]
  split
  · rfl
  · simp
theorem rdrop_len {p : Smp → Bool} : ∀ (n : Nat) (l : List Smp), l.length = n → (rdrop p l).length ≤ n
  | 0, l, h => by rw [List.length_eq_zero_iff.1 h]; simp [rdrop_nil]
  | n + 1, l, h => by
    have hne : l ≠ [] := by intro e; simp [e] at h
    rw [← List.dropLast_concat_getLast hne, rdrop_snoc]
    split
    · have := rdrop_len n l.dropLast (by simp [h]) (p := p); omega
    · simp; omega

def pb (g : Bool) (o : Bool) (n : Int) (s : Smp) : Bool := beats g o n s.2.1 s.2.2

theorem B0_eq {e : Env} : runW pg 0 fn10L0 e H = seqO pg 0 fn10L0 (runW pg 0 fn10B0 (keepE [0, 3] e) H) := runW_loopO

theorem bloop {R C : Nat} {w now last t n : Int} {g o : Bool} (hCR : C ≠ R) : ∀ (k : Nat) (l : List Smp) (H : Hp) (v : IV), l.length = k → k ≤ 1000000 → ExtAt H R v ⟨w, now, last, g, l⟩ → H[C]? = some { rows := [[.int .i64 t, .bool o, .int .i64 n]] } → blkV v ≠ some C →
    ∃ H' v', (∃ e', get e' 0 = .ptr R 0 0 0 ∧ get e' 3 = .ptr C 0 0 0 ∧ runW pg 0 fn10L0 [(0, .ptr R 0 0 0), (3, .ptr C 0 0 0)] H = some (.exit 0, e', H')) ∧ ExtAt H' R v' ⟨w, now, last, g, rdrop (pb g o n) l⟩ ∧ Keeps H H' R .nsl ∧ H'.length = H.length ∧ blkV v' = blkV v := by
  intro k
  induction k with
  | zero =>
    intro l H v hl _ h hC _
    have hl := List.length_eq_zero_iff.1 hl
    subst hl
    have hR := h.at_
    refine ⟨H, v, ?_, h, ⟨Nat.le_refl _, fun _ _ _ _ => rfl⟩, rfl, rfl⟩
    rw [B0_eq]
    rcases h.sl with ⟨rfl, hl⟩ | ⟨b, g, pre, post, rfl, _, _, _⟩
    · exact ⟨[(0, .ptr R 0 0 0), (3, .ptr C 0 0 0), (45, .bool false)], rfl, rfl, by simp [-getElem?_pos, fn10B0, hR, Ext.row]⟩
    · exact ⟨[(0, .ptr R 0 0 0), (3, .ptr C 0 0 0), (45, .bool false)], rfl, rfl, by simp [-getElem?_pos, fn10B0, hR, Ext.row]⟩
  | succ k ih =>
    intro l H v hl hk h hC hvC
    have hne : l ≠ [] := by intro e; simp [e] at hl
    obtain ⟨l, s, rfl⟩ : ∃ l' s, l = l' ++ [s] := ⟨l.dropLast, l.getLast hne, (List.dropLast_concat_getLast hne).symm⟩
    have hR := h.at_
    have hlt : R < H.length := (List.getElem?_eq_some_iff.1 hR).1
    have hClt : C < H.length := (List.getElem?_eq_some_iff.1 hC).1
    obtain ⟨t', o', n'⟩ := s
    have hll : l.length = k := by simpa using hl
    rcases h.sl with ⟨_, hl⟩ | ⟨b, gn, pre, post, rfl, hB, hpos, hpre, hpost⟩
    · simp at hl
    have hsz : szOk 3 (pre ++ ((l ++ [(t', o', n')]).map srow ++ post)) = true := szOk_all (all3 hpre hpost)
    simp only [List.map_append, List.map_cons, List.map_nil, List.append_assoc, List.singleton_append, List.length_append, List.length_cons, List.length_nil, srow] at hB hpos hsz hR
    have hR : H[R]? = some { rows := [[.int .i64 w, .int .i64 now, .int .i64 last, .bool g, .arr b gn pre.length (l.length + 1) (l.length + 1 + post.length) false]] } := by
      rw [hR]; simp [Ext.row]
    have hbR : b ≠ R := fun e => h.ne (by rw [e]; rfl)
    have hbC : b ≠ C := fun e => hvC (by rw [e]; rfl)
    have hblt : b < H.length := (List.getElem?_eq_some_iff.1 hB).1
    have hbt := fun ro => beats_2 (ro := ro) (H := H) (R := R) (o := o) (n := n) (p := o') (m := n') hR
    have w1 : IntKind.i64.wrap (l.length : Int) = l.length := by rw [IntKind.wrap_i64]; omega
    have w2 : IntKind.i64.wrap ((l.length : Int) + 1 - 1) = l.length := by rw [IntKind.wrap_i64]; omega
    have h6 : l.length ≤ l.length + 1 + post.length := by omega
    have e7 : l.length + (1 + post.length) = l.length + 1 + post.length := by omega
    have h5 : (l.length : Int) < (l.length : Int) + 1 := by omega
    rw [B0_eq]
    by_cases hg : beats g o n o' n' = true
    · have hat : ExtAt (H.set R { rows := [Ext.row ⟨w, now, last, g, l⟩ (.arr b gn pre.length l.length (l.length + (1 + post.length)) false)] }) R (.arr b gn pre.length l.length (l.length + (1 + post.length)) false) ⟨w, now, last, g, l⟩ := by
        refine ⟨?_, .inr ⟨b, gn, pre, srow (t', o', n') :: post, by simp; omega, ?_, by simp; omega, hpre, ?_⟩, by simpa [blkV] using hbR⟩
        · rw [List.getElem?_set_self hlt]
        · rw [List.getElem?_set_ne (Ne.symm hbR), hB]
          simp only [srow]
        · intro r hr
          rcases List.mem_cons.1 hr with h1 | h1
          · subst h1; rfl
          · exact hpost r h1
      obtain ⟨H', v', ⟨e', he1, he2, hrun⟩, h1, h2, h4, h3⟩ := ih l _ _ hll (by omega) hat (by rw [List.getElem?_set_ne (Ne.symm hCR)]; exact hC) hvC
      refine ⟨H', v', ⟨e', he1, he2, ?_⟩, ?_, ⟨?_, fun c hc hne _ => ?_⟩, by simpa using h4, h3⟩
      · have hbody : runW pg 0 fn10B0 [(0, .ptr R 0 0 0), (3, .ptr C 0 0 0)] H = some (.nrm, [(0, .ptr R 0 0 0), (3, .ptr C 0 0 0)], H.set R { rows := [Ext.row ⟨w, now, last, g, l⟩ (.arr b gn pre.length l.length (l.length + (1 + post.length)) false)] }) := by
          simp [-getElem?_pos, fn10B0, hR, hB, hC, hsz, hbt, hg, hlt, hblt, hClt, hbR, Ne.symm hbR, List.getElem?_set, Ext.row, w1, w2, h5, h6, e7]
        simp [hbody, hrun]
      · rw [rdrop_snoc, if_pos (show pb g o n (t', o', n') = true from hg)]; exact h1
      · have := h2.len; simp at this; omega
      · rw [h2.same c (by simp; omega) hne (by simp [blkV]), List.getElem?_set_ne (Ne.symm hne)]
    · refine ⟨H, _, ⟨[(0, .ptr R 0 0 0), (3, .ptr C 0 0 0), (45, .bool false)], rfl, rfl, ?_⟩, ?_, ⟨Nat.le_refl _, fun _ _ _ _ => rfl⟩, rfl, rfl⟩
      · simp [-getElem?_pos, fn10B0, hR, hB, hC, hsz, hbt, hg, hlt, hblt, hClt, w1, w2, h5]
      · rw [rdrop_snoc, if_neg (show ¬ pb g o n (t', o', n') = true from hg)]; exact h

/-- A sample as it is held. -/
def heldS (s : Smp) : Smp := if okNum s.2.1 s.2.2 then s else (s.1, true, 0)
theorem heldS_t {s : Smp} : (heldS s).1 = s.1 := by unfold heldS; split <;> rfl

def Ext.add (r : Ext) (s : Smp) : Ext := if takes r.w r.now r.last s.1 = 0 then ⟨r.w, r.now, s.1, r.g, rdrop (pb r.g (heldS s).2.1 (heldS s).2.2) r.l ++ [heldS s]⟩ else r

theorem add_no {R : Nat} {v : IV} {r : Ext} {t n : Int} {o : Bool} (h : ExtAt H R v r) (ht : takes r.w r.now r.last t ≠ 0) :
    callW pg 0 10 [.ptr R 0 0 0, .agg [.int .i64 t, .bool o, .int .i64 n]] H = some (.int .i64 (takes r.w r.now r.last t), H ++ [{ rows := [[.int .i64 t, .bool o, .int .i64 n]] }]) := by
  have hR := h.at_
  have hlt : R < H.length := (List.getElem?_eq_some_iff.1 hR).1
  have hR' : (H ++ [{ rows := [[.int .i64 t, .bool o, .int .i64 n]] }])[R]? = some { rows := [r.row v] } := by rw [List.getElem?_append_left hlt]; exact hR
  have htk := takes_c (ro := 0) (t := t) (rest := [.bool r.g, v]) hR' (Nat.zero_le _)
  simp only [ht, if_false] at htk
  rw [callW_eqO (fn := fn10) rfl rfl]
  simp [-getElem?_pos, fn10, htk, ht]

/-- What appending does. -/
theorem SlOk.push {v : IV} {l : List Smp} {s : Smp} {y : IV} (hy : rowsOf H y = some [srow s]) (h : SlOk H v l) (hl : l.length ≤ 1000000) :
    ∃ b g o n c H2, appV 0 H 3 24 v y = some (.arr b g o n c false, H2) ∧ SlOk H2 (.arr b g o n c false) (l ++ [s]) ∧ H.length ≤ H2.length ∧ (∀ b, b < H.length → blkV v ≠ some b → H2[b]? = H[b]?) ∧ (blkV v = some b ∨ blkV v = none ∧ b = H.length) := by
  have h24 : 24 ≤ room := by unfold room; omega
  rcases h with ⟨rfl, rfl⟩ | ⟨b, g, pre, post, rfl, hB, hpos, hpre, hpost⟩
  · refine ⟨H.length, 0, 0, 1, 1, H ++ [{ rows := [srow s] }], ?_, .inr ⟨H.length, 0, [], [], by simp, by simp, by simp, by simp, by simp⟩, by simp, fun b hb _ => List.getElem?_append_left hb, .inr ⟨rfl, rfl⟩⟩
    simp only [srow] at hy; simp [appV, newArr, szOk, srow, h24, hy]
  · have hblt : b < H.length := (List.getElem?_eq_some_iff.1 hB).1
    have hsz : szOk 3 (pre ++ (l.map srow ++ post)) = true := szOk_all (all3 hpre hpost)
    cases post with
    | nil =>
      have hroom : (l.length + 1) * 24 ≤ room := by unfold room; omega
      have htake : List.take l.length (List.map srow l) = List.map srow l := List.take_of_length_le (by simp)
      have hp' : 0 < pre.length + l.length := by simpa using hpos
      have hnot : ¬ l.length + 1 ≤ l.length := by omega
      refine ⟨b, g + 1, 0, l.length + 1, l.length + 1, H.set b { rows := l.map srow ++ [srow s], gen := g + 1 }, ?_, .inr ⟨b, g + 1, [], [], by simp, ?_, by simp, by simp, by simp⟩, by simp, fun c hc hne => ?_, .inl rfl⟩
      · simp only [List.append_nil] at hB hsz
        have hs1 : szOk 3 [srow s] = true := rfl
        simp [-getElem?_pos, appV, hy, blkAt_eq, hB, hsz, hroom, htake, hs1, hp', hnot]
      · rw [List.getElem?_set_self hblt]; simp
      · rw [List.getElem?_set_ne (fun e => hne (by rw [← e]; rfl))]
    | cons p post =>
      have hs1 : szOk 3 [srow s] = true := rfl
      refine ⟨b, g, pre.length, l.length + 1, l.length + (post.length + 1), H.set b { rows := pre ++ (l.map srow ++ srow s :: post), gen := g }, ?_, .inr ⟨b, g, pre, post, by simp; omega, ?_, by simp; omega, hpre, fun r hr => hpost r (List.mem_cons_of_mem _ hr)⟩, by simp, fun c hc hne => ?_, .inl rfl⟩
      · have e1 : pre.length + l.length + 1 ≤ pre.length + (l.length + (post.length + 1)) := by omega
        have e2 : ¬ (pre.length + (l.length + (post.length + 1)) < pre.length + l.length) := by omega
        have e3 : l.length + 1 ≤ l.length + (post.length + 1) := by omega
        have t1 : List.take (pre.length + l.length) (pre ++ (l.map srow ++ p :: post)) = pre ++ l.map srow := by
          rw [← List.append_assoc, List.take_left' (by simp)]
        have t2 : List.drop (pre.length + l.length + 1) (pre ++ (l.map srow ++ p :: post)) = post := by
          rw [← List.append_assoc, show pre.length + l.length + 1 = (pre ++ l.map srow).length + 1 by simp, ← List.drop_drop, List.drop_left]; rfl
        simp [-getElem?_pos, appV, hy, blkAt_eq, hB, hsz, hs1, e1, e2, e3, t1, t2]
      · rw [List.getElem?_set_self hblt]; simp
      · rw [List.getElem?_set_ne (fun e => hne (by rw [← e]; rfl))]

theorem add_yes {R : Nat} {v : IV} {r : Ext} {t n : Int} {o : Bool} (h : ExtAt H R v r) (ho : ExtOk r) (ht : takes r.w r.now r.last t = 0) :
    ∃ H' v', callW pg 0 10 [.ptr R 0 0 0, .agg [.int .i64 t, .bool o, .int .i64 n]] H = some (.int .i64 0, H') ∧ ExtAt H' R v' (r.add (t, o, n)) ∧ Keeps H H' R v ∧ (blkV v' = blkV v ∨ blkV v = none ∧ ∃ b, blkV v' = some b ∧ H.length ≤ b) := by
  have hR := h.at_
  have hlt : R < H.length := (List.getElem?_eq_some_iff.1 hR).1
  have hCR : H.length ≠ R := by omega
  have hR' : (H ++ [{ rows := [[.int .i64 t, .bool o, .int .i64 n]] }])[R]? = some { rows := [r.row v] } := by rw [List.getElem?_append_left hlt]; exact hR
  have htk := takes_c (ro := 0) (t := t) (rest := [.bool r.g, v]) hR' (Nat.zero_le _)
  simp only [ht, if_true, List.set_append_left _ _ hlt] at htk
  -- the cell of the sample, as it is held
  have hvC : blkV v ≠ some H.length := by
    rcases h.sl with ⟨rfl, _⟩ | ⟨b, g, pre, post, rfl, hB, _, _⟩
    · simp [blkV]
    · have := (List.getElem?_eq_some_iff.1 hB).1; simp [blkV]; omega
  have hat : ExtAt (H.set R { rows := [Ext.row ⟨r.w, r.now, t, r.g, r.l⟩ v] } ++ [{ rows := [srow (heldS (t, o, n))] }]) R v ⟨r.w, r.now, t, r.g, r.l⟩ :=
    ExtAt.app (r := ⟨r.w, r.now, t, r.g, r.l⟩) ⟨by rw [List.getElem?_set_self hlt], h.sl.set h.ne, h.ne⟩ _
  have hC : (H.set R { rows := [Ext.row ⟨r.w, r.now, t, r.g, r.l⟩ v] } ++ [{ rows := [srow (heldS (t, o, n))] }])[H.length]? = some { rows := [[.int .i64 t, .bool (heldS (t, o, n)).2.1, .int .i64 (heldS (t, o, n)).2.2]] } := by
    rw [List.getElem?_append_right (by simp)]; simp [srow, heldS_t]
  obtain ⟨H', v', ⟨e', he0, he3, hrun⟩, h1, h2, h3, h4⟩ := bloop hCR r.l.length r.l _ v rfl ho.len hat hC hvC
  generalize hL : rdrop (pb r.g (heldS (t, o, n)).2.1 (heldS (t, o, n)).2.2) r.l = L at h1
  have hLl : L.length ≤ 1000000 := by have h5 := rdrop_len (p := pb r.g (heldS (t, o, n)).2.1 (heldS (t, o, n)).2.2) r.l.length r.l rfl; have := ho.len; rw [hL] at h5; omega
  have hadd : r.add (t, o, n) = ⟨r.w, r.now, t, r.g, L ++ [heldS (t, o, n)]⟩ := by simp [Ext.add, ht, hL]
  have hC' : H'[H.length]? = some { rows := [[.int .i64 t, .bool (heldS (t, o, n)).2.1, .int .i64 (heldS (t, o, n)).2.2]] } := by
    rw [h2.same _ (by simp) hCR (by simp [blkV])]; exact hC
  have hClt := (List.getElem?_eq_some_iff.1 hC').1
  obtain ⟨b, g, o2, l2, c2, H2, hpush, hsl, hlen2, hkeep2, hb2⟩ := SlOk.push (s := heldS (t, o, n)) (y := .arr H'.length 0 0 1 1 true) (H := H' ++ [{ rows := [srow (heldS (t, o, n))] }]) (by simp) (h1.sl.app _) hLl
  have hRlt' := (List.getElem?_eq_some_iff.1 h1.at_).1
  have hR2 : H2[R]? = some { rows := [[.int .i64 r.w, .int .i64 r.now, .int .i64 t, .bool r.g, v']] } := by
    rw [hkeep2 R (by simp; omega) h1.ne, List.getElem?_append_left hRlt']; exact h1.at_
  simp only [srow, heldS_t] at hpush
  have hbne : blkV (.arr b g o2 l2 c2 false) ≠ some R := by
    rcases hb2 with e | ⟨_, e⟩
    · have := h1.ne; rw [e] at this; simpa [blkV] using this
    · simp [blkV, e]; omega
  refine ⟨H2.set R { rows := [(r.add (t, o, n)).row (.arr b g o2 l2 c2 false)] }, .arr b g o2 l2 c2 false, ?_, ⟨?_, ?_, ?_⟩, ⟨?_, fun c hc hne hnv => ?_⟩, ?_⟩
  · rw [callW_eqO (fn := fn10) rfl rfl]
    have hR1 := h1.at_
    simp only [Ext.row, srow, heldS_t] at hrun htk hR1
    have hrun2 : ∀ X, runW pg 0 fn10L0 [(0, .ptr R 0 0 0), (3, .ptr H.length 0 0 0), (18, .bool false)] X = runW pg 0 fn10L0 [(0, .ptr R 0 0 0), (3, .ptr H.length 0 0 0)] X := fun X => by rw [B0_eq, B0_eq]; rfl
    cases hk : okNum o n
    · simp only [heldS, hk] at hrun hpush hC' ⊢
      simp at hrun
      simp at hpush
      simp at hC'
      simp [-getElem?_pos, fn10, htk, is_2, hk, hlt, List.getElem?_append_left, List.set_append_left, he0, he3, hrun, hC', hpush, hR1, hR2, hadd, Ext.row, hrun2]
    · simp only [heldS, hk] at hrun hpush hC' ⊢
      simp at hrun
      simp at hpush
      simp at hC'
      simp [-getElem?_pos, fn10, htk, is_2, hk, hlt, List.getElem?_append_left, List.set_append_left, he0, he3, hrun, hC', hpush, hR1, hR2, hadd, Ext.row, hrun2]
  · rw [List.getElem?_set_self (List.getElem?_eq_some_iff.1 hR2).1]
  · rw [hadd]; exact hsl.set hbne
  · exact hbne
  · have := h2.len; simp at this hlen2 ⊢; omega
  · rw [List.getElem?_set_ne (Ne.symm hne), hkeep2 c (by have := h2.len; simp at this ⊢; omega) (by rw [h4]; exact hnv), List.getElem?_append_left (by have := h2.len; simp at this; omega), h2.same c (by simp; omega) hne (by simp [blkV]), List.getElem?_append_left (by simpa using hc), List.getElem?_set_ne (Ne.symm hne)]
  · rw [← h4]
    rcases hb2 with e | ⟨e1, e2⟩
    · exact .inl e.symm
    · exact .inr ⟨e1, b, rfl, by have := h2.len; simp at this e2; omega⟩

end Go.Proofs.Ytddbpbkphimdkaa
