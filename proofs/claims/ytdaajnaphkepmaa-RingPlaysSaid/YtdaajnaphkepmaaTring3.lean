import Derived.Test.YtdaajnaphkepmaaTring2
namespace Go.Proofs.Ytdaajnaphkepmaa
open Go Go.Vs
variable {ro : Nat} {H : Hp}

/-- The samples that are left when those up to a time have gone. -/
def strip (c : Int) : List (Int × Bool × Int) → List (Int × Bool × Int)
  | [] => []
  | s :: l => if s.1 ≤ c then strip c l else s :: l

theorem L0_eq {e : Env} : runW pg 0 fn11L0 e H = seqO pg 0 fn11L0 (runW pg 0 fn11B0 (keepE [0] e) H) := runW_loopO

theorem loop_c {R : Nat} {w now last : Int} (hw : IntKind.i64.wrap (now - w) = now - w) : ∀ (l : List (Int × Bool × Int)) (H : Hp) (v : IV), RingAt H R v ⟨w, now, last, l⟩ → (∀ s ∈ l, SmpOk s) → l.length ≤ 1000000 →
    ∃ H' v', (∃ e', runW pg 0 fn11L0 [(0, .ptr R 0 0 0)] H = some (.exit 0, e', H')) ∧ RingAt H' R v' ⟨w, now, last, strip (now - w) l⟩ ∧ Keeps H H' R .nsl ∧ blkV v' = blkV v := by
  intro l
  induction l with
  | nil =>
    intro H v h _ _
    have hR := h.at_
    refine ⟨H, v, ?_, h, ⟨Nat.le_refl _, fun _ _ _ _ => rfl⟩, rfl⟩
    rw [L0_eq]
    rcases h.sl with ⟨rfl, hl⟩ | ⟨b, g, pre, rfl, _, _, _⟩
    · simp [-getElem?_pos, fn11B0, hR, Ring.row]
    · simp [-getElem?_pos, fn11B0, hR, Ring.row]
  | cons s l ih =>
    intro H v h hs hlen
    have hR := h.at_
    have hlt : R < H.length := (List.getElem?_eq_some_iff.1 hR).1
    obtain ⟨t, o, n⟩ := s
    rcases h.sl with ⟨_, hl⟩ | ⟨b, g, pre, rfl, hB, hpos, hpre⟩
    · cases hl
    dsimp only at hB hpos
    have hR : H[R]? = some { rows := [[.int .i64 w, .int .i64 now, .int .i64 last, .int .u64 (hi (sumS ((t, o, n) :: l))), .int .u64 (lo (sumS ((t, o, n) :: l))), .int .i64 (cntO ((t, o, n) :: l)), .arr b g pre.length (l.length + 1) (l.length + 1) false]] } := hR
    have hB : H[b]? = some { rows := pre ++ [.int .i64 t, .bool o, .int .i64 n] :: l.map srow, gen := g } := hB
    have hbR : b ≠ R := fun e => h.ne (by rw [e]; rfl)
    have hblt : b < H.length := (List.getElem?_eq_some_iff.1 hB).1
    have hsz : szOk 3 (pre ++ [.int .i64 t, .bool o, .int .i64 n] :: l.map srow) = true := szOk_all (all3 (l := (t, o, n) :: l) hpre)
    have hgone := fun ro => gone_2 (ro := ro) (H := H) (R := R) (w := w) (now := now) (t := t) hR
    rw [hw] at hgone
    rw [L0_eq]
    by_cases hg : t ≤ now - w
    · have hsn := hs _ (List.mem_cons_self ..)
      have hco := cntO_le ((t, o, n) :: l)
      have hadds := adds_c (ro := 0) (away := true) hR (Nat.zero_le _) hsn (by omega) (by simp only [List.length_cons] at hco hlen; omega)
      have e1 : sumS ((t, o, n) :: l) + -sv (t, o, n) = sumS l := by simp only [sumS]; omega
      have e2 : cntO ((t, o, n) :: l) + -so (t, o, n) = cntO l := by simp only [cntO]; omega
      simp only [if_true, e1, e2] at hadds
      have hat : RingAt (H.set R { rows := [Ring.row ⟨w, now, last, l⟩ (.arr b g (pre.length + 1) l.length l.length false)] } ++ [{ rows := [[.bool o, .int .i64 n]] }]) R (.arr b g (pre.length + 1) l.length l.length false) ⟨w, now, last, l⟩ := by
        refine ⟨?_, .inr ⟨b, g, pre ++ [srow (t, o, n)], by simp, ?_, by simp; omega, ?_⟩, by simpa [blkV] using hbR⟩
        · rw [List.getElem?_append_left (by simpa using hlt), List.getElem?_set_self hlt]
        · rw [List.getElem?_append_left (by simpa using hblt), List.getElem?_set_ne (Ne.symm hbR), hB]
          simp [srow]
        · intro r hr
          rcases List.mem_append.1 hr with h1 | h1
          · exact hpre r h1
          · simp at h1; subst h1; rfl
      obtain ⟨H', v', ⟨e', hrun⟩, h1, h2, h3⟩ := ih _ _ hat (fun s hs' => hs s (List.mem_cons_of_mem _ hs')) (by simp only [List.length_cons] at hlen; omega)
      refine ⟨H', v', ⟨e', ?_⟩, by simpa [strip, hg] using h1, ⟨?_, fun c hc hne _ => ?_⟩, h3⟩
      · have hbody : runW pg 0 fn11B0 [(0, .ptr R 0 0 0)] H = some (.nrm, [(0, .ptr R 0 0 0)], H.set R { rows := [Ring.row ⟨w, now, last, l⟩ (.arr b g (pre.length + 1) l.length l.length false)] } ++ [{ rows := [[.bool o, .int .i64 n]] }]) := by
          simp [-getElem?_pos, fn11B0, hR, hB, hsz, hgone, hg, hadds, hlt, hblt, hbR, Ne.symm hbR, List.getElem?_append_left, List.set_append_left, List.getElem?_set, Ring.row]
        simp [hbody, hrun]
      · have := h2.len; simp at this; omega
      · rw [h2.same c (by simp; omega) hne (by simp [blkV]), List.getElem?_append_left (by simpa using hc), List.getElem?_set_ne (Ne.symm hne)]
    · refine ⟨H, _, ?_, by simpa [strip, hg] using h, ⟨Nat.le_refl _, fun _ _ _ _ => rfl⟩, rfl⟩
      simp [-getElem?_pos, fn11B0, hR, hB, hsz, hgone, hg]

end Go.Proofs.Ytdaajnaphkepmaa
