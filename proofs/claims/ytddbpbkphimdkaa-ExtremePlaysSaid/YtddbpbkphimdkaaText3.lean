import Derived.Test.YtddbpbkphimdkaaText2
namespace Go.Proofs.Ytddbpbkphimdkaa
open Go Go.Vs
variable {ro : Nat} {H : Hp}

/-- A sample: its time, whether it is an overflow, its number. -/
abbrev Smp := Int × Bool × Int
def srow (s : Smp) : List IV := [.int .i64 s.1, .bool s.2.1, .int .i64 s.2.2]

/-- Where the samples lie. -/
def SlOk (H : Hp) (v : IV) (l : List Smp) : Prop :=
  (v = .nsl ∧ l = []) ∨ ∃ b g pre post, v = .arr b g pre.length l.length (l.length + post.length) false ∧ H[b]? = some { rows := pre ++ (l.map srow ++ post), gen := g } ∧ 0 < pre.length + (l.length + post.length) ∧ (∀ r ∈ pre, r.length = 3) ∧ ∀ r ∈ post, r.length = 3

def blkV : IV → Option Nat
  | .arr b _ _ _ _ _ => some b
  | _ => none

structure Ext where
  w : Int
  now : Int
  last : Int
  g : Bool
  l : List Smp

def Ext.row (r : Ext) (v : IV) : List IV := [.int .i64 r.w, .int .i64 r.now, .int .i64 r.last, .bool r.g, v]

structure ExtAt (H : Hp) (R : Nat) (v : IV) (r : Ext) : Prop where
  at_ : H[R]? = some { rows := [r.row v] }
  sl : SlOk H v r.l
  ne : blkV v ≠ some R

/-- What a call leaves. -/
structure Keeps (H H' : Hp) (R : Nat) (v : IV) : Prop where
  len : H.length ≤ H'.length
  same : ∀ b, b < H.length → b ≠ R → blkV v ≠ some b → H'[b]? = H[b]?

theorem all3 {pre post : List (List IV)} {l : List Smp} (h : ∀ r ∈ pre, r.length = 3) (h2 : ∀ r ∈ post, r.length = 3) : ∀ r ∈ pre ++ (l.map srow ++ post), r.length = 3 := by
  intro r hr
  rcases List.mem_append.1 hr with h1 | h1
  · exact h r h1
  rcases List.mem_append.1 h1 with h1 | h1
  · obtain ⟨s, _, rfl⟩ := List.mem_map.1 h1; rfl
  · exact h2 r h1

theorem SlOk.set {v : IV} {l : List Smp} {R : Nat} {B : Bk} (h : SlOk H v l) (hne : blkV v ≠ some R) : SlOk (H.set R B) v l := by
  rcases h with h | ⟨b, g, pre, post, rfl, h1, h2, h3⟩
  · exact .inl h
  · exact .inr ⟨b, g, pre, post, rfl, by rw [List.getElem?_set_ne (fun e => hne (by rw [e]; rfl))]; exact h1, h2, h3⟩

theorem SlOk.app {v : IV} {l : List Smp} (h : SlOk H v l) (Y : Hp) : SlOk (H ++ Y) v l := by
  rcases h with h | ⟨b, g, pre, post, rfl, h1, h2, h3⟩
  · exact .inl h
  · exact .inr ⟨b, g, pre, post, rfl, by rw [List.getElem?_append_left (List.getElem?_eq_some_iff.1 h1).1]; exact h1, h2, h3⟩

theorem ExtAt.app {R : Nat} {v : IV} {r : Ext} (h : ExtAt H R v r) (Y : Hp) : ExtAt (H ++ Y) R v r :=
  ⟨by rw [List.getElem?_append_left (List.getElem?_eq_some_iff.1 h.at_).1]; exact h.at_, h.sl.app Y, h.ne⟩

theorem new_c {n : Int} {g : Bool} (hr : ro ≤ H.length) : callW pg ro 7 [.int .i64 n, .bool g] H = some (.ptr H.length 0 0 0, H ++ [{ rows := [Ext.row ⟨min (max n 1) 100, 0, -1, g, []⟩ .nsl] }]) := by
  rw [callW_eqO (fn := fn7) rfl rfl]
  simp [fn7, Ext.row]

theorem kept_c {R : Nat} {v : IV} {r : Ext} (h : ExtAt H R v r) : callW pg ro 14 [.ptr R 0 0 0] H = some (.int .i64 r.l.length, H) := by
  rw [callW_eqO (fn := fn14) rfl rfl]
  have hR := h.at_
  rcases h.sl with ⟨rfl, hl⟩ | ⟨b, g, pre, post, rfl, _, _, _⟩
  · simp [-getElem?_pos, fn14, hR, Ext.row, hl]
  · simp [-getElem?_pos, fn14, hR, Ext.row]

theorem kept_2 {R : Nat} {v : IV} {r : Ext} (h : ExtAt H R v r) : doCall (callW pg) ro 2 (.fn 14 []) [.ptr R 0 0 0] H = some (.int .i64 r.l.length, H) :=
  call2 (args' := [.ptr R 0 0 0]) (by simp) (kept_c h) rfl (.inl rfl)

/-- What is told. -/
def Ext.best (r : Ext) : Bool × Int × Bool := match r.l with
  | [] => (false, 0, false)
  | s :: _ => (s.2.1, s.2.2, true)

theorem get_c {R : Nat} {v : IV} {r : Ext} (h : ExtAt H R v r) (hr : ro ≤ H.length) : ∃ H2, callW pg ro 11 [.ptr R 0 0 0] H = some (.tup [.agg [.bool r.best.1, .int .i64 r.best.2.1], .bool r.best.2.2], H2) := by
  rw [callW_eqO (fn := fn11) rfl rfl]
  have hR := h.at_
  have hlt : R < H.length := (List.getElem?_eq_some_iff.1 hR).1
  obtain ⟨w, now, last, g, l⟩ := r
  cases l with
  | nil =>
    rcases h.sl with ⟨rfl, hl⟩ | ⟨b, g, pre, post, rfl, hB, _, _⟩
    · simp [-getElem?_pos, fn11, hR, Ext.row, Ext.best, hr, hlt, List.getElem?_append_left]
    · simp [-getElem?_pos, fn11, hR, Ext.row, Ext.best, hr, hlt, List.getElem?_append_left]
  | cons s l =>
    rcases h.sl with ⟨rfl, hl⟩ | ⟨b, g, pre, post, rfl, hB, h1, h2, h3⟩
    · cases hl
    · dsimp only at hB
      have hblt : b < H.length := (List.getElem?_eq_some_iff.1 hB).1
      have hsz : szOk 3 (pre ++ (List.map srow (s :: l) ++ post)) = true := szOk_all (all3 (l := s :: l) h2 h3)
      simp only [List.map_cons, List.cons_append, srow] at hB hsz
      have hne0 : ¬ ((l.length : Int) + 1 = 0) := by omega
      simp [-getElem?_pos, fn11, hR, Ext.row, Ext.best, hr, hlt, hblt, hB, hsz, hne0, List.getElem?_append_left]

theorem get_2 {R : Nat} {v : IV} {r : Ext} (h : ExtAt H R v r) : doCall (callW pg) ro 2 (.fn 11 []) [.ptr R 0 0 0] H = some (.tup [.agg [.bool r.best.1, .int .i64 r.best.2.1], .bool r.best.2.2], H) := by
  obtain ⟨H2, h⟩ := get_c h (ro := H.length) (Nat.le_refl _)
  exact call2 (args' := [.ptr R 0 0 0]) (by simp) h rfl (.inl rfl)

/-! time goes on -/
/-- The samples that are left when those up to a time have gone. -/
def strip (c : Int) : List Smp → List Smp
  | [] => []
  | s :: l => if s.1 ≤ c then strip c l else s :: l

theorem A0_eq {e : Env} : runW pg 0 fn8L0 e H = seqO pg 0 fn8L0 (runW pg 0 fn8B0 (keepE [0] e) H) := runW_loopO

theorem aloop {R : Nat} {w now last : Int} {g : Bool} (hw : IntKind.i64.wrap (now - w) = now - w) : ∀ (l : List Smp) (H : Hp) (v : IV), ExtAt H R v ⟨w, now, last, g, l⟩ →
    ∃ H' v', (∃ e', runW pg 0 fn8L0 [(0, .ptr R 0 0 0)] H = some (.exit 0, e', H')) ∧ ExtAt H' R v' ⟨w, now, last, g, strip (now - w) l⟩ ∧ Keeps H H' R .nsl ∧ blkV v' = blkV v := by
  intro l
  induction l with
  | nil =>
    intro H v h
    have hR := h.at_
    refine ⟨H, v, ?_, h, ⟨Nat.le_refl _, fun _ _ _ _ => rfl⟩, rfl⟩
    rw [A0_eq]
    rcases h.sl with ⟨rfl, hl⟩ | ⟨b, g, pre, post, rfl, _, _, _⟩
    · simp [-getElem?_pos, fn8B0, hR, Ext.row]
    · simp [-getElem?_pos, fn8B0, hR, Ext.row]
  | cons s l ih =>
    intro H v h
    have hR := h.at_
    have hlt : R < H.length := (List.getElem?_eq_some_iff.1 hR).1
    obtain ⟨t, o, n⟩ := s
    rcases h.sl with ⟨_, hl⟩ | ⟨b, gn, pre, post, rfl, hB, hpos, hpre, hpost⟩
    · cases hl
    dsimp only at hB hpos
    have hR : H[R]? = some { rows := [[.int .i64 w, .int .i64 now, .int .i64 last, .bool g, .arr b gn pre.length (l.length + 1) (l.length + 1 + post.length) false]] } := hR
    have hB : H[b]? = some { rows := pre ++ [.int .i64 t, .bool o, .int .i64 n] :: (l.map srow ++ post), gen := gn } := hB
    have hbR : b ≠ R := fun e => h.ne (by rw [e]; rfl)
    have hblt : b < H.length := (List.getElem?_eq_some_iff.1 hB).1
    have hsz : szOk 3 (pre ++ [.int .i64 t, .bool o, .int .i64 n] :: (l.map srow ++ post)) = true := szOk_all (all3 (l := (t, o, n) :: l) hpre hpost)
    have hgone := fun ro => gone_2 (ro := ro) (H := H) (R := R) (w := w) (now := now) (t := t) hR
    rw [hw] at hgone
    rw [A0_eq]
    by_cases hg : t ≤ now - w
    · have hat : ExtAt (H.set R { rows := [Ext.row ⟨w, now, last, g, l⟩ (.arr b gn (pre.length + 1) l.length (l.length + post.length) false)] }) R (.arr b gn (pre.length + 1) l.length (l.length + post.length) false) ⟨w, now, last, g, l⟩ := by
        refine ⟨?_, .inr ⟨b, gn, pre ++ [srow (t, o, n)], post, by simp, ?_, by simp; omega, ?_, hpost⟩, by simpa [blkV] using hbR⟩
        · rw [List.getElem?_set_self hlt]
        · rw [List.getElem?_set_ne (Ne.symm hbR), hB]
          simp [srow]
        · intro r hr
          rcases List.mem_append.1 hr with h1 | h1
          · exact hpre r h1
          · simp at h1; subst h1; rfl
      obtain ⟨H', v', ⟨e', hrun⟩, h1, h2, h3⟩ := ih _ _ hat
      refine ⟨H', v', ⟨e', ?_⟩, by simpa [strip, hg] using h1, ⟨?_, fun c hc hne _ => ?_⟩, h3⟩
      · have hbody : runW pg 0 fn8B0 [(0, .ptr R 0 0 0)] H = some (.nrm, [(0, .ptr R 0 0 0)], H.set R { rows := [Ext.row ⟨w, now, last, g, l⟩ (.arr b gn (pre.length + 1) l.length (l.length + post.length) false)] }) := by
          have e1 : l.length + 1 + post.length - 1 = l.length + post.length := by omega
          simp [-getElem?_pos, fn8B0, hR, hB, hsz, hgone, hg, hlt, hblt, hbR, Ne.symm hbR, List.getElem?_set, Ext.row, e1]
        simp [hbody, hrun]
      · have := h2.len; simp at this; omega
      · rw [h2.same c (by simp; omega) hne (by simp [blkV]), List.getElem?_set_ne (Ne.symm hne)]
    · refine ⟨H, _, ?_, by simpa [strip, hg] using h, ⟨Nat.le_refl _, fun _ _ _ _ => rfl⟩, rfl⟩
      simp [-getElem?_pos, fn8B0, hR, hB, hsz, hgone, hg]

structure ExtOk (r : Ext) : Prop where
  w1 : 1 ≤ r.w
  w2 : r.w ≤ 100
  n1 : 0 ≤ r.now
  n2 : r.now ≤ 1000000
  len : r.l.length ≤ 1000000

def Ext.adv (r : Ext) (n : Int) : Ext := ⟨r.w, max r.now (min n 1000000), r.last, r.g, strip (max r.now (min n 1000000) - r.w) r.l⟩

theorem adv_c {R : Nat} {v : IV} {r : Ext} {n : Int} (h : ExtAt H R v r) (ho : ExtOk r) :
    ∃ H' v', callW pg 0 8 [.ptr R 0 0 0, .int .i64 n] H = some (.tup [], H') ∧ ExtAt H' R v' (r.adv n) ∧ Keeps H H' R .nsl ∧ blkV v' = blkV v := by
  have hR := h.at_
  have hlt : R < H.length := (List.getElem?_eq_some_iff.1 hR).1
  have hm := moves_c (ro := 0) (n := n) (rest := [.bool r.g, v]) hR (Nat.zero_le _)
  have hat : ExtAt (H.set R { rows := [Ext.row ⟨r.w, max r.now (min n 1000000), r.last, r.g, r.l⟩ v] }) R v ⟨r.w, max r.now (min n 1000000), r.last, r.g, r.l⟩ := ⟨by rw [List.getElem?_set_self hlt], h.sl.set h.ne, h.ne⟩
  have hw : IntKind.i64.wrap (max r.now (min n 1000000) - r.w) = max r.now (min n 1000000) - r.w := by
    have := ho.w1; have := ho.w2; have := ho.n1; have := ho.n2
    rw [IntKind.wrap_i64]; omega
  obtain ⟨H', v', ⟨e', hrun⟩, h1, h2, h3⟩ := aloop hw r.l _ v hat
  refine ⟨H', v', ?_, h1, ⟨?_, fun b hb hne _ => ?_⟩, h3⟩
  · rw [callW_eqO (fn := fn8) rfl rfl]
    simp only [Ext.row] at hrun
    simp [-getElem?_pos, fn8, hm, hrun]
  · have := h2.len; simpa using this
  · rw [h2.same b (by simpa using hb) hne (by simp [blkV]), List.getElem?_set_ne (Ne.symm hne)]

end Go.Proofs.Ytddbpbkphimdkaa
