import Derived.Test.YtddbpbkphimdkaaText7
import Derived.Test.YtddbpbkphimdkaaText8
namespace Go.Proofs.Ytddbpbkphimdkaa
open Go Go.Vs
variable {ro : Nat} {H : Hp}

/-! the law 'ExtremePlays' -/
namespace Pl
open Both (Held held_ok held_key hn)

/-- The law's own window. -/
def M (v : IV) (l : List Smp) : Asn where
  p H F := Sl H v 3 (l.map srow) ∧ F = blkS v
  lt := by rintro H F ⟨h, rfl⟩; exact h.lt
  fr := by rintro H H' F ⟨h, rfl⟩ hf; exact ⟨h.fr hf, rfl⟩
theorem M_sl {v : IV} {l : List Smp} (h : Hold H (M v l)) : Sl H v 3 (l.map srow) := let ⟨_, h, _⟩ := h; h

def HeldAll (W : Win) : Prop := ∀ s ∈ W.l, Held s.2

theorem norm_held {x : Num} (h : Held x) : normN x = x := by
  unfold normN; rw [if_pos (held_ok h).1]
theorem vals_held {l : List Smp} (h : ∀ s ∈ l, Held s.2) : vals l = l.map (·.2) := by
  unfold vals; exact List.map_congr_left fun s hs => norm_held (h s hs)
theorem held_eq {x y : Num} (hx : Held x) (hy : Held y) (h : nkey x.1 x.2 = nkey y.1 y.2) : x = y := by
  rw [held_key hx, held_key hy] at h
  obtain ⟨xo, xn⟩ := x
  obtain ⟨yo, yn⟩ := y
  rcases hx with ⟨h1, h2⟩ | ⟨h1, h2, h3⟩ <;> rcases hy with ⟨h4, h5⟩ | ⟨h4, h5, h6⟩ <;> simp only at h1 h2 h4 h5 <;> subst h1 <;> subst h4
  · subst h2; subst h5; rfl
  · simp at h; omega
  · simp at h; omega
  · simp at h; subst h; rfl

def gk (g : Bool) (x : Num) : Int := if g then nkey x.1 x.2 else - nkey x.1 x.2
theorem bst_max {g : Bool} : ∀ (l : List Num) (b : Num), (∀ x ∈ b :: l, NumOk x.2) → bst g b l ∈ b :: l ∧ ∀ x ∈ b :: l, gk g x ≤ gk g (bst g b l)
  | [], b, _ => ⟨List.mem_cons_self .., fun x hx => by simp at hx; subst hx; exact Int.le_refl _⟩
  | x :: l, b, h => by
    have hx := h x (by simp)
    have hb := h b (by simp)
    have hc := cmp_key (o := x.1) (p := b.1) hx hb
    rw [bst]
    by_cases hcc : (decide (0 < cmpN x.1 x.2 b.1 b.2) && g || decide (cmpN x.1 x.2 b.1 b.2 < 0) && !g) = true
    · rw [if_pos hcc]
      obtain ⟨h1, h2⟩ := bst_max (g := g) l x fun y hy => h y (by rcases List.mem_cons.1 hy with rfl | hy <;> simp [*])
      refine ⟨List.mem_cons_of_mem _ h1, fun y hy => ?_⟩
      rcases List.mem_cons.1 hy with rfl | hy
      · have := h2 x (List.mem_cons_self ..)
        refine Int.le_trans ?_ this
        rw [hc] at hcc
        unfold gk
        cases g
        · simp at hcc ⊢; revert hcc; repeat' split
          all_goals omega
        · simp at hcc ⊢; revert hcc; repeat' split
          all_goals omega
      · exact h2 y hy
    · rw [if_neg hcc]
      obtain ⟨h1, h2⟩ := bst_max (g := g) l b fun y hy => h y (by rcases List.mem_cons.1 hy with rfl | hy <;> simp [*])
      refine ⟨by rcases List.mem_cons.1 h1 with h1 | h1 <;> simp [h1], fun y hy => ?_⟩
      rcases List.mem_cons.1 hy with rfl | hy
      · exact h2 y (List.mem_cons_self ..)
      rcases List.mem_cons.1 hy with rfl | hy
      · have := h2 b (List.mem_cons_self ..)
        refine Int.le_trans ?_ this
        rw [hc] at hcc
        unfold gk
        cases g
        · simp at hcc ⊢; revert hcc; repeat' split
          all_goals omega
        · simp at hcc ⊢; revert hcc; repeat' split
          all_goals omega
      · exact h2 y (List.mem_cons_of_mem _ hy)

theorem best_eq {g : Bool} {W : Win} (hW : WinOk W) (hh : HeldAll W) : (ext g W).best = ((extN g (vals W.l)).1.1, (extN g (vals W.l)).1.2, (extN g (vals W.l)).2) := by
  rw [vals_held hh]
  cases hl : W.l with
  | nil => simp [ext, Ext.best, hl, kq, extN]
  | cons s l =>
    obtain ⟨b, q, h1, h2, h3⟩ := kq_head (k := key g) (m := W.l) (by simp [hl])
    have hn : ∀ x ∈ s.2 :: l.map (·.2), NumOk x.2 := fun x hx => by
      have : x ∈ W.l.map (·.2) := by rw [hl]; simpa using hx
      obtain ⟨y, hy, rfl⟩ := List.mem_map.1 this
      exact hW.num y hy
    obtain ⟨m1, m2⟩ := bst_max (g := g) (l.map (·.2)) s.2 hn
    have hmem : ∃ y ∈ W.l, y.2 = bst g s.2 (l.map (·.2)) := by
      have : bst g s.2 (l.map (·.2)) ∈ W.l.map (·.2) := by rw [hl]; simpa using m1
      obtain ⟨y, hy, e⟩ := List.mem_map.1 this
      exact ⟨y, hy, e⟩
    obtain ⟨y, hy, ey⟩ := hmem
    have k1 : key g y ≤ key g b := h3 y hy
    have k2 : gk g b.2 ≤ gk g (bst g s.2 (l.map (·.2))) := m2 b.2 (by
      have : b.2 ∈ W.l.map (·.2) := List.mem_map.2 ⟨b, h2, rfl⟩
      rw [hl] at this; simpa using this)
    rw [← ey] at k2
    have k3 : gk g b.2 = key g b := rfl
    have k4 : gk g y.2 = key g y := rfl
    have e : b.2 = y.2 := held_eq (hh b h2) (hh y hy) (by
      unfold key at k1 k3 k4
      rw [k3, k4] at k2
      revert k1 k2; cases g <;> simp <;> omega)
    simp only [ext, Ext.best, h1, List.map_cons, extN, ← ey, norm_held (hh y hy), e]

theorem kept_eq {g : Bool} : ∀ {l : List Smp}, (∀ s ∈ l, NumOk s.2.2) → ((kq (key g) l).length : Int) = keptN g l
  | [], _ => rfl
  | s :: l, h => by
    have ih := kept_eq (g := g) (l := l) fun x hx => h x (List.mem_cons_of_mem _ hx)
    have e : l.any (fun x => pb g x.2.1 x.2.2 s) = l.any (fun x => decide (key g s ≤ key g x)) := by
      rw [Bool.eq_iff_iff, List.any_eq_true, List.any_eq_true]
      constructor
      · rintro ⟨x, hx, hp⟩
        exact ⟨x, hx, by rw [← beats_key (h x (List.mem_cons_of_mem _ hx)) (h s (List.mem_cons_self ..))]; exact hp⟩
      · rintro ⟨x, hx, hp⟩
        exact ⟨x, hx, by rw [beats_key (h x (List.mem_cons_of_mem _ hx)) (h s (List.mem_cons_self ..))]; exact hp⟩
    simp only [kq, keptN, e]
    split
    · omega
    · simp; omega

/-! what is told at the end of a round -/
theorem plain_srow {l : List Smp} : ∀ r ∈ l.map srow, ∀ x ∈ r, plainD 10 x = true := by
  intro r hr x hx
  obtain ⟨s, _, rfl⟩ := List.mem_map.1 hr
  simp [srow] at hx
  rcases hx with rfl | rfl | rfl <;> rfl
theorem plain_nrow {l : List Num} : ∀ r ∈ l.map nrow, ∀ x ∈ r, plainD 10 x = true := by
  intro r hr x hx
  obtain ⟨s, _, rfl⟩ := List.mem_map.1 hr
  simp [nrow] at hx
  rcases hx with rfl | rfl <;> rfl

def cl (x : Num) : Bk := { rows := [[.bool x.1, .int .i64 x.2]] }

theorem Stp.hold {H H' : Hp} {A : Asn} {F : List Nat} (h : Stp H H' [] F) (hA : Hold H A) : Hold H' A := by
  obtain ⟨G, hG⟩ := hA
  exact ⟨G, A.fr hG fun b hb => h.same b (A.lt hG b hb) (by simp)⟩

theorem tail_c {X Y : Nat} {m : IV} {W : Win} (hl : W.l.length ≤ 1000) (h : Hold H ((E X (ext true W)).star ((E Y (ext false W)).star (M m W.l)))) (c1 c2 : Num) {c3 : Num} (hc3 : c3 = (extN true (vals W.l)).1) :
    ∃ w1 H1 w2 H2, callW pg 0 13 [m] (H ++ [cl c1, cl c2]) = some (w1, H1) ∧ (∀ ro, doCall (callW pg) ro 2 (.fn 12 []) [w1, .bool true] H1 = some (.tup [.agg [.bool (extN true (vals W.l)).1.1, .int .i64 (extN true (vals W.l)).1.2], .bool (extN true (vals W.l)).2], H1)) ∧
      callW pg 0 13 [m] (H1 ++ [cl c3]) = some (w2, H2) ∧ (∀ ro, doCall (callW pg) ro 2 (.fn 12 []) [w2, .bool false] H2 = some (.tup [.agg [.bool (extN false (vals W.l)).1.1, .int .i64 (extN false (vals W.l)).1.2], .bool (extN false (vals W.l)).2], H2)) ∧
        H.length + 2 ≤ H1.length ∧ H1.length + 1 ≤ H2.length ∧ H2[H.length]? = some (cl c1) ∧ H2[H.length + 1]? = some (cl c2) ∧ H2[H1.length]? = some (cl c3) ∧ Hold H2 ((E X (ext true W)).star ((E Y (ext false W)).star (M m W.l))) := by
  have hv : ∀ {G : Hp}, Hold G ((E X (ext true W)).star ((E Y (ext false W)).star (M m W.l))) → ∃ w G', callW pg 0 13 [m] G = some (w, G') ∧ Sl G' w 2 ((vals W.l).map nrow) ∧ Stp G G' [] (blkS w) := fun hG => values_c (by omega) (Nat.zero_le _) (M_sl hG.snd.snd)
  obtain ⟨w1, H1, v1, s1, t1⟩ := hv (h.app [cl c1, cl c2])
  have h1 := Stp.hold t1 (h.app _)
  obtain ⟨w2, H2, v2, s2, t2⟩ := hv (h1.app [cl c3])
  have l1 := t1.len
  have l2 := t2.len
  simp at l1 l2
  refine ⟨w1, H1, w2, H2, v1, fun ro => ext_2 (s1.frzA plain_nrow) (by simp [vals]; omega), v2, fun ro => ext_2 (s2.frzA plain_nrow) (by simp [vals]; omega), by omega, by omega, ?_, ?_, ?_, Stp.hold t2 (h1.app _)⟩
  · rw [t2.same _ (by simp; omega) (by simp), List.getElem?_append_left (by omega), t1.same _ (by simp) (by simp)]; simp
  · rw [t2.same _ (by simp; omega) (by simp), List.getElem?_append_left (by omega), t1.same _ (by simp) (by simp)]; simp
  · rw [t2.same _ (by simp) (by simp)]; simp

/-- A step of the row: whether it is time, its time, its value. -/
abbrev Step := Bool × Int × Bool × Int
def strow (s : Step) : List IV := [.bool s.1, .int .i64 s.2.1, .bool s.2.2.1, .int .i64 s.2.2.2]
def Win.step (W : Win) (s : Step) : Win := if s.1 = true then W.adv s.2.1 else W.add s.2

theorem L0_eq {e : Env} : runW pg 0 fn3L0 e H = seqO pg 0 fn3L0 (runW pg 0 fn3B0 (keepE [1, 5, 6, 7, 8, 9, 10, 11] e) H) := runW_loopO

/-- The law's window as time goes on. -/
theorem mloop {A p q : IV} {i : Nat} {w now last : Int} (hw : IntKind.i64.wrap (now - w) = now - w) : ∀ (l : List Smp) (m : IV), Sl H m 3 (l.map srow) →
    ∃ e' m', get e' 1 = A ∧ get e' 5 = p ∧ get e' 6 = q ∧ get e' 7 = .int .i64 w ∧ get e' 8 = .int .i64 now ∧ get e' 9 = .int .i64 last ∧ get e' 10 = m' ∧ get e' 11 = .int .i64 i ∧
      runW pg 0 fn3L0 [(1, A), (5, p), (6, q), (7, .int .i64 w), (8, .int .i64 now), (9, .int .i64 last), (10, m), (11, .int .i64 i)] H = some (.exit 2, e', H) ∧
      Sl H m' 3 ((strip (now - w) l).map srow) ∧ blkS m' = blkS m
  | [], m, h => by
    have hlen := h.len
    refine ⟨[(1, A), (5, p), (6, q), (7, .int .i64 w), (8, .int .i64 now), (9, .int .i64 last), (10, m), (11, .int .i64 i), (90, .bool false)], m, rfl, rfl, rfl, rfl, rfl, rfl, rfl, rfl, ?_, h, rfl⟩
    simp at hlen
    rw [L0_eq]; simp [fn3B0, hlen]
  | s :: l, m, h => by
    have hlen := h.len
    obtain ⟨t, o, n⟩ := s
    obtain ⟨b, B, j, hb, hidx, hB, hfz, hrow⟩ := h.idx (i := 0) (row := [.int .i64 t, .bool o, .int .i64 n]) rfl
    simp at hlen hidx
    have h0 : (0 : Int) < (l.length : Int) + 1 := by omega
    by_cases hg : t ≤ now - w
    · obtain ⟨m1, hs1, hm1, hb1⟩ := Sl.tail (r := srow (t, o, n)) (rows := l.map srow) (by simpa using h)
      obtain ⟨e', m', g1, g5, g6, g7, g8, g9, g10, g11, hrun, hsl, hbl⟩ := mloop (A := A) (p := p) (q := q) (i := i) (last := last) hw l m1 hm1
      refine ⟨e', m', g1, g5, g6, g7, g8, g9, g10, g11, ?_, by rw [strip, if_pos hg]; exact hsl, by rw [hbl, hb1]⟩
      rw [L0_eq]
      simp [-getElem?_pos, fn3B0, hlen, h0, hidx, hB, hrow, hw, hg, hs1, hrun]
    · refine ⟨[(1, A), (5, p), (6, q), (7, .int .i64 w), (8, .int .i64 now), (9, .int .i64 last), (10, m), (11, .int .i64 i), (90, .bool false)], m, rfl, rfl, rfl, rfl, rfl, rfl, rfl, rfl, ?_, by rw [strip, if_neg hg]; exact h, rfl⟩
      rw [L0_eq]
      simp [-getElem?_pos, fn3B0, hlen, h0, hidx, hB, hrow, hw, hg]

/-- All that is asked at the end of a round. -/
structure Asked (X Y : Nat) (m : IV) (W : Win) (H : Hp) (co : Bool) (cn : Int) (cb : Bool) (eo : Bool) (en : Int) (eb : Bool) (w1 : IV) (H1 : Hp) (w2 : IV) (H2 : Hp) (K1 K2 : Int) : Prop where
  g1 : ∀ ro, doCall (callW pg) ro 2 (.fn 11 []) [.ptr X 0 0 0] H = some (.tup [.agg [.bool co, .int .i64 cn], .bool cb], H)
  g2 : ∀ ro, doCall (callW pg) ro 2 (.fn 11 []) [.ptr Y 0 0 0] (H ++ [{ rows := [[.bool co, .int .i64 cn]] }]) = some (.tup [.agg [.bool eo, .int .i64 en], .bool eb], H ++ [{ rows := [[.bool co, .int .i64 cn]] }])
  v1 : callW pg 0 13 [m] (H ++ [{ rows := [[.bool co, .int .i64 cn]] }, { rows := [[.bool eo, .int .i64 en]] }]) = some (w1, H1)
  x1 : ∀ ro, doCall (callW pg) ro 2 (.fn 12 []) [w1, .bool true] H1 = some (.tup [.agg [.bool co, .int .i64 cn], .bool cb], H1)
  v2 : callW pg 0 13 [m] (H1 ++ [{ rows := [[.bool co, .int .i64 cn]] }]) = some (w2, H2)
  x2 : ∀ ro, doCall (callW pg) ro 2 (.fn 12 []) [w2, .bool false] H2 = some (.tup [.agg [.bool eo, .int .i64 en], .bool eb], H2)
  z1 : H2[H.length]? = some { rows := [[.bool co, .int .i64 cn]] }
  z2 : H2[H.length + 1]? = some { rows := [[.bool eo, .int .i64 en]] }
  z3 : H2[H1.length]? = some { rows := [[.bool co, .int .i64 cn]] }
  l1 : H.length < H2.length
  l2 : H.length + 1 < H2.length
  l3 : H1.length < H2.length
  k1 : ∀ ro Z, doCall (callW pg) ro 2 (.fn 14 []) [.ptr X 0 0 0] (H2 ++ Z) = some (.int .i64 K1, H2 ++ Z)
  k2 : ∀ ro Z, doCall (callW pg) ro 2 (.fn 14 []) [.ptr Y 0 0 0] (H2 ++ Z) = some (.int .i64 K2, H2 ++ Z)
  km1 : ∀ ro Z, doCall (callW pg) ro 2 (.fn 15 []) [m, .bool true] (H2 ++ Z) = some (.int .i64 K1, H2 ++ Z)
  km2 : ∀ ro Z, doCall (callW pg) ro 2 (.fn 15 []) [m, .bool false] (H2 ++ Z) = some (.int .i64 K2, H2 ++ Z)
  hold : Hold H2 ((E X (ext true W)).star ((E Y (ext false W)).star (M m W.l)))

theorem asked {X Y : Nat} {m : IV} {W : Win} (hW : WinOk W) (hh : HeldAll W) (hl : W.l.length ≤ 1000) (h : Hold H ((E X (ext true W)).star ((E Y (ext false W)).star (M m W.l)))) : ∃ co cn cb eo en eb w1 H1 w2 H2 K1 K2, Asked X Y m W H co cn cb eo en eb w1 H1 w2 H2 K1 K2 := by
  have b1 := best_eq (g := true) hW hh
  have b2 := best_eq (g := false) hW hh
  obtain ⟨w1, H1, w2, H2, v1, x1, v2, x2, l1, l2, z1, z2, z3, h2⟩ := tail_c hl h (extN true (vals W.l)).1 (extN false (vals W.l)).1 rfl
  refine ⟨_, _, _, _, _, _, w1, H1, w2, H2, keptN true W.l, keptN false W.l, ⟨fun ro => ?_, fun ro => ?_, v1, x1, v2, x2, z1, z2, z3, by omega, by omega, by omega, fun ro Z => ?_, fun ro Z => ?_, fun ro Z => ?_, fun ro Z => ?_, h2⟩⟩
  · have := get_h (ro := ro) h.fst; rw [b1] at this; exact this
  · have := get_h (ro := ro) (h.snd.fst.app [{ rows := [[.bool (extN true (vals W.l)).1.1, .int .i64 (extN true (vals W.l)).1.2]] }]); rw [b2] at this; exact this
  · have := kept_h (ro := ro) (h2.fst.app Z); simp only [ext] at this; rw [kept_eq hW.num] at this; exact this
  · have := kept_h (ro := ro) (h2.snd.fst.app Z); simp only [ext] at this; rw [kept_eq hW.num] at this; exact this
  · exact keptm_2 (((M_sl h2.snd.snd).app Z).frzA plain_srow) (by omega)
  · exact keptm_2 (((M_sl h2.snd.snd).app Z).frzA plain_srow) (by omega)

theorem L1_eq {e : Env} : runW pg 0 fn3L1 e H = seqO pg 0 fn3L1 (runW pg 0 fn3B1 (keepE [1, 5, 6, 7, 8, 9, 10, 11] e) H) := runW_loopO

theorem adv_held {W : Win} {n : Int} (h : HeldAll W) : HeldAll (W.adv n) := fun s hs => h s (strip_sub hs)
theorem add_held {W : Win} {s : Smp} (h : HeldAll W) (hs : NumOk s.2.2) : HeldAll (W.add s) := by
  unfold Win.add
  split
  · intro x hx
    rcases List.mem_append.1 hx with hx | hx
    · exact h x hx
    · simp at hx; subst hx
      have : (heldS s).2 = hn s.2 := by unfold heldS hn; split <;> rfl
      rw [this]; exact Both.hn_held hs
  · exact h

theorem time {A : IV} {l : List Step} (hA : SlA A 4 (l.map strow)) {X Y i : Nat} {m : IV} {W : Win} {t n : Int} {o : Bool} (hs : l[i]? = some (true, t, o, n)) (hi : l.length ≤ 120) (hW : WinOk W) (hh : HeldAll W) (hl : W.l.length ≤ i)
    (h : Hold H ((E X (ext true W)).star ((E Y (ext false W)).star (M m W.l)))) :
    ∃ H' m', Hold H' ((E X (ext true (W.adv t))).star ((E Y (ext false (W.adv t))).star (M m' (W.adv t).l))) ∧
      runW pg 0 fn3B1 [(1, A), (5, .ptr X 0 0 0), (6, .ptr Y 0 0 0), (7, .int .i64 W.w), (8, .int .i64 W.now), (9, .int .i64 W.last), (10, m), (11, .int .i64 i)] H =
        some (.nrm, [(1, A), (5, .ptr X 0 0 0), (6, .ptr Y 0 0 0), (7, .int .i64 (W.adv t).w), (8, .int .i64 (W.adv t).now), (9, .int .i64 (W.adv t).last), (10, m'), (11, .int .i64 ((i : Int) + 1))], H') := by
  have hil : i < l.length := (List.getElem?_eq_some_iff.1 hs).1
  have hlen := hA.len
  rw [List.length_map] at hlen
  have hlt : (i : Int) < l.length := by omega
  have hidx := fun H => hA.idx H i (by simp; omega)
  have hrow : (l.map strow)[i]? = some [.bool true, .int .i64 t, .bool o, .int .i64 n] := by rw [List.getElem?_map, hs]; rfl
  have w1 : IntKind.i64.wrap ((i : Int) + 1) = i + 1 := by rw [IntKind.wrap_i64]; omega
  have okx : ∀ g, ExtOk (ext g W) := fun g => ext_ok hW (by omega)
  have ea : ∀ g, (ext g W).adv t = ext g (W.adv t) := fun g => ext_adv hW
  obtain ⟨Ha, c1, h1⟩ := (adv_t (n := t) (okx true)).frame.use0 (h.app [{ rows := [[.int .i64 t, .bool o, .int .i64 n]] }])
  rw [ea] at h1
  obtain ⟨Hb, c2, h2⟩ := (adv_t (n := t) (okx false)).frame.use0 h1.rot
  rw [ea] at h2
  have h2 := h2.rot.rot
  have hWa := win_adv (n := t) hW
  have hw : IntKind.i64.wrap ((W.adv t).now - (W.adv t).w) = (W.adv t).now - (W.adv t).w := by
    have := hWa.w1; have := hWa.w2; have := hWa.n1; have := hWa.n2
    rw [IntKind.wrap_i64]; omega
  obtain ⟨e', m', q1, q5, q6, q7, q8, q9, q10, q11, hrun, hsl, hbl⟩ := mloop (A := A) (p := .ptr X 0 0 0) (q := .ptr Y 0 0 0) (i := i) (last := W.last) hw W.l m (M_sl h2.snd.snd)
  have h3 : Hold Hb ((E X (ext true (W.adv t))).star ((E Y (ext false (W.adv t))).star (M m' (W.adv t).l))) := h2.imp_r2 fun {F} hF => ⟨hsl, by rw [hbl]; exact hF.2⟩
  obtain ⟨co, cn, cb, eo, en, eb, w1', H1, w2, H2, K1, K2, a⟩ := asked hWa (adv_held hh) (by have := strip_len (c := (W.adv t).now - (W.adv t).w) (l := W.l); simp only [Win.adv] at *; omega) h3
  obtain ⟨g1, g2, v1, x1, v2, x2, z1, z2, z3, l1, l2, l3, k1, k2, km1, km2, hold⟩ := a
  refine ⟨_, m', hold.app [{ rows := [[.bool eo, .int .i64 en]] }], ?_⟩
  simp only [Win.adv] at q7 q8 hrun
  simp [-getElem?_pos, fn3B1, hlen, hlt, hidx, hrow, c1, c2, hrun, q1, q5, q6, q7, q8, q9, q10, q11, g1, g2, v1, x1, v2, x2, z1, z2, z3, l1, l2, l3, List.getElem?_append_left, k1, k2, km1, km2, w1, Win.adv]

theorem no {A : IV} {l : List Step} (hA : SlA A 4 (l.map strow)) {X Y i : Nat} {m : IV} {W : Win} {t n : Int} {o : Bool} (hs : l[i]? = some (false, t, o, n)) (hi : l.length ≤ 120) (hW : WinOk W) (hh : HeldAll W) (hl : W.l.length ≤ i)
    (h : Hold H ((E X (ext true W)).star ((E Y (ext false W)).star (M m W.l)))) (ht : takes W.w W.now W.last t ≠ 0) :
    ∃ H', Hold H' ((E X (ext true W)).star ((E Y (ext false W)).star (M m W.l))) ∧
      runW pg 0 fn3B1 [(1, A), (5, .ptr X 0 0 0), (6, .ptr Y 0 0 0), (7, .int .i64 W.w), (8, .int .i64 W.now), (9, .int .i64 W.last), (10, m), (11, .int .i64 i)] H =
        some (.nrm, [(1, A), (5, .ptr X 0 0 0), (6, .ptr Y 0 0 0), (7, .int .i64 W.w), (8, .int .i64 W.now), (9, .int .i64 W.last), (10, m), (11, .int .i64 ((i : Int) + 1))], H') := by
  have hil : i < l.length := (List.getElem?_eq_some_iff.1 hs).1
  have hlen := hA.len
  rw [List.length_map] at hlen
  have hlt : (i : Int) < l.length := by omega
  have hidx := fun H => hA.idx H i (by simp; omega)
  have hrow : (l.map strow)[i]? = some [.bool false, .int .i64 t, .bool o, .int .i64 n] := by rw [List.getElem?_map, hs]; rfl
  have w1 : IntKind.i64.wrap ((i : Int) + 1) = i + 1 := by rw [IntKind.wrap_i64]; omega
  have okx : ∀ g, ExtOk (ext g W) := fun g => ext_ok hW (by omega)
  have et : ∀ g, takes (ext g W).w (ext g W).now (ext g W).last t = takes W.w W.now W.last t := fun g => rfl
  have ea : ∀ g, (ext g W).add (t, o, n) = ext g W := fun g => by unfold Ext.add; rw [if_neg (by rw [et]; exact ht)]
  have h0 := ((Hold.newCell (B := { rows := [[.int .i64 t, .bool o, .int .i64 n]] }) h).assoc.imp_r Asn.assoc)
  obtain ⟨Ha, c1, h1⟩ := (add_t (t := t) (o := o) (n := n) (okx true)).frame.use0 h0
  rw [ea] at h1
  rw [et] at c1
  have k1' := h1.snd.snd.snd.cell
  obtain ⟨Hb, c2, h2⟩ := (add_t (t := t) (o := o) (n := n) (okx false)).frame.use0 h1.rot4
  rw [ea] at h2
  rw [et] at c2
  have h3 := h2.rot4.rot4.snd
  obtain ⟨co, cn, cb, eo, en, eb, w1', H1, w2, H2, K1, K2, a⟩ := asked hW hh (by omega) h3
  obtain ⟨g1, g2, v1, x1, v2, x2, z1, z2, z3, l1, l2, l3, k1, k2, km1, km2, hold⟩ := a
  refine ⟨_, hold.app [{ rows := [[.bool eo, .int .i64 en]] }], ?_⟩
  unfold takes at ht c1 c2
  by_cases d1 : t < 0
  · simp only [d1, true_or, if_true] at c1 c2
    simp [-getElem?_pos, fn3B1, hlen, hlt, hidx, hrow, d1, c1, k1', c2, g1, g2, v1, x1, v2, x2, z1, z2, z3, l1, l2, l3, List.getElem?_append_left, k1, k2, km1, km2, w1]
  by_cases d2 : W.now < t
  · simp only [d1, d2, true_or, false_or, if_true] at c1 c2
    simp [-getElem?_pos, fn3B1, hlen, hlt, hidx, hrow, d1, d2, c1, k1', c2, g1, g2, v1, x1, v2, x2, z1, z2, z3, l1, l2, l3, List.getElem?_append_left, k1, k2, km1, km2, w1]
  by_cases d3 : t ≤ IntKind.i64.wrap (W.now - W.w)
  · simp only [d1, d2, d3, false_or, if_true] at c1 c2
    simp [-getElem?_pos, fn3B1, hlen, hlt, hidx, hrow, d1, d2, d3, c1, k1', c2, g1, g2, v1, x1, v2, x2, z1, z2, z3, l1, l2, l3, List.getElem?_append_left, k1, k2, km1, km2, w1]
  by_cases d4 : t ≤ W.last
  · simp only [d1, d2, d3, d4, or_self, if_true, if_false] at c1 c2
    simp [-getElem?_pos, fn3B1, hlen, hlt, hidx, hrow, d1, d2, d3, d4, c1, k1', c2, g1, g2, v1, x1, v2, x2, z1, z2, z3, l1, l2, l3, List.getElem?_append_left, k1, k2, km1, km2, w1]
  · simp [d1, d2, d3, d4] at ht

theorem yes {A : IV} {l : List Step} (hA : SlA A 4 (l.map strow)) {X Y i : Nat} {m : IV} {W : Win} {t n : Int} {o : Bool} (hs : l[i]? = some (false, t, o, n)) (hi : l.length ≤ 120) (hW : WinOk W) (hh : HeldAll W) (hl : W.l.length ≤ i) (hn : NumOk n)
    (h : Hold H ((E X (ext true W)).star ((E Y (ext false W)).star (M m W.l)))) (ht : takes W.w W.now W.last t = 0) :
    ∃ H' m', Hold H' ((E X (ext true (W.add (t, o, n)))).star ((E Y (ext false (W.add (t, o, n)))).star (M m' (W.add (t, o, n)).l))) ∧
      runW pg 0 fn3B1 [(1, A), (5, .ptr X 0 0 0), (6, .ptr Y 0 0 0), (7, .int .i64 W.w), (8, .int .i64 W.now), (9, .int .i64 W.last), (10, m), (11, .int .i64 i)] H =
        some (.nrm, [(1, A), (5, .ptr X 0 0 0), (6, .ptr Y 0 0 0), (7, .int .i64 W.w), (8, .int .i64 W.now), (9, .int .i64 t), (10, m'), (11, .int .i64 ((i : Int) + 1))], H') := by
  have hil : i < l.length := (List.getElem?_eq_some_iff.1 hs).1
  have hlen := hA.len
  rw [List.length_map] at hlen
  have hlt : (i : Int) < l.length := by omega
  have hidx := fun H => hA.idx H i (by simp; omega)
  have hrow : (l.map strow)[i]? = some [.bool false, .int .i64 t, .bool o, .int .i64 n] := by rw [List.getElem?_map, hs]; rfl
  have w1 : IntKind.i64.wrap ((i : Int) + 1) = i + 1 := by rw [IntKind.wrap_i64]; omega
  have okx : ∀ g, ExtOk (ext g W) := fun g => ext_ok hW (by omega)
  have et : ∀ g, takes (ext g W).w (ext g W).now (ext g W).last t = takes W.w W.now W.last t := fun g => rfl
  have ea : ∀ g, (ext g W).add (t, o, n) = ext g (W.add (t, o, n)) := fun g => ext_add hW hn
  have eheld : heldS (t, o, n) = (t, normN (o, n)) := by unfold heldS normN; dsimp only; split <;> rfl
  have hwl : (W.add (t, o, n)).l = W.l ++ [(t, normN (o, n))] := by simp [Win.add, ht, eheld]
  -- the law's own window
  have hm := M_sl (h.app [{ rows := [[.int .i64 t, .bool o, .int .i64 n]] }]).snd.snd
  obtain ⟨m1, hclip, happ⟩ := hm.clip (r := srow (t, normN (o, n))) (bytes := 24) rfl (by rw [List.length_map]; unfold room; omega)
  have hmlen := hm.len
  rw [List.length_map] at hclip hmlen
  obtain ⟨m2, happ, em2, hm2⟩ := happ [{ rows := [srow (t, normN (o, n))] }] (.arr (H.length + 1) 0 0 1 1 true) (by simp) 0
  have hM2 : Hold (H ++ [{ rows := [[.int .i64 t, .bool o, .int .i64 n]] }] ++ [{ rows := [srow (t, normN (o, n))] }] ++ [{ rows := W.l.map srow ++ [srow (t, normN (o, n))] }])
      ((E X (ext true W)).star ((E Y (ext false W)).star ((cell H.length { rows := [[.int .i64 t, .bool o, .int .i64 n]] }).star (M m2 (W.add (t, o, n)).l)))) := by
    have a1 := (Hold.newCell (B := { rows := [[.int .i64 t, .bool o, .int .i64 n]] }) (h.rot.rot.snd)).app [{ rows := [srow (t, normN (o, n))] }]
    have a2 := a1.new (Y := [{ rows := W.l.map srow ++ [srow (t, normN (o, n))] }]) (B := M m2 (W.add (t, o, n)).l) ⟨blkS m2, ⟨by rw [hwl, List.map_append]; exact hm2, rfl⟩, fun b hb => by rw [em2] at hb; simp [blkS] at hb; simp; omega⟩
    exact a2.assoc.assoc
  obtain ⟨Ha, c1, h1⟩ := (add_t (t := t) (o := o) (n := n) (okx true)).frame.use0 hM2
  rw [ea] at h1
  rw [et, ht] at c1
  have k1' := h1.snd.snd.fst.cell
  obtain ⟨Hb, c2, h2⟩ := (add_t (t := t) (o := o) (n := n) (okx false)).frame.use0 h1.rot4
  rw [ea] at h2
  rw [et, ht] at c2
  have h3 := h2.rot4.snd.rot
  have hWa := win_add (s := (t, o, n)) hW hn
  obtain ⟨co, cn, cb, eo, en, eb, w1', H1, w2, H2, K1, K2, a⟩ := asked hWa (add_held hh hn) (by rw [hwl]; simp; omega) h3
  obtain ⟨g1, g2, v1, x1, v2, x2, z1, z2, z3, l1, l2, l3, k1, k2, km1, km2, hold⟩ := a
  refine ⟨_, m2, hold.app [{ rows := [[.bool eo, .int .i64 en]] }], ?_⟩
  have hd : ¬ t < 0 ∧ ¬ W.now < t ∧ ¬ t ≤ IntKind.i64.wrap (W.now - W.w) ∧ ¬ t ≤ W.last := by
    unfold takes at ht
    split at ht
    · cases ht
    · split at ht
      · cases ht
      · rename_i h1 h2; exact ⟨by omega, by omega, by omega, h2⟩
  obtain ⟨d1, d2, d3, d4⟩ := hd
  simp only [srow, List.append_assoc, List.cons_append, List.nil_append] at happ c1
  simp [-getElem?_pos, fn3B1, hlen, hlt, hidx, hrow, d1, d2, d3, d4, hmlen, hclip, norm_2, happ, c1, k1', c2, g1, g2, v1, x1, v2, x2, z1, z2, z3, l1, l2, l3, List.getElem?_append_left, k1, k2, km1, km2, w1]

def Given (l : List Step) : Prop := ∀ s ∈ l, NumOk s.2.2.2

theorem outer {A : IV} {l : List Step} (hA : SlA A 4 (l.map strow)) (hG : Given l) (hl : l.length ≤ 120) {X Y : Nat} : ∀ (d i : Nat) (H : Hp) (W : Win) (m : IV), i + d = l.length → WinOk W → HeldAll W → W.l.length ≤ i →
    Hold H ((E X (ext true W)).star ((E Y (ext false W)).star (M m W.l))) →
    ∃ e' H', runW pg 0 fn3L1 [(1, A), (5, .ptr X 0 0 0), (6, .ptr Y 0 0 0), (7, .int .i64 W.w), (8, .int .i64 W.now), (9, .int .i64 W.last), (10, m), (11, .int .i64 i)] H = some (.exit 0, e', H')
  | 0, i, H, W, m, hd, _, _, _, h => by
    have hlen := hA.len
    rw [List.length_map] at hlen
    have hf : ¬ ((i : Int) < l.length) := by omega
    refine ⟨[(1, A), (5, .ptr X 0 0 0), (6, .ptr Y 0 0 0), (7, .int .i64 W.w), (8, .int .i64 W.now), (9, .int .i64 W.last), (10, m), (11, .int .i64 i), (37, .bool false)], H, ?_⟩
    rw [L1_eq]; simp [fn3B1, hlen, hf]
  | d + 1, i, H, W, m, hd, hW, hh, hwl, h => by
    obtain ⟨s, hs⟩ : ∃ s, l[i]? = some s := ⟨_, List.getElem?_eq_getElem (by omega)⟩
    obtain ⟨b, t, o, n⟩ := s
    have hn : NumOk n := hG _ (List.mem_of_getElem? hs)
    cases b with
    | true =>
      obtain ⟨H1, m1, h1, hb⟩ := time hA hs hl hW hh hwl h
      obtain ⟨e', H2, hr⟩ := outer hA hG hl d (i + 1) H1 (W.adv t) m1 (by omega) (win_adv hW) (adv_held hh) (by have := strip_len (c := (W.adv t).now - (W.adv t).w) (l := W.l); simp only [Win.adv] at *; omega) h1
      push_cast at hr
      refine ⟨e', H2, ?_⟩
      rw [L1_eq]
      simp [hb, hr]
    | false =>
      by_cases ht : takes W.w W.now W.last t = 0
      · obtain ⟨H1, m1, h1, hb⟩ := yes hA hs hl hW hh hwl hn h ht
        have e1 : W.add (t, o, n) = ⟨W.w, W.now, t, W.l ++ [heldS (t, o, n)]⟩ := by simp [Win.add, ht]
        obtain ⟨e', H2, hr⟩ := outer hA hG hl d (i + 1) H1 (W.add (t, o, n)) m1 (by omega) (win_add hW hn) (add_held hh hn) (by rw [e1]; simp; omega) h1
        push_cast at hr
        simp only [e1] at hr
        refine ⟨e', H2, ?_⟩
        rw [L1_eq]
        simp [hb, hr]
      · obtain ⟨H1, h1, hb⟩ := no hA hs hl hW hh hwl h ht
        obtain ⟨e', H2, hr⟩ := outer hA hG hl d (i + 1) H1 W m (by omega) hW hh (by omega) h1
        push_cast at hr
        refine ⟨e', H2, ?_⟩
        rw [L1_eq]
        simp [hb, hr]

theorem new_hold {g : Bool} {k : Int} : ∃ F, (E H.length (ext g ⟨k, 0, -1, []⟩)).p (H ++ [{ rows := [Ext.row ⟨k, 0, -1, g, []⟩ .nsl] }]) F ∧ ∀ b ∈ F, H.length ≤ b := by
  refine ⟨_, ⟨.nsl, ⟨?_, .inl ⟨rfl, ?_⟩, by simp [blkV]⟩, rfl⟩, ?_⟩
  · simp [ext, kq]
  · simp [ext, kq]
  · simp [blkV]

theorem law {A : IV} {l : List Step} (hA : SlA A 4 (l.map strow)) (hG : Given l) {w : Int} : ∃ H', callW pg 0 3 [.int .i64 w, A] [] = some (.bool true, H') := by
  obtain ⟨Hk, hkn⟩ := known_c
  have hk2 : doCall (callW pg) 0 2 (.fn 6 []) [] [] = some (.bool true, []) := call2p hkn rfl rfl
  have hlen := hA.len
  rw [List.length_map] at hlen
  rw [callW_eqO (fn := fn3) rfl rfl]
  by_cases hl : (120 : Int) < l.length
  · refine ⟨[], ?_⟩
    simp [-getElem?_pos, fn3, hk2, hlen, hl]
  have new1 := new_c (ro := 0) (H := []) (n := w) (g := true) (Nat.le_refl _)
  have new2 := new_c (ro := 0) (H := [{ rows := [Ext.row ⟨min (max w 1) 100, 0, -1, true, []⟩ .nsl] }]) (n := w) (g := false) (by simp)
  have hat : Hold ([{ rows := [Ext.row ⟨min (max w 1) 100, 0, -1, true, []⟩ .nsl] }, { rows := [Ext.row ⟨min (max w 1) 100, 0, -1, false, []⟩ .nsl] }] : Hp) ((E 0 (ext true ⟨min (max w 1) 100, 0, -1, []⟩)).star ((E 1 (ext false ⟨min (max w 1) 100, 0, -1, []⟩)).star (M .nsl []))) := by
    have a1 : Hold ([] ++ [{ rows := [Ext.row ⟨min (max w 1) 100, 0, -1, true, []⟩ .nsl] }]) (E 0 (ext true ⟨min (max w 1) 100, 0, -1, []⟩)) := let ⟨F, h, _⟩ := new_hold (H := []) (g := true) (k := min (max w 1) 100); ⟨F, h⟩
    have a2 := a1.new (new_hold (g := false) (k := min (max w 1) 100))
    have a3 := a2.new (Y := []) (B := M .nsl []) ⟨[], ⟨Sl.nil, rfl⟩, by simp⟩
    have a4 := a3.assoc
    simpa using a4
  have hW : WinOk ⟨min (max w 1) 100, 0, -1, []⟩ := ⟨by simp; omega, by simp; omega, by simp, by simp, trivial, by simp, by simp⟩
  obtain ⟨e', H', hr⟩ := outer hA hG (by omega) (X := 0) (Y := 1) l.length 0 _ _ .nsl (by omega) hW (by intro s hs; simp at hs) (by simp) hat
  have e1 : min (max w 1) 100 = max 1 (min w 100) := by omega
  refine ⟨H', ?_⟩
  simp only [Ext.row, e1] at new1 new2 hr
  simp at new1 new2 hr
  simp [-getElem?_pos, fn3, hk2, hlen, hl, new1, new2, hr]

abbrev TL : Ty := .sl (.pair .bool (.pair (.int .i64) (.pair .bool (.int .i64))))
theorem wf (x0 : (Ty.int .i64).den) (x1 : TL.den) (ok0 : (Ty.int .i64).ok x0) (ok1 : TL.ok x1) : ∃ H', callW pg 0 3 [(Ty.int .i64).arg x0, TL.arg x1] [] = some (.bool true, H') := by
  obtain ⟨l, hA, hl⟩ := sl_arg (e := .pair .bool (.pair (.int .i64) (.pair .bool (.int .i64)))) x1
  have e : l.map (Ty.pair .bool (.pair (.int .i64) (.pair .bool (.int .i64)))).enc = l.map strow := rfl
  rw [e] at hA
  have hG : Given l := by
    rcases hl with ⟨_, rfl⟩ | h
    · intro x hx; cases hx
    · intro x hx
      exact wf_i64 _ ((ok1 l h).2 x hx).2.2.2
  exact law hA hG

end Pl
end Go.Proofs.Ytddbpbkphimdkaa
