/- The document's queue and sender. -/
import Derived.Test.YtemjonhhcadbbaaTsnd7
namespace Go.Proofs.Ytemjonhhcadbbaa
open Go Go.Vs
variable {ro : Nat} {H : Hp}

/-- A copy of rows: append([]E(nil), s...). -/
theorem Sq.copy {v : IV} {sz bytes : Nat} {rows : List (List IV)} (h : Sq H v sz rows) (hm : rows.length * bytes ≤ room) :
    ∃ v' Y, appV ro H sz bytes .nsl v = some (v', H ++ Y) ∧ Sl (H ++ Y) v' sz rows ∧ ∀ b ∈ blkS v', H.length ≤ b := by
  have hr := h.rowsOf
  have hw := szOk_all h.wid
  by_cases h0 : rows = []
  · subst h0
    exact ⟨.nsl, [], by simp [appV, hr], Sl.nil, by simp [blkS]⟩
  · have hp : 0 < rows.length := List.length_pos_iff.2 h0
    refine ⟨.arr H.length 0 0 rows.length rows.length false, [{ rows := rows }], ?_, .inr ⟨H.length, 0, [], [], by simp, by simp, by simpa using hp, by simpa using h.wid⟩, by simp [blkS]⟩
    simp [appV, hr, hw, h0, newArr, hm]

theorem refSort_nil : doCall (callW pg) ro 2 (.fn 35 []) [.nsl] H = some (.nsl, H) := by
  have h : callW pg H.length 35 [.nsl] H = some (.nsl, H) := by
    have L : ∀ e, runW pg H.length fn35L1 e H = seqO pg H.length fn35L1 (runW pg H.length fn35B1 (keepE [0, 3, 4] e) H) := fun e => runW_loopO
    rw [callW_eqO (fn := fn35) rfl rfl]
    simp [-getElem?_pos, fn35, L, fn35B1]
  exact call2p h rfl rfl

structure RAt (H : Hp) (P : Nat) (vl vd : IV) (nd : Int) (q : Que) : Prop where
  at_ : H[P]? = some { rows := [[vl, .int .i64 (q.next - 1), vd, .int .i64 nd]] }
  sl : Sq H vl 4 (q.l.map brow)
  sd : ∃ dr, Sl H vd 1 dr ∧ dr.length ≤ q.dr.length
  ne : P ∉ blkS vl
  ned : P ∉ blkS vd
  ap : ∀ b ∈ blkS vd, b ∉ blkS vl

def RQO (P : Nat) (q : Que) : Asn where
  p H F := ∃ vl vd nd, RAt H P vl vd nd q ∧ F = P :: (blkS vd ++ blkS vl)
  lt := by
    rintro H F ⟨vl, vd, nd, h, rfl⟩ b hb
    obtain ⟨dr, hd, _⟩ := h.sd
    simp only [List.mem_cons, List.mem_append] at hb
    rcases hb with rfl | hb | hb
    · exact (List.getElem?_eq_some_iff.1 h.at_).1
    · exact hd.lt b hb
    · exact h.sl.lt b hb
  fr := by
    rintro H H' F ⟨vl, vd, nd, h, rfl⟩ hf
    obtain ⟨dr, hd, hd2⟩ := h.sd
    exact ⟨vl, vd, nd, ⟨by rw [hf P (by simp)]; exact h.at_, h.sl.fr fun b hb => hf b (by simp [hb]), ⟨dr, hd.fr fun b hb => hf b (by simp [hb]), hd2⟩, h.ne, h.ned, h.ap⟩, rfl⟩

theorem next_2 {P : Nat} {vl vd : IV} {nd : Int} {q : Que} (h : RAt H P vl vd nd q) (hn : 0 ≤ q.next ∧ q.next ≤ 1000000000) : doCall (callW pg) ro 2 (.fn 36 []) [.ptr P 0 0 0] H = some (.int .i64 q.next, H) := by
  refine call2 (H2 := H) (args' := [.ptr P 0 0 0]) rfl ?_ rfl (.inl rfl)
  have hP := h.at_
  have w1 : IntKind.i64.wrap (q.next - 1 + 1) = q.next := by rw [IntKind.wrap_i64]; omega
  have w2 : IntKind.i64.wrap q.next = q.next := by rw [IntKind.wrap_i64]; omega
  rw [callW_eqO (fn := fn36) rfl rfl]
  simp [-getElem?_pos, fn36, hP, w1, w2]

theorem rlow_2 {P : Nat} {vl vd : IV} {nd : Int} {q : Que} (h : RAt H P vl vd nd q) (hn : 0 ≤ q.next ∧ q.next ≤ 1000000000) : doCall (callW pg) ro 2 (.fn 33 []) [.ptr P 0 0 0] H = some (.int .i64 (match q.l with | [] => q.next | b :: _ => b.1), H) := by
  refine call2 (H2 := H) (args' := [.ptr P 0 0 0]) rfl ?_ rfl (.inl rfl)
  rw [callW_eqO (fn := fn33) rfl rfl]
  have hP := h.at_
  have hlen := h.sl.len
  have hnx := fun ro => next_2 (ro := ro) h hn
  cases hl : q.l with
  | nil =>
    rw [hl] at hlen
    simp at hlen
    simp [-getElem?_pos, fn33, hP, hlen, hnx]
  | cons b l =>
    obtain ⟨k, B, j, hb, hidx, hB, hfz, hrow⟩ := h.sl.idx (i := 0) (row := brow b) (by rw [hl]; rfl)
    rw [hl] at hlen
    simp at hlen hidx
    have h0 : ¬ ((l.length : Int) + 1 = 0) := by omega
    simp only [brow] at hrow
    simp [-getElem?_pos, fn33, hP, hlen, h0, hidx, hB, hrow]

/-! putting -/
theorem rput_rest {G : Hp} {P : Nat} {vl vd : IV} {nd : Int} {q : Que} (t : Int) (h : RAt G P vl vd nd q) (hl : q.l.length ≤ 5) :
    ∃ v1 G1 v2 G2, appV 0 (G.set P { rows := [[vl, .int .i64 q.next, vd, .int .i64 nd]] }) 4 56 .nsl vl = some (v1, G1) ∧ G1[P]? = some { rows := [[vl, .int .i64 q.next, vd, .int .i64 nd]] } ∧ P < G1.length ∧
      appV 0 (G1 ++ [{ rows := [brow (q.next, t)] }]) 4 56 v1 (.arr G1.length 0 0 1 1 true) = some (v2, G2) ∧ G2[P]? = some { rows := [[vl, .int .i64 q.next, vd, .int .i64 nd]] } ∧ cellsO v2 = some [v2] ∧
      G.length ≤ G2.length ∧ RAt (G2.set P { rows := [[v2, .int .i64 q.next, vd, .int .i64 nd]] }) P v2 vd nd ⟨q.dr, q.l ++ [(q.next, t)], q.next + 1⟩ ∧
      (∀ b, b < G.length → b ≠ P → G2[b]? = G[b]?) ∧ (∀ b ∈ blkS v2, G.length ≤ b) := by
  have hP := h.at_
  have hlt : P < G.length := (List.getElem?_eq_some_iff.1 hP).1
  obtain ⟨dr, hsd, hdl⟩ := h.sd
  have hsl1 : Sq (G.set P { rows := [[vl, .int .i64 q.next, vd, .int .i64 nd]] }) vl 4 (q.l.map brow) := h.sl.set h.ne
  obtain ⟨v1, Y, ha, hs1, hb1⟩ := Sq.copy (ro := 0) (bytes := 56) hsl1 (by rw [List.length_map]; unfold room; omega)
  obtain ⟨b, g, o, n, c, G2, happ, hs2, hst⟩ := (hs1.app [{ rows := [brow (q.next, t)] }]).push (r := brow (q.next, t)) (y := .arr (G.set P { rows := [[vl, .int .i64 q.next, vd, .int .i64 nd]] } ++ Y).length 0 0 1 1 true) (bytes := 56) (ro := 0) (by simp) rfl
    (by rw [List.length_map]; unfold room; omega) (fun _ _ => Nat.zero_le _)
  have hnew : ∀ x ∈ blkS (.arr b g o n c false), G.length ≤ x := fun x hx => by
    rcases hst.new x (by simpa [blkS] using hx) with h1 | h1
    · have := hb1 x h1; simpa using this
    · simp at h1; omega
  have old : ∀ x, x < G.length → x ≠ P → G2[x]? = G[x]? := fun x hx hne => by
    rw [hst.same x (by simp; omega) (fun h1 => by have := hb1 x h1; simp at this; omega), List.getElem?_append_left (by simp; omega), List.getElem?_append_left (by simpa using hx), List.getElem?_set_ne (Ne.symm hne)]
  have hP2 : G2[P]? = some { rows := [[vl, .int .i64 q.next, vd, .int .i64 nd]] } := by
    rw [hst.same P (by simp; omega) (fun h1 => by have := hb1 P h1; simp at this; omega), List.getElem?_append_left (by simp; omega), List.getElem?_append_left (by simpa using hlt), List.getElem?_set_self hlt]
  have hlt2 := (List.getElem?_eq_some_iff.1 hP2).1
  have hPv : P ∉ blkS (.arr b g o n c false) := fun hx => by have := hnew P hx; omega
  refine ⟨v1, _, _, G2, ha, by simp [-getElem?_pos, hlt, List.getElem?_append_left], by simp; omega, happ, hP2, rfl, by have := hst.len; simp at this; omega, ⟨?_, ?_, ?_, hPv, h.ned, ?_⟩, old, hnew⟩
  · rw [List.getElem?_set_self hlt2]; dsimp only; rw [show q.next + 1 - 1 = q.next by omega]
  · dsimp only; rw [List.map_append]; exact (hs2.set hPv).sq
  · exact ⟨dr, Sl.set (hsd.fr fun x hx => old x (hsd.lt x hx) (fun e => h.ned (by rw [← e]; exact hx))) h.ned, hdl⟩
  · intro x hx hx2
    have := hsd.lt x hx
    have := hnew x hx2; omega

theorem rput_t {P : Nat} {q : Que} {t : Int} (hl : q.l.length ≤ 6) (hd : q.dr.length < 1000) (hn : 0 ≤ q.next ∧ q.next ≤ 1000000000) : Trip (RQO P q) (callW pg 0 22 [.ptr P 0 0 0, .int .i64 t, .str ⟨#[103]⟩, .nsl]) (.int .i64 q.next) (RQO P (q.put t)) := by
  rintro H F ⟨vl, vd, nd, h, rfl⟩
  have hP := h.at_
  have hlt : P < H.length := (List.getElem?_eq_some_iff.1 hP).1
  have hlen := h.sl.len
  have hw : IntKind.i64.wrap (q.next - 1 + 1) = q.next := by rw [IntKind.wrap_i64]; omega
  have hw2 : IntKind.i64.wrap q.next = q.next := by rw [IntKind.wrap_i64]; omega
  have gs : brow (q.next, t) = [.int .i64 q.next, .int .i64 t, .str ⟨#[103]⟩, .nsl] := rfl
  by_cases h6 : 6 ≤ q.l.length
  · obtain ⟨b, l, hql⟩ : ∃ b l, q.l = b :: l := by
      cases hl : q.l with
      | nil => rw [hl] at h6; simp at h6
      | cons b l => exact ⟨b, l, rfl⟩
    have hcut : q.cut = ⟨lastOf (q.dr ++ [b.1]), l, q.next⟩ := by unfold Que.cut; rw [hql]; dsimp only; rw [if_pos (by rw [← hql]; exact h6)]
    obtain ⟨k, B, j, hb, hidx, hB, hfz, hrow⟩ := h.sl.idx (i := 0) (row := brow b) (by rw [hql]; rfl)
    simp only [brow] at hrow
    obtain ⟨dr, hsd, hdl⟩ := h.sd
    obtain ⟨b2, g2, o2, n2, c2, H2, happ, hs2, hst⟩ := (hsd.app [{ rows := [nrow b.1] }]).push (r := nrow b.1) (y := .arr H.length 0 0 1 1 true) (bytes := 8) (ro := 0) (by simp) rfl
      (by unfold room; omega) (fun _ _ => Nat.zero_le _)
    have hlen2 := hs2.len
    simp at hlen2
    subst hlen2
    have hH2 := hst.len
    simp at hH2
    have hP2 : H2[P]? = some { rows := [[vl, .int .i64 (q.next - 1), vd, .int .i64 nd]] } := by
      rw [hst.same P (by simp; omega) h.ned, List.getElem?_append_left hlt]; exact hP
    have hlt2 := (List.getElem?_eq_some_iff.1 hP2).1
    have hPd : P ∉ blkS (.arr b2 g2 o2 (dr.length + 1) c2 false) := fun hx => by
      rcases hst.new P (by simpa [blkS] using hx) with h1 | h1
      · exact h.ned h1
      · simp at h1; omega
    have hsl2 : Sq H2 vl 4 (q.l.map brow) := (h.sl.app [{ rows := [nrow b.1] }]).fr fun x hx => hst.same x (by have := h.sl.lt x hx; simp; omega) fun hd => h.ap x hd hx
    obtain ⟨vl2, f1, f2, f3⟩ := (hsl2.set (R := P) (B := { rows := [[vl, .int .i64 (q.next - 1), .arr b2 g2 o2 (dr.length + 1) c2 false, .int .i64 (IntKind.i64.wrap (nd + 1))]] }) h.ne).from (k := 1) (by rw [List.length_map, hql]; simp)
    rw [hql] at f2
    simp only [List.map_cons, List.drop_succ_cons, List.drop_zero] at f2
    have hPl2 : P ∉ blkS vl2 := by rw [f3]; exact h.ne
    have hap2 : ∀ x ∈ blkS (.arr b2 g2 o2 (dr.length + 1) c2 false), x ∉ blkS vl2 := fun x hx hx2 => by
      rw [f3] at hx2
      rcases hst.new x (by simpa [blkS] using hx) with h1 | h1
      · exact h.ap x h1 hx2
      · have := h.sl.lt x hx2; simp at h1; omega
    have hcc := f2.cells
    have hR : RAt (H2.set P { rows := [[vl2, .int .i64 (q.next - 1), .arr b2 g2 o2 (dr.length + 1) c2 false, .int .i64 (IntKind.i64.wrap (nd + 1))]] }) P vl2 (.arr b2 g2 o2 (dr.length + 1) c2 false) (IntKind.i64.wrap (nd + 1)) q.cut := by
      rw [hcut]
      refine ⟨List.getElem?_set_self hlt2, ?_, ⟨dr ++ [nrow b.1], hs2.set hPd, ?_⟩, hPl2, hPd, hap2⟩
      · have := f2.set (R := P) (B := { rows := [[vl2, .int .i64 (q.next - 1), .arr b2 g2 o2 (dr.length + 1) c2 false, .int .i64 (IntKind.i64.wrap (nd + 1))]] }) hPl2
        rwa [List.set_set] at this
      · unfold lastOf; simp; omega
    have hc1 : ¬ ((1000 : Int) < (dr.length : Int) + 1) := by omega
    obtain ⟨v1, G1, v2, G2, p1, p2, p3, p4, p5, p6, p7, p8, p9, p10⟩ := rput_rest t hR (by rw [hcut]; rw [hql] at hl; simpa using hl)
    rw [cut_next] at p1 p2 p4 p5 p8
    rw [gs] at p4
    rw [List.set_set] at p1
    simp at p4 hidx hlen
    have hq5 : (6 : Int) ≤ q.l.length := by omega
    have hltG := (List.getElem?_eq_some_iff.1 p5).1
    have hdl2 : ¬ (1000 < dr.length + 1) := by omega
    refine ⟨_, _, ?_, ⟨v2, _, _, by unfold Que.put; rw [cut_next]; exact p8, rfl⟩, ⟨?_, fun x hx hF => ?_, fun x hx => ?_⟩⟩
    · simp only [nrow] at happ
      rw [callW_eqO (fn := fn22) rfl rfl]
      simp [-getElem?_pos, -slSl_arr, fn22, hP, hlen, hq5, hidx, hB, hrow, hlt, happ, hP2, hlt2, hc1, f1, hcc, hw, hw2, p1, p2, p3, refSort_nil, p4, p5, p6, hltG, List.getElem?_append_left]
    · simp at p7 ⊢; omega
    · simp only [List.mem_cons, List.mem_append, not_or] at hF
      obtain ⟨f1, f2, f3⟩ := hF
      rw [List.getElem?_set_ne (Ne.symm f1), p9 x (by simp; omega) f1, List.getElem?_set_ne (Ne.symm f1), hst.same x (by simp; omega) f2, List.getElem?_append_left hx]
    · simp only [List.mem_cons, List.mem_append] at hx ⊢
      rcases hx with rfl | hx | hx
      · exact .inl (.inl rfl)
      · rcases hst.new x (by simpa [blkS] using hx) with h1 | h1
        · exact .inl (.inr (.inl h1))
        · simp at h1; exact .inr (by omega)
      · have := p10 x hx
        simp at this; exact .inr (by omega)
  · have hcut : q.cut = q := by
      unfold Que.cut; split
      · rfl
      · rename_i b l e; rw [if_neg (by rw [← e]; exact h6)]
    obtain ⟨v1, G1, v2, G2, p1, p2, p3, p4, p5, p6, p7, p8, p9, p10⟩ := rput_rest t h (by omega)
    rw [gs] at p4
    simp at hlen
    have hq5 : ¬ (6 : Int) ≤ q.l.length := by omega
    have hltG := (List.getElem?_eq_some_iff.1 p5).1
    unfold Que.put
    rw [hcut]
    refine ⟨_, _, ?_, ⟨v2, _, _, p8, rfl⟩, ⟨?_, fun x hx hF => ?_, fun x hx => ?_⟩⟩
    · rw [callW_eqO (fn := fn22) rfl rfl]
      simp [-getElem?_pos, fn22, hP, hlen, hq5, hlt, hw, hw2, p1, p2, p3, refSort_nil, p4, p5, p6, hltG, List.getElem?_append_left]
    · simp; omega
    · simp only [List.mem_cons, List.mem_append, not_or] at hF
      obtain ⟨f1, f2, f3⟩ := hF
      rw [List.getElem?_set_ne (Ne.symm f1), p9 x hx f1]
    · simp only [List.mem_cons, List.mem_append] at hx ⊢
      rcases hx with rfl | hx | hx
      · exact .inl (.inl rfl)
      · exact .inl (.inr (.inl hx))
      · exact .inr (p10 x hx)

end Go.Proofs.Ytemjonhhcadbbaa
