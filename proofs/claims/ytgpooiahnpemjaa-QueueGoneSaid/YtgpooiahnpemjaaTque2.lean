/- A queue takes a batch. -/
import Derived.Test.YtgpooiahnpemjaaTque1
namespace Go.Proofs.Ytgpooiahnpemjaa
open Go Go.Vs
variable {ro : Nat} {H : Hp}

theorem clip_c {v v2 : IV} {n : Nat} (hl : lenV false v = some n) (hs : slSl H 4 v 0 (some n) (some n) = some v2) : callW pg ro 31 [v] H = some (v2, H) := by
  rw [callW_eqO (fn := fn31) rfl rfl]
  simp [-getElem?_pos, -slSl_arr, fn31, hl, hs]

def Que.cut (q : Que) : Que := match q.l with
  | [] => q
  | b :: l => if 6 ≤ (b :: l).length then ⟨lastOf (q.dr ++ [b.1]), l, q.next⟩ else q
def Que.put (q : Que) (t : Int) : Que := ⟨q.cut.dr, q.cut.l ++ [(q.cut.next, t)], q.cut.next + 1⟩

theorem cut_next (q : Que) : q.cut.next = q.next := by
  unfold Que.cut; split
  · rfl
  · split <;> rfl
theorem cut_len {q : Que} (h : q.l.length ≤ 6) : q.cut.l.length ≤ 5 := by
  unfold Que.cut; split
  · rename_i e; simp [e]
  · rename_i b l e
    rw [e] at h
    simp at h
    split
    · exact h
    · rename_i h2; rw [e]; simp at h2 ⊢; omega

/-- The heap behind the rest of 'Put'. -/
theorem put_rest {G : Hp} {Q : Nat} {vd v : IV} {q : Que} (t : Int) (h : QAt G Q vd v q) (hl : q.l.length ≤ 5) :
    ∃ v2 v3 G2, callW pg 0 31 [v] (G.set Q { rows := [[vd, v, .int .i64 (q.next + 1)]] }) = some (v2, G.set Q { rows := [[vd, v, .int .i64 (q.next + 1)]] }) ∧
      appV 0 (G.set Q { rows := [[vd, v, .int .i64 (q.next + 1)]] } ++ [{ rows := [brow (q.next, t)] }]) 4 56 v2 (.arr G.length 0 0 1 1 true) = some (v3, G2) ∧
      G2[Q]? = some { rows := [[vd, v, .int .i64 (q.next + 1)]] } ∧ cellsO v3 = some [v3] ∧ G2.length = G.length + 2 ∧
      QAt (G2.set Q { rows := [[vd, v3, .int .i64 (q.next + 1)]] }) Q vd v3 ⟨q.dr, q.l ++ [(q.next, t)], q.next + 1⟩ ∧
      (∀ b, b < G.length → b ≠ Q → G2[b]? = G[b]?) ∧ (∀ b ∈ blkS v3, G.length ≤ b) := by
  have hQ := h.at_
  have hlt : Q < G.length := (List.getElem?_eq_some_iff.1 hQ).1
  have hsl1 : Sq (G.set Q { rows := [[vd, v, .int .i64 (q.next + 1)]] }) v 4 (q.l.map brow) := h.sl.set h.ne
  have hvl := hsl1.len
  obtain ⟨v2, hclip, happ⟩ := hsl1.clip (r := brow (q.next, t)) (bytes := 56) rfl (by rw [List.length_map]; unfold room; omega)
  obtain ⟨v3, happ, ev3, hv3⟩ := happ [{ rows := [brow (q.next, t)] }] (.arr G.length 0 0 1 1 true) (by simp) 0
  refine ⟨v2, v3, _, clip_c hvl hclip, happ, by simp [-getElem?_pos, hlt, List.getElem?_append_left], hv3.cells, by simp, ⟨?_, ?_, ?_, h.ned, ?_, ?_⟩, ?_, ?_⟩
  · rw [List.getElem?_set_self]; simp; omega
  · refine Sl.set (Sl.app (Sl.app (Sl.set h.sd h.ned) _) _) h.ned
  · rw [List.map_append]; exact (hv3.set (by rw [ev3]; simp [blkS]; omega)).sq
  · rw [ev3]; simp [blkS]; omega
  · intro x hx hx2
    have := h.sd.lt x hx
    rw [ev3] at hx2; simp [blkS] at hx2; omega
  · intro b hb hne
    rw [List.getElem?_append_left (by simp; omega), List.getElem?_append_left (by simpa using hb), List.getElem?_set_ne (Ne.symm hne)]
  · intro b hb; rw [ev3] at hb; simp [blkS] at hb; omega

theorem put_t {Q : Nat} {q : Que} {t : Int} (ho : QueOk q) : Trip (QO Q q) (callW pg 0 11 [.ptr Q 0 0 0, .int .i64 t, .str ⟨#[103]⟩, .nsl]) (.int .i64 q.next) (QO Q (q.put t)) := by
  rintro H F ⟨vd, v, h, rfl⟩
  have hQ := h.at_
  have hlt : Q < H.length := (List.getElem?_eq_some_iff.1 hQ).1
  have hlen := h.sl.len
  have hw : IntKind.i64.wrap (q.next + 1) = q.next + 1 := by
    have := ho.n1; have := ho.n2
    rw [IntKind.wrap_i64]; omega
  have gs : brow (q.next, t) = [.int .i64 q.next, .int .i64 t, .str ⟨#[103]⟩, .nsl] := rfl
  by_cases h6 : 6 ≤ q.l.length
  · obtain ⟨b, l, hl⟩ : ∃ b l, q.l = b :: l := by
      cases hl : q.l with
      | nil => rw [hl] at h6; simp at h6
      | cons b l => exact ⟨b, l, rfl⟩
    have hcut : q.cut = ⟨lastOf (q.dr ++ [b.1]), l, q.next⟩ := by unfold Que.cut; rw [hl]; dsimp only; rw [if_pos (by rw [← hl]; exact h6)]
    obtain ⟨k, B, j, hb, hidx, hB, hfz, hrow⟩ := h.sl.idx (i := 0) (row := brow b) (by rw [hl]; rfl)
    simp only [brow] at hrow
    obtain ⟨H1, vd', hdrop, h1, hst⟩ := drop_t (n := b.1) h ho
    have hQ1 := h1.at_
    have hlt1 : Q < H1.length := (List.getElem?_eq_some_iff.1 hQ1).1
    have hlen6 : l.length ≤ 5 := by have := ho.len; rw [hl] at this; simp at this; omega
    obtain ⟨v1, hs1, hs2, hs3⟩ := h1.sl.from (k := 1) (by rw [List.length_map]; dsimp only; rw [hl]; simp)
    have h2 : QAt (H1.set Q { rows := [[vd', v1, .int .i64 q.next]] }) Q vd' v1 q.cut := by
      rw [hcut]
      refine ⟨by rw [List.getElem?_set_self hlt1], h1.sd.set h1.ned, ?_, h1.ned, by rw [hs3]; exact h1.ne, fun x hx => by rw [hs3]; exact h1.ap x hx⟩
      have := hs2.set (R := Q) (B := { rows := [[vd', v1, .int .i64 q.next]] }) (by rw [hs3]; exact h1.ne)
      dsimp only at this
      rw [hl] at this
      simpa using this
    have hc1 := hs2.cells
    obtain ⟨v2, v3, G2, p1, p2, p3, p4, p5, p6, p7, p8⟩ := put_rest t h2 (by rw [hcut]; exact hlen6)
    rw [cut_next] at p1 p2 p3
    rw [gs] at p2
    have hlt2 : Q < G2.length := (List.getElem?_eq_some_iff.1 p3).1
    simp at p5
    simp at hidx hlen
    simp only [List.set_set] at p1 p2
    simp at p2
    have hq5 : (6 : Int) ≤ q.l.length := by omega
    refine ⟨_, _, ?_, ⟨vd', v3, p6, rfl⟩, ⟨?_, fun x hx hF => ?_, fun x hx => ?_⟩⟩
    · rw [callW_eqO (fn := fn11) rfl rfl]
      simp [-getElem?_pos, fn11, hQ, hlen, hq5, hidx, hB, hrow, hdrop, hQ1, hs1, hc1, hlt1, hw, p1, sort_nil, copied_nil, p2, p3, p4, cut_next]
    · have := hst.len; simp; omega
    · simp only [List.mem_cons, List.mem_append, not_or] at hF
      obtain ⟨f1, f2, f3⟩ := hF
      rw [List.getElem?_set_ne (Ne.symm f1), p7 x (by have := hst.len; simp; omega) f1, List.getElem?_set_ne (Ne.symm f1), hst.same x hx (by simp [f1, f2, f3])]
    · simp only [List.mem_cons, List.mem_append] at hx ⊢
      rcases hx with rfl | hx | hx
      · exact .inl (.inl rfl)
      · have := hst.new x (by simp [hx])
        simpa using this
      · have := p8 x hx
        have h3 := hst.len
        simp at this; exact .inr (by omega)
  · have hcut : q.cut = q := by
      unfold Que.cut; split
      · rfl
      · rename_i b l e; rw [if_neg (by rw [← e]; exact h6)]
    obtain ⟨v2, v3, G2, p1, p2, p3, p4, p5, p6, p7, p8⟩ := put_rest t h (by omega)
    rw [gs] at p2
    have hlt2 : Q < G2.length := (List.getElem?_eq_some_iff.1 p3).1
    simp at hlen
    have hq5 : ¬ (6 : Int) ≤ q.l.length := by omega
    unfold Que.put
    rw [hcut]
    refine ⟨_, _, ?_, ⟨vd, v3, p6, rfl⟩, ⟨?_, fun x hx hF => ?_, fun x hx => ?_⟩⟩
    · rw [callW_eqO (fn := fn11) rfl rfl]
      simp [-getElem?_pos, fn11, hQ, hlen, hq5, hlt, hw, p1, sort_nil, copied_nil, p2, p3, p4]
    · simp; omega
    · simp only [List.mem_cons, List.mem_append, not_or] at hF
      obtain ⟨f1, f2, f3⟩ := hF
      rw [List.getElem?_set_ne (Ne.symm f1), p7 x hx f1]
    · simp only [List.mem_cons, List.mem_append] at hx ⊢
      rcases hx with rfl | hx | hx
      · exact .inl (.inl rfl)
      · exact .inl (.inr (.inl hx))
      · exact .inr (p8 x hx)

end Go.Proofs.Ytgpooiahnpemjaa
