/- A queue is told what was acknowledged. The laws 'SenderLow' and 'SenderAcked'. -/
import Derived.Test.YtgpooiahnpemjaaTque4
namespace Go.Proofs.Ytgpooiahnpemjaa
open Go Go.Vs
variable {ro : Nat} {H : Hp}

def Que.ack (q : Que) (n : Int) : Que := if q.next ≤ n then q else ⟨q.dr, kept n q.l, q.next⟩
def ackE (q : Que) (n : Int) : Int := if q.next ≤ n then 230 else 0

theorem ack_t {Q : Nat} {q : Que} {n : Int} (hl : q.l.length ≤ 1000) : Trip (QO Q q) (callW pg 0 12 [.ptr Q 0 0 0, .int .i64 n]) (.int .i64 (ackE q n)) (QO Q (q.ack n)) := by
  rintro H F ⟨vd, v, h, rfl⟩
  have hQ := h.at_
  have hlt : Q < H.length := (List.getElem?_eq_some_iff.1 hQ).1
  have h1 : QAt (H ++ [crow n]) Q vd v q := h.frm fun b hb => by
    refine List.getElem?_append_left ?_
    simp only [List.mem_cons, List.mem_append] at hb
    rcases hb with rfl | hb | hb
    · exact hlt
    · exact h.sd.lt b hb
    · exact h.sl.lt b hb
  have hQ1 := h1.at_
  by_cases hn : q.next ≤ n
  · have e1 : ackE q n = 230 := by unfold ackE; rw [if_pos hn]
    have e2 : q.ack n = q := by unfold Que.ack; rw [if_pos hn]
    rw [e1, e2]
    refine ⟨H ++ [crow n], _, ?_, ⟨vd, v, h1, rfl⟩, Stp.app⟩
    unfold crow at hQ1 ⊢
    rw [callW_eqO (fn := fn12) rfl rfl]
    simp [-getElem?_pos, fn12, hQ1, hn]
  · have e1 : ackE q n = 0 := by unfold ackE; rw [if_neg hn]
    have e2 : q.ack n = ⟨q.dr, kept n q.l, q.next⟩ := by unfold Que.ack; rw [if_neg hn]
    rw [e1, e2]
    obtain ⟨v', Y, hc1, hc2, hc3⟩ := clone_c (ro := 0) h1.sl hl
    have hC : (H ++ [crow n] ++ Y)[H.length]? = some (crow n) := by rw [List.getElem?_append_left (by simp)]; simp
    have hCv : H.length ∉ blkS v' := fun hb => by have := hc3 _ hb; simp only [List.length_append, List.length_singleton] at this; omega
    obtain ⟨v2, H2, hd1, hd2, hd3, hd4, hd5⟩ := delete_c (ro := 0) hc2 hl hC (fun _ _ => Nat.zero_le _) hCv (Nat.zero_le _)
    have hnew : ∀ b ∈ blkS v2, H.length + 1 ≤ b := fun b hb => by rw [hd3] at hb; have := hc3 b hb; simpa using this
    have old : ∀ b, b < H.length → H2[b]? = H[b]? := fun b hb => by
      rw [hd5 b (by simp; omega) (fun hbv => by have := hc3 b hbv; simp at this; omega), List.getElem?_append_left (by simp; omega), List.getElem?_append_left hb]
    have hQ2 : H2[Q]? = some { rows := [[vd, v, .int .i64 q.next]] } := by rw [old Q hlt]; exact hQ
    have hlt2 := (List.getElem?_eq_some_iff.1 hQ2).1
    have hQv : Q ∉ blkS v2 := fun hb => by have := hnew Q hb; omega
    have hcc := hd2.cells
    refine ⟨H2.set Q { rows := [[vd, v2, .int .i64 q.next]] }, _, ?_, ⟨vd, v2, ⟨List.getElem?_set_self hlt2, ?_, hd2.set hQv, h.ned, hQv, fun b hb hb2 => ?_⟩, rfl⟩, ⟨?_, fun b hb hF => ?_, fun b hb => ?_⟩⟩
    · unfold crow at hQ1 hc1 hd1
      simp at hc1 hd1
      rw [callW_eqO (fn := fn12) rfl rfl]
      simp [-getElem?_pos, fn12, hQ1, hn, hc1, hd1, hQ2, hcc]
    · exact Sl.set (h.sd.fr fun b hb => old b (h.sd.lt b hb)) h.ned
    · have := h.sd.lt b hb; have := hnew b hb2; omega
    · have := hd4; simp at this ⊢; omega
    · simp only [List.mem_cons, List.mem_append, not_or] at hF
      rw [List.getElem?_set_ne (Ne.symm hF.1), old b hb]
    · simp only [List.mem_cons, List.mem_append] at hb ⊢
      rcases hb with rfl | hb | hb
      · exact .inl (.inl rfl)
      · exact .inl (.inr (.inl hb))
      · exact .inr (by have := hnew b hb; omega)

/-- The numbers from lo + 1 on up to hi. -/
structure Run (q : Que) (lo hi : Nat) : Prop where
  next : q.next = hi + 1
  len : q.l.length = hi - lo
  le : lo ≤ hi
  at_ : ∀ (i : Nat) (x : Bt), q.l[i]? = some x → x.1 = lo + 1 + i
  dl : q.dr.length ≤ lo

theorem Run.put {q : Que} {lo hi : Nat} {t : Int} (h : Run q lo hi) (h6 : hi - lo ≤ 6) : Run (q.put t) (if 6 ≤ hi - lo then lo + 1 else lo) (hi + 1) := by
  have hlen := h.len
  have hle := h.le
  unfold Que.put
  rw [cut_next]
  by_cases h5 : 6 ≤ hi - lo
  · obtain ⟨b, l, hl⟩ : ∃ b l, q.l = b :: l := by
      cases hl : q.l with
      | nil => rw [hl] at hlen; simp at hlen; omega
      | cons b l => exact ⟨b, l, rfl⟩
    have hcut : q.cut = ⟨lastOf (q.dr ++ [b.1]), l, q.next⟩ := by unfold Que.cut; rw [hl]; dsimp only; rw [if_pos (by rw [← hl]; omega)]
    rw [hl] at hlen
    simp at hlen
    rw [hcut, if_pos h5]
    refine ⟨by dsimp only; have := h.next; omega, by simp; omega, by omega, fun i x hx => ?_, ?_⟩
    · dsimp only at hx
      by_cases hi' : i < l.length
      · rw [List.getElem?_append_left hi'] at hx
        have := h.at_ (i + 1) x (by rw [hl]; simpa using hx)
        push_cast at this ⊢; omega
      · have hlt := (List.getElem?_eq_some_iff.1 hx).1
        simp at hlt
        have e : i = l.length := by omega
        subst e
        rw [List.getElem?_append_right (Nat.le_refl _)] at hx
        simp at hx
        subst hx
        have := h.next
        push_cast; omega
    · have := h.dl
      unfold lastOf; simp; omega
  · have hcut : q.cut = q := by
      unfold Que.cut; split
      · rfl
      · rename_i b l e; rw [if_neg (by rw [← e]; omega)]
    rw [hcut, if_neg h5]
    refine ⟨by dsimp only; have := h.next; omega, by simp; omega, by omega, fun i x hx => ?_, h.dl⟩
    dsimp only at hx
    by_cases hi' : i < q.l.length
    · rw [List.getElem?_append_left hi'] at hx
      exact h.at_ i x hx
    · have hlt := (List.getElem?_eq_some_iff.1 hx).1
      simp at hlt
      have e : i = q.l.length := by omega
      subst e
      rw [List.getElem?_append_right (Nat.le_refl _)] at hx
      simp at hx
      subst hx
      have := h.next
      dsimp only; omega

theorem kept_run {n : Int} : ∀ (l : List Bt) (lo : Int), (∀ (i : Nat) (x : Bt), l[i]? = some x → x.1 = lo + 1 + i) → kept n l = l.drop (n - lo).toNat
  | [], _, _ => by simp [kept]
  | x :: l, lo, h => by
    have h0 := h 0 x rfl
    have ih := kept_run (n := n) l (lo + 1) fun i y hy => by have := h (i + 1) y (by simpa using hy); push_cast at this; omega
    unfold kept at ih ⊢
    rw [List.filter_cons, ih]
    simp at h0
    by_cases hx : x.1 ≤ n
    · have e : (n - lo).toNat = (n - (lo + 1)).toNat + 1 := by omega
      rw [if_neg (by simp [gone, hx]), e, List.drop_succ_cons]
    · have e : (n - lo).toNat = 0 := by omega
      have e2 : (n - (lo + 1)).toNat = 0 := by omega
      rw [if_pos (by simp [gone]; omega), e, e2, List.drop_zero, List.drop_zero]

theorem Run.ack {q : Que} {lo hi : Nat} {n : Nat} (h : Run q lo hi) (hn : n ≤ hi) : Run (q.ack n) (max lo n) hi ∧ ackE q n = 0 := by
  have hlen := h.len
  have hle := h.le
  have hnx : ¬ q.next ≤ n := by have := h.next; omega
  unfold Que.ack ackE
  rw [if_neg hnx, if_neg hnx]
  refine ⟨?_, rfl⟩
  have hk := kept_run (n := n) q.l lo h.at_
  have e : ((n : Int) - lo).toNat = max lo n - lo := by omega
  rw [e] at hk
  rw [hk]
  refine ⟨h.next, by simp; omega, by omega, fun i x hx => ?_, by have := h.dl; dsimp only; omega⟩
  dsimp only at hx
  rw [List.getElem?_drop] at hx
  have := h.at_ _ x hx
  push_cast at this ⊢; omega


end Go.Proofs.Ytgpooiahnpemjaa
