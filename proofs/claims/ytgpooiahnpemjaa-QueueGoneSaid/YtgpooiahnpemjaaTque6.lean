/- A queue as an object of its own; the law 'QueueAcks'. -/
import Derived.Test.YtgpooiahnpemjaaTque5
namespace Go.Proofs.Ytgpooiahnpemjaa
open Go Go.Vs
variable {ro : Nat} {H : Hp}

theorem known_c : ∃ H', callW pg 0 9 [] [] = some (.bool true, H') := callW_of (n := 60) (by kernel_rfl)
theorem known_2 : doCall (callW pg) 0 2 (.fn 9 []) [] [] = some (.bool true, []) := by
  obtain ⟨Hk, hkn⟩ := known_c
  exact call2p hkn rfl rfl

theorem cloneI_c {v : IV} {l : List Int} (h : Sq H v 1 (l.map nrow)) (hl : l.length ≤ 1000) : ∃ v' Y, callW pg ro 37 [v] H = some (v', H ++ Y) ∧ Sq (H ++ Y) v' 1 (l.map nrow) ∧ ∀ b ∈ blkS v', H.length ≤ b := by
  by_cases hv : v = .nsl
  · have hl0 : l = [] := by
      rcases h with ⟨_, h⟩ | ⟨b, g, pre, post, cap, ex, rfl, _⟩
      · simpa using h
      · cases hv
    subst hv; subst hl0
    refine ⟨.nsl, [], ?_, Sq.nil, by simp [blkS]⟩
    rw [callW_eqO (fn := fn37) rfl rfl]
    simp [-getElem?_pos, fn37]
  · obtain ⟨v', Y, h1, h2, h3⟩ := h.clone (bytes := 8) (ro := ro) (by rw [List.length_map]; unfold room; omega)
    refine ⟨v', Y, ?_, h2, h3⟩
    rcases h with ⟨rfl, _⟩ | ⟨b, g, pre, post, cap, ex, rfl, _⟩
    · exact absurd rfl hv
    · rw [List.length_map] at h1
      rw [callW_eqO (fn := fn37) rfl rfl]
      simp [-getElem?_pos, fn37, h1]

theorem drops_2 {Q : Nat} {vd v : IV} {q : Que} (h : QAt H Q vd v q) (hl : q.dr.length ≤ 1000) : ∃ vi, doCall (callW pg) ro 2 (.fn 14 []) [.ptr Q 0 0 0] H = some (vi, H) ∧ SlA vi 1 (q.dr.map nrow) := by
  obtain ⟨v', Y, h1, h2, h3⟩ := cloneI_c (ro := H.length) h.sd.sq hl
  refine call2s (v := v') (H2 := H ++ Y) ?_ rfl rfl h2 h3 nrow_plain
  have hQ := h.at_
  rw [callW_eqO (fn := fn14) rfl rfl]
  simp [-getElem?_pos, fn14, hQ, h1]

theorem next_2 {Q : Nat} {vd v : IV} {q : Que} (h : QAt H Q vd v q) : doCall (callW pg) ro 2 (.fn 16 []) [.ptr Q 0 0 0] H = some (.int .i64 q.next, H) := by
  refine call2 (H2 := H) (args' := [.ptr Q 0 0 0]) rfl ?_ rfl (.inl rfl)
  have hQ := h.at_
  rw [callW_eqO (fn := fn16) rfl rfl]
  simp [-getElem?_pos, fn16, hQ]

/-! a queue that is held -/
theorem QO.at {Q : Nat} {q : Que} (h : Hold H (QO Q q)) : ∃ vd v, QAt H Q vd v q := by
  obtain ⟨F, vd, v, h, _⟩ := h; exact ⟨vd, v, h⟩
theorem start : Hold ([{ rows := [[.nsl, .nsl, .int .i64 1]] }] : Hp) (QO 0 ⟨[], [], 1⟩) := by
  obtain ⟨F, h, _⟩ := newQ_hold (H := [])
  exact ⟨F, h⟩
theorem put_h {Q : Nat} {q : Que} {t : Int} (h : Hold H (QO Q q)) (ho : QueOk q) : ∃ H', callW pg 0 11 [.ptr Q 0 0 0, .int .i64 t, .str ⟨#[103]⟩, .nsl] H = some (.int .i64 q.next, H') ∧ Hold H' (QO Q (q.put t)) :=
  (put_t ho).use0 h
theorem ack_h {Q : Nat} {q : Que} {n : Int} (h : Hold H (QO Q q)) (hl : q.l.length ≤ 1000) : ∃ H', callW pg 0 12 [.ptr Q 0 0 0, .int .i64 n] H = some (.int .i64 (ackE q n), H') ∧ Hold H' (QO Q (q.ack n)) :=
  (ack_t hl).use0 h
def lowQ (q : Que) : Int := match q.l with
  | [] => q.next
  | b :: _ => b.1
theorem low_h {Q : Nat} {q : Que} (h : Hold H (QO Q q)) : doCall (callW pg) ro 2 (.fn 15 []) [.ptr Q 0 0 0] H = some (.int .i64 (lowQ q), H) := by
  obtain ⟨vd, v, h⟩ := QO.at h
  exact low_2 h
theorem Run.low {q : Que} {lo hi : Nat} (h : Run q lo hi) : lowQ q = lo + 1 := by
  have hlen := h.len
  have hle := h.le
  have hn := h.next
  unfold lowQ
  cases hl : q.l with
  | nil => rw [hl] at hlen; simp at hlen; dsimp only; omega
  | cons b l =>
    have := h.at_ 0 b (by rw [hl]; rfl)
    dsimp only; simpa using this

theorem Run.ackI {q : Que} {lo hi : Nat} {n : Int} (h : Run q lo hi) (hn : n ≤ hi) : Run (q.ack n) (max lo n.toNat) hi ∧ ackE q n = 0 := by
  have hlen := h.len
  have hle := h.le
  have hnx : ¬ q.next ≤ n := by have := h.next; omega
  unfold Que.ack ackE
  rw [if_neg hnx, if_neg hnx]
  refine ⟨?_, rfl⟩
  have hk := kept_run (n := n) q.l lo h.at_
  have e : (n - lo).toNat = max lo n.toNat - lo := by omega
  rw [e] at hk
  rw [hk]
  refine ⟨h.next, by simp; omega, by omega, fun i x hx => ?_, by have := h.dl; dsimp only; omega⟩
  dsimp only at hx
  rw [List.getElem?_drop] at hx
  have := h.at_ _ x hx
  push_cast at this ⊢; omega
theorem Run.ackNo {q : Que} {lo hi : Nat} {n : Int} (h : Run q lo hi) (hn : ¬ n ≤ hi) : q.ack n = q ∧ ackE q n = 230 := by
  have hnx : q.next ≤ n := by have := h.next; omega
  unfold Que.ack ackE
  rw [if_pos hnx, if_pos hnx]
  exact ⟨rfl, rfl⟩
/-- An ack, whatever its number. -/
theorem Run.acks {q : Que} {lo hi : Nat} (n : Int) (h : Run q lo hi) : ∃ lo', Run (q.ack n) lo' hi ∧ (n ≤ hi → ackE q n = 0 ∧ lo' = max lo n.toNat) ∧ (¬ n ≤ hi → ackE q n = 230 ∧ lo' = lo) := by
  by_cases hn : n ≤ hi
  · obtain ⟨h1, h2⟩ := h.ackI hn
    exact ⟨_, h1, fun _ => ⟨h2, rfl⟩, fun h => absurd hn h⟩
  · obtain ⟨h1, h2⟩ := h.ackNo hn
    exact ⟨lo, by rw [h1]; exact h, fun h => absurd h hn, fun _ => ⟨h2, rfl⟩⟩

theorem ex_of_map {x : Option (IV × Hp)} {v : IV} (h : x.map (·.1) = some v) : ∃ H', x = some (v, H') := by
  obtain ⟨⟨v', H'⟩, h, e⟩ := Option.map_eq_some_iff.1 h
  exact ⟨H', by rw [h]; simp only at e; rw [e]⟩

namespace Acks
theorem loop {a b : IV} {k : Nat} (hk : k < 20) : ∀ (d i : Nat) (H : Hp) (q : Que), i + d = k → Run q (i - 6) i → Hold H (QO 0 q) →
    ∃ (H' : Hp) (q' : Que), runW pg 0 fn5L0 [(1, a), (2, b), (7, .ptr 0 0 0 0), (8, .int .i64 k), (9, .int .i64 i)] H = some (.exit 0, [(1, a), (2, b), (7, .ptr 0 0 0 0), (8, .int .i64 k), (9, .int .i64 k), (21, .bool false)], H') ∧ Run q' (k - 6) k ∧ Hold H' (QO 0 q') := by
  have L : ∀ e H, runW pg 0 fn5L0 e H = seqO pg 0 fn5L0 (runW pg 0 fn5B0 (keepE [1, 2, 7, 8, 9] e) H) := fun e H => runW_loopO
  intro d
  induction d with
  | zero =>
    intro i H q hi hr h
    have : i = k := by omega
    subst this
    refine ⟨H, q, ?_, hr, h⟩
    rw [L]; simp [fn5B0]
  | succ d ih =>
    intro i H q hi hr h
    have hlen := hr.len
    have hdl := hr.dl
    have hnx := hr.next
    obtain ⟨H1, hp, h1⟩ := put_h (t := 1) h ⟨by omega, by omega, by omega, by omega⟩
    have hr1 := hr.put (t := 1) (by omega)
    have e : (if 6 ≤ i - (i - 6) then i - 6 + 1 else i - 6) = i + 1 - 6 := by split <;> omega
    rw [e] at hr1
    obtain ⟨H', q', h2, h3, h4⟩ := ih (i + 1) H1 _ (by omega) hr1 h1
    refine ⟨H', q', ?_, h3, h4⟩
    have hlt : (i : Int) < k := by omega
    have w1 : IntKind.i64.wrap ((i : Int) + 1) = i + 1 := by rw [IntKind.wrap_i64]; omega
    push_cast at h2
    rw [L]
    simp [-getElem?_pos, fn5B0, hlt, hp, w1, h2]

theorem law {n a b : Int} (hn : 0 ≤ n ∧ n < 256) (hb : -9223372036854775808 ≤ b ∧ b < 9223372036854775808) : ∃ H', callW pg 0 5 [.int .u8 n, .int .i64 a, .int .i64 b] [] = some (.bool true, H') := by
  rw [callW_eqO (fn := fn5) rfl rfl]
  obtain ⟨k, hk⟩ : ∃ k : Nat, (k : Int) = n % 20 := ⟨(n % 20).toNat, by omega⟩
  have hk20 : k < 20 := by omega
  have hrem : binV .rem (.int .u8 n) (.int .u8 20) = some (.int .u8 k) := by rw [bin_rem (by decide), Int.tmod_eq_emod_of_nonneg hn.1, hk]
  have w1 : IntKind.i64.wrap (k : Int) = k := by rw [IntKind.wrap_i64]; omega
  have w2 : IntKind.i64.wrap ((k : Int) + 1) = k + 1 := by rw [IntKind.wrap_i64]; omega
  obtain ⟨H1, q, hr, hR, h1⟩ := loop (a := .int .i64 a) (b := .int .i64 b) (k := k) hk20 k 0 _ ⟨[], [], 1⟩ (by omega) ⟨rfl, rfl, by omega, by simp, by simp⟩ start
  have hlen := hR.len
  obtain ⟨lo1, hR1, p1, p2⟩ := hR.acks a
  obtain ⟨H2, ha, h2⟩ := ack_h (n := a) h1 (by omega)
  have hlen1 := hR1.len
  have hle1 := hR1.le
  obtain ⟨lo2, hR2, p3, p4⟩ := hR1.acks b
  obtain ⟨H3, hb3, h3⟩ := ack_h (n := b) h2 (by omega)
  have hlen2 := hR2.len
  have hle2 := hR2.le
  obtain ⟨hR3, e3⟩ := hR2.ackI (n := (k : Int)) (Int.le_refl _)
  obtain ⟨H4, hc, h4⟩ := ack_h (n := (k : Int)) h3 (by omega)
  rw [e3] at hc
  have hlen3 := hR3.len
  have l1 := fun ro => low_h (ro := ro) h2
  have l2 := fun ro => low_h (ro := ro) h3
  have l3 := fun ro => low_h (ro := ro) h4
  rw [hR1.low] at l1
  rw [hR2.low] at l2
  rw [hR3.low] at l3
  have e4 : ((max lo2 ((k : Int).toNat) : Nat) : Int) = k := by omega
  rw [e4] at l3
  obtain ⟨vd, v, hat⟩ := QO.at h4
  obtain ⟨vi, hall, hsl⟩ := all_2 (ro := 0) hat (by omega)
  have hsll := hsl.len
  have e5 : (((q.ack a).ack b).ack (k : Int)).l.length = 0 := by omega
  rw [List.length_map, e5] at hsll
  have n1 := newQ (ro := 0) (H := [])
  simp at n1 hr
  refine ex_of_map ?_
  by_cases ca : a ≤ k
  · obtain ⟨q1, q2⟩ := p1 ca
    rw [q1] at ha
    by_cases cb : b ≤ k
    · obtain ⟨q3, q4⟩ := p3 cb
      rw [q3] at hb3
      have cb' : ¬ (k : Int) < b := by omega
      by_cases cl : (lo1 : Int) + 1 ≤ b
      · have cl' : ¬ b < (lo1 : Int) + 1 := by omega
        have w3 : IntKind.i64.wrap (b + 1) = b + 1 := by rw [IntKind.wrap_i64]; omega
        have e6 : (lo2 : Int) = b := by omega
        rw [e6] at l2
        simp [-getElem?_pos, fn5, known_2, n1, hrem, w1, w2, w3, hr, ha, hb3, l1, l2, l3, hc, hall, hsll, ca, cb, cb', cl, cl']
      · have cl' : b < (lo1 : Int) + 1 := by omega
        have e6 : (lo2 : Int) = lo1 := by omega
        rw [e6] at l2
        simp [-getElem?_pos, fn5, known_2, n1, hrem, w1, w2, hr, ha, hb3, l1, l2, l3, hc, hall, hsll, ca, cb, cb', cl, cl']
    · obtain ⟨q3, q4⟩ := p4 cb
      rw [q3] at hb3
      have cb' : (k : Int) < b := by omega
      rw [q4] at l2
      by_cases cl : (lo1 : Int) + 1 ≤ b
      · simp [-getElem?_pos, fn5, known_2, n1, hrem, w1, w2, hr, ha, hb3, l1, l2, l3, hc, hall, hsll, ca, cb, cb', cl]
      · simp [-getElem?_pos, fn5, known_2, n1, hrem, w1, w2, hr, ha, hb3, l1, l2, l3, hc, hall, hsll, ca, cb, cb', cl]
  · obtain ⟨q1, q2⟩ := p2 ca
    rw [q1] at ha
    by_cases cb : b ≤ k
    · obtain ⟨q3, q4⟩ := p3 cb
      rw [q3] at hb3
      have cb' : ¬ (k : Int) < b := by omega
      by_cases cl : (lo1 : Int) + 1 ≤ b
      · have cl' : ¬ b < (lo1 : Int) + 1 := by omega
        have w3 : IntKind.i64.wrap (b + 1) = b + 1 := by rw [IntKind.wrap_i64]; omega
        have e6 : (lo2 : Int) = b := by omega
        rw [e6] at l2
        simp [-getElem?_pos, fn5, known_2, n1, hrem, w1, w2, w3, hr, ha, hb3, l1, l2, l3, hc, hall, hsll, ca, cb, cb', cl, cl']
      · have cl' : b < (lo1 : Int) + 1 := by omega
        have e6 : (lo2 : Int) = lo1 := by omega
        rw [e6] at l2
        simp [-getElem?_pos, fn5, known_2, n1, hrem, w1, w2, hr, ha, hb3, l1, l2, l3, hc, hall, hsll, ca, cb, cb', cl, cl']
    · obtain ⟨q3, q4⟩ := p4 cb
      rw [q3] at hb3
      have cb' : (k : Int) < b := by omega
      rw [q4] at l2
      by_cases cl : (lo1 : Int) + 1 ≤ b
      · simp [-getElem?_pos, fn5, known_2, n1, hrem, w1, w2, hr, ha, hb3, l1, l2, l3, hc, hall, hsll, ca, cb, cb', cl]
      · simp [-getElem?_pos, fn5, known_2, n1, hrem, w1, w2, hr, ha, hb3, l1, l2, l3, hc, hall, hsll, ca, cb, cb', cl]
theorem wf (x0 : (Ty.int .u8).den) (x1 x2 : (Ty.int .i64).den) (ok0 : (Ty.int .u8).ok x0) (_ : (Ty.int .i64).ok x1) (ok2 : (Ty.int .i64).ok x2) : ∃ H', callW pg 0 5 [(Ty.int .u8).arg x0, (Ty.int .i64).arg x1, (Ty.int .i64).arg x2] [] = some (.bool true, H') :=
  law (wf_u8 _ ok0) (wf_i64 _ ok2)
end Acks
end Go.Proofs.Ytgpooiahnpemjaa
