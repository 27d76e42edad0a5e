/- The law 'SenderWaits'. -/
import Derived.Test.YtemjonhhcadbbaaTsnd4
namespace Go.Proofs.Ytemjonhhcadbbaa
open Go Go.Vs
variable {ro : Nat} {H : Hp}
namespace Wts

/-- The last try, the wait: ahead of a round. -/
structure St where
  last : Int
  wait : Int
  w : Int
  a : Int

/-- What is so ahead of a round at t. -/
def Inv (t0 t : Int) (s : St) : Prop :=
  t = t0 ∧ s.last = -1 ∧ s.wait = 1 ∧ s.w = 1 ∧ s.a = 0 ∨ t0 < t ∧ t0 ≤ s.last ∧ s.last < t ∧ s.a = s.last + s.wait ∧ t ≤ s.a ∧ 1 ≤ s.wait ∧ s.wait ≤ 8 ∧ s.w = min (2 * s.wait) 8

theorem Inv.bounds {t0 t : Int} {s : St} (h : Inv t0 t s) (h0 : 0 ≤ t0) : 1 ≤ s.w ∧ s.w ≤ 8 ∧ 0 ≤ s.a ∧ 1 ≤ s.wait ∧ s.wait ≤ 8 ∧ -1 ≤ s.last ∧ s.last < t := by
  rcases h with ⟨h1, h2, h3, h4, h5⟩ | ⟨h1, h2, h3, h4, h5, h6, h7, h8⟩
  · refine ⟨?_, ?_, ?_, ?_, ?_, ?_, ?_⟩ <;> omega
  · refine ⟨?_, ?_, ?_, ?_, ?_, ?_, ?_⟩ <;> omega

def next (t : Int) (s : St) : St := if t < s.a then s else ⟨t, if 0 ≤ s.last then min (2 * s.wait) 8 else s.wait, min (2 * s.w) 8, t + s.w⟩
theorem Inv.step {t0 t : Int} {s : St} (h : Inv t0 t s) (h0 : 0 ≤ t0) : Inv t0 (t + 1) (next t s) := by
  unfold next Inv at *
  rcases h with ⟨h1, h2, h3, h4, h5⟩ | ⟨h1, h2, h3, h4, h5, h6, h7, h8⟩
  · rw [if_neg (by omega)]; dsimp only; rw [if_neg (by omega)]; right
    refine ⟨?_, ?_, ?_, ?_, ?_, ?_, ?_, ?_⟩ <;> omega
  · right
    split
    · refine ⟨?_, ?_, ?_, ?_, ?_, ?_, ?_, ?_⟩ <;> omega
    · dsimp only; rw [if_pos (by omega)]
      refine ⟨?_, ?_, ?_, ?_, ?_, ?_, ?_, ?_⟩ <;> omega

theorem dueR_no {w a t : Int} {q : Que} {b : Bt} (hq : q.l = [b]) (h : t < a) : dueR w a q t = (zLet, false, w, a) := by unfold dueR; rw [hq]; dsimp only; rw [if_pos h]
theorem dueR_yes {w a t : Int} {q : Que} {b : Bt} (hq : q.l = [b]) (h : ¬ t < a) (h2 : t ≤ 1000000 - w) : dueR w a q t = (brow b ++ [.int .i64 b.1], true, min (2 * w) 8, t + w) := by unfold dueR; rw [hq]; dsimp only; rw [if_neg h, if_pos h2]

theorem loop {from_ n : Int} (hf : 0 ≤ from_ ∧ from_ < 65536) (hn : 0 ≤ n ∧ n < 256) {S Q : Nat} {q : Que} (hq : q.l = [(1, 0)]) : ∀ (k : Nat) (i : Int) (H : Hp) (s : St), 0 ≤ i → i + k = n → Inv from_ (from_ + i) s → Hold H (SQ S Q s.w s.a q) →
    ∃ (H' : Hp) (e' : Env) (s' : St), runW pg 0 fn4L0 [(0, .int .u16 from_), (1, .int .u8 n), (5, .ptr S 0 0 0), (6, .ptr Q 0 0 0), (7, .int .i64 s.last), (8, .int .i64 s.wait), (9, .int .i64 i)] H = some (.exit 0, e', H') ∧ get e' 0 = .int .u16 from_ ∧ get e' 1 = .int .u8 n ∧ get e' 5 = .ptr S 0 0 0 ∧ Hold H' (SQ S Q s'.w s'.a q) := by
  have L : ∀ e H, runW pg 0 fn4L0 e H = seqO pg 0 fn4L0 (runW pg 0 fn4B0 (keepE [0, 1, 5, 6, 7, 8, 9] e) H) := fun e H => runW_loopO
  have w3 : IntKind.i64.wrap n = n := by rw [IntKind.wrap_i64]; omega
  have w4 : IntKind.i64.wrap from_ = from_ := by rw [IntKind.wrap_i64]; omega
  intro k
  induction k with
  | zero =>
    intro i H s hi0 hi hI h
    have : i = n := by omega
    subst this
    refine ⟨H, [(0, .int .u16 from_), (1, .int .u8 i), (5, .ptr S 0 0 0), (6, .ptr Q 0 0 0), (7, .int .i64 s.last), (8, .int .i64 s.wait), (9, .int .i64 i), (24, .bool false)], s, ?_, ?_, ?_, ?_, h⟩
    · rw [L]; simp [fn4B0, w3]
    all_goals rfl
  | succ k ih =>
    intro i H s hi0 hi hI h
    have hb := hI.bounds hf.1
    have hlt : i < n := by omega
    have w1 : IntKind.i64.wrap (i + 1) = i + 1 := by rw [IntKind.wrap_i64]; omega
    have w5 : IntKind.i64.wrap (from_ + i) = from_ + i := by rw [IntKind.wrap_i64]; omega
    have w6 : IntKind.i64.wrap (from_ + i - s.last) = from_ + i - s.last := by rw [IntKind.wrap_i64]; omega
    have w7 : IntKind.i64.wrap (2 * s.wait) = 2 * s.wait := by rw [IntKind.wrap_i64]; omega
    have w8 : IntKind.i64.wrap s.wait = s.wait := by rw [IntKind.wrap_i64]; omega
    have hq1 : q.l.length ≤ 1000 := by rw [hq]; simp
    obtain ⟨H1, hd, h1⟩ := due_h (now := from_ + i) h hq1 ⟨hb.1, hb.2.1⟩ hb.2.2.1
    have hI2 := hI.step hf.1
    rw [show from_ + i + 1 = from_ + (i + 1) by omega] at hI2
    by_cases hn : from_ + i < s.a
    · rw [dueR_no hq hn] at hd h1
      have h2 := h1.app [{ rows := [zLet] }]
      obtain ⟨H3, hd3, h3⟩ := due_h (now := from_ + i) h2 hq1 ⟨hb.1, hb.2.1⟩ hb.2.2.1
      rw [dueR_no hq hn] at hd3 h3
      have h4 := h3.app [{ rows := [zLet] }]
      have e : next (from_ + i) s = s := by unfold next; rw [if_pos hn]
      rw [e] at hI2
      obtain ⟨H', e', s', hr, g1, g2, g3, g4⟩ := ih (i + 1) _ s (by omega) (by omega) hI2 h4
      refine ⟨H', e', s', ?_, g1, g2, g3, g4⟩
      -- ahead of its time, and less than the greatest wait since
      have c1 : ¬ i = 0 := by
        rcases hI with ⟨x1, x2, x3, x4, x5⟩ | ⟨x1, x2, x3, x4, x5, x6, x7, x8⟩ <;> omega
      have c2 : ¬ (8 ≤ from_ + i - s.last) := by
        rcases hI with ⟨x1, x2, x3, x4, x5⟩ | ⟨x1, x2, x3, x4, x5, x6, x7, x8⟩ <;> omega
      unfold zLet at hd hd3 hr
      rw [L]
      by_cases hl0 : 0 ≤ s.last
      · simp [-getElem?_pos, fn4B0, w3, w4, hlt, w5, hd, hd3, hl0, w6, c1, c2, w1, hr]
      · simp [-getElem?_pos, fn4B0, w3, w4, hlt, w5, hd, hd3, hl0, w6, c1, c2, w1, hr]
    · rw [dueR_yes hq hn (by omega)] at hd h1
      dsimp only at h1
      obtain ⟨H3, hd3, h3, hl3, hY⟩ := (due_t (now := from_ + i) hq1 (by omega) (by omega)).use h1 [{ rows := [brow (1, 0) ++ [.int .i64 1]] }]
      have hc := hY 0 (by simp)
      rw [dueR_no hq (by omega)] at hd3 h3
      have h4 := h3.app [{ rows := [zLet] }]
      simp only [brow, List.cons_append, List.nil_append] at hd hd3 hc h4
      simp at hc hl3
      have hl4 : H1.length < H3.length := by omega
      by_cases hl0 : 0 ≤ s.last
      · have e : next (from_ + i) s = ⟨from_ + i, min (2 * s.wait) 8, min (2 * s.w) 8, from_ + i + s.w⟩ := by unfold next; rw [if_neg hn, if_pos hl0]
        rw [e] at hI2
        obtain ⟨H', e', s', hr, g1, g2, g3, g4⟩ := ih (i + 1) _ _ (by omega) (by omega) hI2 h4
        refine ⟨H', e', s', ?_, g1, g2, g3, g4⟩
        have c1 : ¬ i = 0 := by
          rcases hI with ⟨x1, x2, x3, x4, x5⟩ | ⟨x1, x2, x3, x4, x5, x6, x7, x8⟩ <;> omega
        have c3 : from_ + i - s.last = s.wait := by
          rcases hI with ⟨x1, x2, x3, x4, x5⟩ | ⟨x1, x2, x3, x4, x5, x6, x7, x8⟩ <;> omega
        unfold zLet at hd3 hr
        rw [L]
        simp [-getElem?_pos, fn4B0, w3, w4, hlt, w5, hd, hd3, hc, hl4, List.getElem?_append_left, hl0, w6, w7, w8, c1, c3, w1, hr]
      · have e : next (from_ + i) s = ⟨from_ + i, s.wait, min (2 * s.w) 8, from_ + i + s.w⟩ := by unfold next; rw [if_neg hn, if_neg hl0]
        rw [e] at hI2
        obtain ⟨H', e', s', hr, g1, g2, g3, g4⟩ := ih (i + 1) _ _ (by omega) (by omega) hI2 h4
        refine ⟨H', e', s', ?_, g1, g2, g3, g4⟩
        have c1 : i = 0 := by
          rcases hI with ⟨x1, x2, x3, x4, x5⟩ | ⟨x1, x2, x3, x4, x5, x6, x7, x8⟩ <;> omega
        unfold zLet at hd3 hr
        rw [L]
        subst c1
        simp at hlt w5 hd hd3 hr w1
        simp [-getElem?_pos, fn4B0, w3, w4, hlt, hd, hd3, hc, hl4, List.getElem?_append_left, hl0, w1, hr]

theorem law {from_ n : Int} (hf : 0 ≤ from_ ∧ from_ < 65536) (hn : 0 ≤ n ∧ n < 256) : ∃ H', callW pg 0 4 [.int .u16 from_, .int .u8 n] [] = some (.bool true, H') := by
  rw [callW_eqO (fn := fn4) rfl rfl]
  have w3 : IntKind.i64.wrap n = n := by rw [IntKind.wrap_i64]; omega
  have w4 : IntKind.i64.wrap from_ = from_ := by rw [IntKind.wrap_i64]; omega
  have w5 : IntKind.i64.wrap (from_ + n) = from_ + n := by rw [IntKind.wrap_i64]; omega
  have h0 : Hold ([srow 1 0, { rows := [[.nsl, .nsl, .int .i64 1]] }] : Hp) (SQ 0 1 1 0 ⟨[], [], 1⟩) := start (H := [])
  obtain ⟨H2, hput, h2⟩ := put_h (t := 0) h0 ⟨by simp, by simp, by simp, by simp⟩
  obtain ⟨H3, e3, s3, r3, p1, p2, p3, h3⟩ := loop hf hn (q := Que.put ⟨[], [], 1⟩ 0) rfl n.toNat 0 H2 ⟨-1, 1, 1, 0⟩ (by omega) (by omega) (.inl ⟨by omega, rfl, rfl, rfl, rfl⟩) h2
  obtain ⟨H4, hack, h4⟩ := acked_h (now := from_ + n) h3
  have e4 : min (max (from_ + n) 0) 1000000 = from_ + n := by omega
  rw [e4] at h4
  have a2 := at_2 (ro := 0) (SQ.cell h4)
  have b2 := wait_2 (ro := 0) (SQ.cell h4)
  have n1 := newS (ro := 0) (H := [])
  have n2 := newQ (ro := 0) (H := [] ++ [srow 1 0])
  simp at n1 n2
  refine ⟨H4, ?_⟩
  simp [-getElem?_pos, fn4, known_2, n1, n2, hput, r3, p1, p2, p3, w3, w4, w5, hack, a2, b2]

theorem wf (x0 : (Ty.int .u16).den) (x1 : (Ty.int .u8).den) (ok0 : (Ty.int .u16).ok x0) (ok1 : (Ty.int .u8).ok x1) : ∃ H', callW pg 0 4 [(Ty.int .u16).arg x0, (Ty.int .u8).arg x1] [] = some (.bool true, H') :=
  law (wf_u16 _ ok0) (wf_u8 _ ok1)
end Wts
end Go.Proofs.Ytemjonhhcadbbaa
