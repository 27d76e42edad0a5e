/- A queue as an object: batches of one group, without rows. -/
import Derived.Test.YtgpooiahnpemjaaFnsLf
import Derived.Test.YtgpooiahnpemjaaVsSq
namespace Go.Proofs.Ytgpooiahnpemjaa
open Go Go.Vs
variable {ro : Nat} {H : Hp}

/-! no rows -/
theorem cloneR_nil : callW pg ro 53 [.nsl] H = some (.nsl, H) := by
  rw [callW_eqO (fn := fn53) rfl rfl]
  simp [-getElem?_pos, fn53]
theorem ins_nil {f : IV} : callW pg ro 77 [.nsl, .int .i64 0, .int .i64 0, f] H = some (.tup [], H) := by
  have L : ∀ e, runW pg ro fn77L1 e H = seqO pg ro fn77L1 (runW pg ro fn77B1 (keepE [0, 1, 2, 3, 8] e) H) := fun e => runW_loopO
  have w1 : IntKind.i64.wrap 1 = 1 := by decide
  rw [callW_eqO (fn := fn77) rfl rfl]
  simp [-getElem?_pos, fn77, L, fn77B1, w1]
theorem stable_nil {f : IV} : callW pg ro 70 [.nsl, .int .i64 0, f] H = some (.tup [], H) := by
  have L : ∀ e, runW pg ro fn70L0 e H = seqO pg ro fn70L0 (runW pg ro fn70B0 (keepE [0, 1, 2, 6, 7, 8] e) H) := fun e => runW_loopO
  have L2 : ∀ e, runW pg ro fn70L2 e H = seqO pg ro fn70L2 (runW pg ro fn70B2 (keepE [0, 1, 2, 6] e) H) := fun e => runW_loopO
  rw [callW_eqO (fn := fn70) rfl rfl]
  simp [-getElem?_pos, fn70, L, fn70B0, L2, fn70B2, ins_nil]
theorem sortS_nil {f : IV} : callW pg ro 55 [.nsl, f] H = some (.tup [], H) := by
  rw [callW_eqO (fn := fn55) rfl rfl]
  simp [-getElem?_pos, fn55, stable_nil]
theorem sort_nil : callW pg ro 33 [.nsl] H = some (.nsl, H) := by
  rw [callW_eqO (fn := fn33) rfl rfl]
  simp [-getElem?_pos, fn33, cloneR_nil, sortS_nil]
theorem copied_nil : callW pg ro 32 [.nsl] H = some (.nsl, H) := by
  have L : ∀ e, runW pg ro fn32L0 e H = seqO pg ro fn32L0 (runW pg ro fn32B0 (keepE [3, 8, 9, 10] e) H) := fun e => runW_loopO
  rw [callW_eqO (fn := fn32) rfl rfl]
  simp [-getElem?_pos, fn32, cloneR_nil, L, fn32B0]

/-! a batch, a queue -/
abbrev Bt := Int × Int
def gS : ByteArray := ⟨#[103]⟩
def brow (b : Bt) : List IV := [.int .i64 b.1, .int .i64 b.2, .str gS, .nsl]
def nrow (n : Int) : List IV := [.int .i64 n]
theorem brow_plain {l : List Bt} : ∀ r ∈ l.map brow, ∀ x ∈ r, plainD 10 x = true := by
  intro r hr
  obtain ⟨b, _, rfl⟩ := List.mem_map.1 hr
  intro x hx
  simp [brow] at hx
  rcases hx with rfl | rfl | rfl | rfl <;> rfl
theorem nrow_plain {l : List Int} : ∀ r ∈ l.map nrow, ∀ x ∈ r, plainD 10 x = true := by
  intro r hr
  obtain ⟨b, _, rfl⟩ := List.mem_map.1 hr
  intro x hx
  simp [nrow] at hx
  subst hx; rfl

structure Que where
  dr : List Int
  l : List Bt
  next : Int
structure QAt (H : Hp) (Q : Nat) (vd v : IV) (q : Que) : Prop where
  at_ : H[Q]? = some { rows := [[vd, v, .int .i64 q.next]] }
  sd : Sl H vd 1 (q.dr.map nrow)
  sl : Sq H v 4 (q.l.map brow)
  ned : Q ∉ blkS vd
  ne : Q ∉ blkS v
  ap : ∀ b ∈ blkS vd, b ∉ blkS v

def QO (Q : Nat) (q : Que) : Asn where
  p H F := ∃ vd v, QAt H Q vd v q ∧ F = Q :: (blkS vd ++ blkS v)
  lt := by
    rintro H F ⟨vd, v, h, rfl⟩ b hb
    simp only [List.mem_cons, List.mem_append] at hb
    rcases hb with rfl | hb | hb
    · exact (List.getElem?_eq_some_iff.1 h.at_).1
    · exact h.sd.lt b hb
    · exact h.sl.lt b hb
  fr := by
    rintro H H' F ⟨vd, v, h, rfl⟩ hf
    exact ⟨vd, v, ⟨by rw [hf Q (by simp)]; exact h.at_, h.sd.fr fun b hb => hf b (by simp [hb]), h.sl.fr fun b hb => hf b (by simp [hb]), h.ned, h.ne, h.ap⟩, rfl⟩

theorem newQ : callW pg ro 10 [] H = some (.ptr H.length 0 0 0, H ++ [{ rows := [[.nsl, .nsl, .int .i64 1]] }]) := by
  rw [callW_eqO (fn := fn10) rfl rfl]
  simp [fn10]
theorem newQ_hold : ∃ F, (QO H.length ⟨[], [], 1⟩).p (H ++ [{ rows := [[.nsl, .nsl, .int .i64 1]] }]) F ∧ ∀ b ∈ F, H.length ≤ b :=
  ⟨_, ⟨.nsl, .nsl, ⟨by simp, Sl.nil, Sq.nil, by simp [blkS], by simp [blkS], by simp [blkS]⟩, rfl⟩, by simp [blkS]⟩

structure QueOk (q : Que) : Prop where
  len : q.l.length ≤ 6
  dlen : q.dr.length ≤ 1000
  n1 : 0 ≤ q.next
  n2 : q.next ≤ 1000000000

/-! the least number -/
theorem low_2 {Q : Nat} {vd v : IV} {q : Que} (h : QAt H Q vd v q) : doCall (callW pg) ro 2 (.fn 15 []) [.ptr Q 0 0 0] H = some (.int .i64 (match q.l with | [] => q.next | b :: _ => b.1), H) := by
  refine call2 (H2 := H) (args' := [.ptr Q 0 0 0]) rfl ?_ rfl (.inl rfl)
  rw [callW_eqO (fn := fn15) rfl rfl]
  have hQ := h.at_
  have hlen := h.sl.len
  cases hl : q.l with
  | nil =>
    rw [hl] at hlen
    simp at hlen
    simp [-getElem?_pos, fn15, hQ, hlen]
  | cons b l =>
    obtain ⟨k, B, j, hb, hidx, hB, hfz, hrow⟩ := h.sl.idx (i := 0) (row := brow b) (by rw [hl]; rfl)
    rw [hl] at hlen
    simp at hlen hidx
    have h0 : ¬ ((l.length : Int) + 1 = 0) := by omega
    simp only [brow] at hrow
    simp [-getElem?_pos, fn15, hQ, hlen, h0, hidx, hB, hrow]

/-! dropping one -/
def lastOf (l : List Int) : List Int := l.drop (l.length - 1000)

theorem drop_t {Q : Nat} {vd v : IV} {q : Que} {n : Int} (h : QAt H Q vd v q) (ho : QueOk q) :
    ∃ H' vd', callW pg 0 30 [.ptr Q 0 0 0, .int .i64 n] H = some (.tup [], H') ∧ QAt H' Q vd' v { q with dr := lastOf (q.dr ++ [n]) } ∧ Stp H H' (Q :: (blkS vd ++ blkS v)) (Q :: (blkS vd' ++ blkS v)) := by
  have hQ := h.at_
  have hlt : Q < H.length := (List.getElem?_eq_some_iff.1 hQ).1
  have hsd1 : Sl (H ++ [{ rows := [[.int .i64 n]] }]) vd 1 (q.dr.map nrow) := h.sd.app _
  obtain ⟨b, g, f, n2, c, H2, happ, hsl2, hst⟩ := hsd1.push (r := nrow n) (y := .arr H.length 0 0 1 1 true) (bytes := 8) (ro := 0) (by simp [nrow]) rfl
    (by have := ho.dlen; rw [List.length_map]; unfold room; omega) (fun _ _ => Nat.zero_le _)
  have hlH : H.length + 1 ≤ H2.length := by have := hst.len; simpa using this
  have hQ2 : H2[Q]? = some { rows := [[vd, v, .int .i64 q.next]] } := by
    rw [hst.same Q (by simp; omega) h.ned, List.getElem?_append_left hlt]; exact hQ
  have hlt2 := (List.getElem?_eq_some_iff.1 hQ2).1
  have hnb : Q ∉ blkS (.arr b g f n2 c false) := fun hb => by
    rcases hst.new Q (by simpa [blkS] using hb) with h1 | h1
    · exact h.ned h1
    · simp at h1; omega
  have hvb : ∀ x ∈ blkS v, x ≠ b := fun x hx e => by
    subst e
    rcases hst.new x (by simp) with h1 | h1
    · exact h.ap x h1 hx
    · have := h.sl.lt x hx; simp at h1; omega
  have hsl3 : Sl (H2.set Q { rows := [[.arr b g f n2 c false, v, .int .i64 q.next]] }) (.arr b g f n2 c false) 1 ((q.dr ++ [n]).map nrow) := by
    rw [List.map_append]; exact hsl2.set hnb
  obtain ⟨k, hk⟩ : ∃ k, k = (q.dr ++ [n]).length - 1000 := ⟨_, rfl⟩
  obtain ⟨vd', hs1, hs2, hs3⟩ := hsl3.from (k := k) (by simp at hk ⊢; omega) (by simp)
  have hlen2 := hsl3.len
  have hmx : (max (IntKind.i64.wrap ((q.dr.length : Int) + 1 - 1000)) 0).toNat = k := by
    have := ho.dlen
    rw [IntKind.wrap_i64]; simp at hk; omega
  have hge : 0 ≤ max (IntKind.i64.wrap ((q.dr.length : Int) + 1 - 1000)) 0 := by omega
  refine ⟨H2.set Q { rows := [[vd', v, .int .i64 q.next]] }, vd', ?_, ⟨by rw [List.getElem?_set_self hlt2], ?_, ?_, by rw [hs3]; exact hnb, h.ne, ?_⟩, ⟨by simp; omega, fun x hx hF => ?_, fun x hx => ?_⟩⟩
  · have hc := hs2.cells
    have hc2 := hs2.cok
    simp at hlen2
    subst hlen2
    rw [callW_eqO (fn := fn30) rfl rfl]
    simp [-getElem?_pos, -slSl_arr, fn30, hQ, hlt, happ, hQ2, hlt2, hmx, hge, hs1, hc, List.getElem?_append_left]
  · have e : (lastOf (q.dr ++ [n])).map nrow = ((q.dr ++ [n]).map nrow).drop k := by unfold lastOf; rw [← hk, List.map_drop]
    dsimp only
    rw [e]
    have := hs2.set (R := Q) (B := { rows := [[vd', v, .int .i64 q.next]] }) (by rw [hs3]; exact hnb)
    rwa [List.set_set] at this
  · refine Sq.set ((h.sl.app _).fr (H := H ++ [{ rows := [[.int .i64 n]] }]) fun x hx => hst.same x (by have := h.sl.lt x hx; simp; omega) fun hd => h.ap x hd hx) h.ne
  · intro x hx hv
    rw [hs3] at hx; simp [blkS] at hx
    exact hvb x hv hx
  · simp only [List.mem_cons, List.mem_append, not_or] at hF
    obtain ⟨f1, f2, f3⟩ := hF
    rw [List.getElem?_set_ne (Ne.symm f1), hst.same x (by simp; omega) f2, List.getElem?_append_left hx]
  · simp only [List.mem_cons, List.mem_append] at hx ⊢
    rw [hs3] at hx
    rcases hx with rfl | hx | hx
    · exact .inl (.inl rfl)
    · rcases hst.new x (by simpa [blkS] using hx) with h1 | h1
      · exact .inl (.inr (.inl h1))
      · simp at h1; exact .inr (by omega)
    · exact .inl (.inr (.inr hx))

end Go.Proofs.Ytgpooiahnpemjaa
