import Derived.Test.YtdaajnaphkepmaaTring14
namespace Go.Proofs.Ytdaajnaphkepmaa
open Go Go.Vs
variable {ro : Nat} {H : Hp}

/-! the document's values -/
def vals (l : List Smp) : List Num := l.map fun s => normN s.2

theorem V0_eq {e : Env} : runW pg ro fn40L0 e H = seqO pg ro fn40L0 (runW pg ro fn40B0 (keepE [0, 3, 4] e) H) := runW_loopO

theorem vloop {A : IV} {l : List Smp} (hA : SlA A 3 (l.map srow)) (hl : l.length ≤ 100000) : ∀ (n i : Nat) (H : Hp) (w : IV), i + n = l.length → ro ≤ H.length → Sl H w 2 ((vals (l.take i)).map nrow) → (∀ b ∈ blkS w, ro ≤ b) →
    ∃ e' w' H', get e' 3 = w' ∧ runW pg ro fn40L0 [(0, A), (3, w), (4, .int .i64 i)] H = some (.exit 0, e', H') ∧ Sl H' w' 2 ((vals l).map nrow) ∧ Stp H H' (blkS w) (blkS w')
  | 0, i, H, w, hi', hro, hw, hd => by
    have e : i = l.length := by omega
    have hlen := hA.len
    rw [List.length_map] at hlen
    have hf : ¬ ((i : Int) < l.length) := by omega
    refine ⟨[(0, A), (3, w), (4, .int .i64 i), (8, .bool false)], w, H, rfl, ?_, ?_, Stp.refl⟩
    · rw [V0_eq]; simp [fn40B0, hlen, hf]
    · rw [e, List.take_length] at hw; exact hw
  | n + 1, i, H, w, hi', hro, hw, hd => by
    have hlen := hA.len
    rw [List.length_map] at hlen
    obtain ⟨s, hs⟩ : ∃ s, l[i]? = some s := ⟨_, List.getElem?_eq_getElem (by omega)⟩
    obtain ⟨t, o, m⟩ := s
    have hrow : (l.map srow)[i]? = some [.int .i64 t, .bool o, .int .i64 m] := by rw [List.getElem?_map, hs]; rfl
    have hidx := fun H => hA.idx H i (by simp; omega)
    have hlt : (i : Int) < l.length := by omega
    have w1 : IntKind.i64.wrap ((i : Int) + 1) = i + 1 := by rw [IntKind.wrap_i64]; omega
    have hwl : (vals (l.take i)).length = i := by simp [vals]; omega
    obtain ⟨b2, g2, o2, n2, c2, H2, happ, hsl2, hst2⟩ := (hw.app [{ rows := [nrow (normN (o, m))] }]).push (r := nrow (normN (o, m))) (y := .arr H.length 0 0 1 1 true) (bytes := 16) (ro := ro) (by simp) rfl
      (by rw [List.length_map, hwl]; unfold room; omega) hd
    have htk : vals (l.take (i + 1)) = vals (l.take i) ++ [normN (o, m)] := by
      unfold vals; rw [List.take_add_one, hs]; simp
    have hw2 : Sl H2 (.arr b2 g2 o2 n2 c2 false) 2 ((vals (l.take (i + 1))).map nrow) := by rw [htk, List.map_append]; exact hsl2
    have hst1 : Stp H H2 (blkS w) (blkS (.arr b2 g2 o2 n2 c2 false)) := (Stp.app (Y := [{ rows := [nrow (normN (o, m))] }])).trans hst2
    obtain ⟨e', w', H', he, hrun, h1, h2⟩ := vloop hA hl n (i + 1) H2 _ (by omega) (by have := hst1.len; omega) hw2 (fun b hb => by
      rcases hst1.new b hb with h | h
      · exact hd b h
      · omega)
    push_cast at hrun
    refine ⟨e', w', H', he, ?_, h1, hst1.trans h2⟩
    rw [V0_eq]
    simp only [nrow] at happ
    simp [-getElem?_pos, fn40B0, hlen, hlt, hidx, hrow, norm_2, happ, w1, hrun]

theorem values_c {A : IV} {l : List Smp} (hA : SlA A 3 (l.map srow)) (hl : l.length ≤ 100000) (hro : ro ≤ H.length) : ∃ w H', callW pg ro 40 [A] H = some (w, H') ∧ Sl H' w 2 ((vals l).map nrow) ∧ Stp H H' [] (blkS w) := by
  obtain ⟨e', w', H', he, hrun, h1, h2⟩ := vloop (ro := ro) hA hl l.length 0 H .nsl (by omega) hro (by simp [vals]; exact Sl.nil) (by simp [blkS])
  refine ⟨w', H', ?_, h1, h2⟩
  rw [callW_eqO (fn := fn40) rfl rfl]
  simp at hrun
  simp [-getElem?_pos, fn40, hrun, he]

theorem plain_nrow {l : List Num} : ∀ r ∈ l.map nrow, ∀ x ∈ r, plainD 10 x = true := by
  intro r hr x hx
  obtain ⟨s, _, rfl⟩ := List.mem_map.1 hr
  simp [nrow] at hx
  rcases hx with rfl | rfl <;> rfl
theorem vals_ok {l : List Smp} (h : Given l) : ∀ x ∈ vals l, NumOk x.2 := by
  intro x hx
  obtain ⟨s, hs, rfl⟩ := List.mem_map.1 hx
  exact normN_ok (h s hs)
theorem vals_len {l : List Smp} : (vals l).length = l.length := by simp [vals]

abbrev sAvg : ByteArray := ⟨#[97, 118, 103]⟩
abbrev sDelta : ByteArray := ⟨#[100, 101, 108, 116, 97]⟩
theorem q1 : binV .eql (.str ⟨#[97, 118, 103]⟩) (.str ⟨#[115, 117, 109]⟩) = some (.bool false) := by kernel_rfl
theorem q2 : binV .eql (.str ⟨#[97, 118, 103]⟩) (.str ⟨#[97, 118, 103]⟩) = some (.bool true) := by kernel_rfl
theorem d1 : binV .eql (.str ⟨#[100, 101, 108, 116, 97]⟩) (.str ⟨#[115, 117, 109]⟩) = some (.bool false) := by kernel_rfl
theorem d2 : binV .eql (.str ⟨#[100, 101, 108, 116, 97]⟩) (.str ⟨#[97, 118, 103]⟩) = some (.bool false) := by kernel_rfl
theorem d3 : binV .eql (.str ⟨#[100, 101, 108, 116, 97]⟩) (.str ⟨#[99, 111, 117, 110, 116]⟩) = some (.bool false) := by kernel_rfl
theorem d4 : binV .eql (.str ⟨#[100, 101, 108, 116, 97]⟩) (.str ⟨#[108, 97, 115, 116]⟩) = some (.bool false) := by kernel_rfl
theorem d5 : binV .eql (.str ⟨#[100, 101, 108, 116, 97]⟩) (.str ⟨#[109, 105, 110]⟩) = some (.bool false) := by kernel_rfl
theorem d6 : binV .eql (.str ⟨#[100, 101, 108, 116, 97]⟩) (.str ⟨#[109, 97, 120]⟩) = some (.bool false) := by kernel_rfl
theorem d7 : binV .eql (.str ⟨#[100, 101, 108, 116, 97]⟩) (.str ⟨#[105, 110, 99, 114, 101, 97, 115, 101]⟩) = some (.bool false) := by kernel_rfl
theorem d8 : binV .eql (.str ⟨#[100, 101, 108, 116, 97]⟩) (.str ⟨#[114, 97, 116, 101]⟩) = some (.bool false) := by kernel_rfl
theorem d9 : binV .eql (.str ⟨#[100, 101, 108, 116, 97]⟩) (.str ⟨#[100, 101, 108, 116, 97]⟩) = some (.bool true) := by kernel_rfl

def ovAvg (l : List Smp) : Num × Bool := if l.length = 0 then ((false, 0), false) else (divN (sumL (vals l)) (false, l.length * 1000000), true)
def ovDelta (l : List Smp) : Num × Bool := if l.length < 2 then ((false, 0), false) else (subN ((vals l).getD (l.length - 1) (false, 0)) ((vals l).getD 0 (false, 0)), true)

theorem ovAvg_2 {A : IV} {l : List Smp} (hA : SlA A 3 (l.map srow)) (hG : Given l) (hl : l.length ≤ 100000) {d : Int} : doCall (callW pg) ro 2 (.fn 41 []) [A, .str sAvg, .int .i64 d] H = some (.tup [nval (ovAvg l).1, .bool (ovAvg l).2], H) := by
  have hc : ∃ H2, callW pg H.length 41 [A, .str sAvg, .int .i64 d] H = some (.tup [nval (ovAvg l).1, .bool (ovAvg l).2], H2) := by
    obtain ⟨w, H1, v1, s1, t1⟩ := values_c (ro := H.length) (H := H ++ [{ rows := [[.bool false, .int .i64 0]] }]) hA hl (by simp)
    have hlen := s1.len
    rw [List.length_map, vals_len] at hlen
    have hcell : H1[H.length]? = some { rows := [[.bool false, .int .i64 0]] } := by rw [t1.same _ (by simp) (by simp)]; simp
    have hlt := (List.getElem?_eq_some_iff.1 hcell).1
    have hle : H.length ≤ H1.length := by omega
    rw [callW_eqO (fn := fn41) rfl rfl]
    by_cases h0 : l.length = 0
    · have h0' : (l.length : Int) = 0 := by omega
      have h0'' : l = [] := List.length_eq_zero_iff.1 h0
      have e : ovAvg l = ((false, 0), false) := by unfold ovAvg; rw [if_pos h0]
      rw [e]
      simp [-getElem?_pos, fn41, hle, v1, hlen, q1, q2, h0', h0, h0'', hcell, hlt, nval, List.getElem?_set]
    · have h0' : ¬ (l.length : Int) = 0 := by omega
      have h0'' : ¬ l = [] := fun e => h0 (by rw [e]; rfl)
      have e : ovAvg l = (divN (sumL (vals l)) (false, l.length * 1000000), true) := by unfold ovAvg; rw [if_neg h0]
      rw [e]
      have hi := fun ro H => inc_g (ro := ro) (H := H) (A := A) (l := l) (by rw [slA_frz hA]; exact hA) hG hl
      have hs := fun ro Y => sum2_g (ro := ro) (H := H1 ++ Y) (A := w) (l := vals l) ((s1.app Y).frzA plain_nrow) (by rw [vals_len]; exact hl) (vals_ok hG)
      have hw := fun ro H => whole_2 (ro := ro) (H := H) (n := (l.length : Int)) (by omega) (by omega)
      have hok := sumL_ok (l := vals l)
      obtain ⟨⟨so, sn⟩, hsm⟩ : ∃ y, sumL (vals l) = y := ⟨_, rfl⟩
      rw [hsm] at hs hok ⊢
      have hd := fun ro H => div2_2 (ro := ro) (H := H) (a := (so, sn)) (b := (false, (l.length : Int) * 1000000)) hok (by unfold NumOk; dsimp only; omega)
      obtain ⟨⟨do_, dn⟩, hdm⟩ : ∃ y, divN (so, sn) (false, (l.length : Int) * 1000000) = y := ⟨_, rfl⟩
      rw [hdm] at hd ⊢
      obtain ⟨⟨⟨io, inn⟩, ib⟩, hin⟩ : ∃ y, incL l = y := ⟨_, rfl⟩
      rw [hin] at hi
      simp only [nval] at hi hs hd ⊢
      simp [-getElem?_pos, fn41, hle, v1, hlen, q1, q2, h0', h0'', hi, hs, hw, hd, hcell, hlt, List.getElem?_append_left, List.set_append_left, List.getElem?_set]
  obtain ⟨H2, hc⟩ := hc
  refine call2 (args' := [A, .str sAvg, .int .i64 d]) (by simp [slA_frz hA]) hc (by rfl) (.inl (by rfl))

theorem ovDelta_2 {A : IV} {l : List Smp} (hA : SlA A 3 (l.map srow)) (hG : Given l) (hl : l.length ≤ 100000) {d : Int} : doCall (callW pg) ro 2 (.fn 41 []) [A, .str sDelta, .int .i64 d] H = some (.tup [nval (ovDelta l).1, .bool (ovDelta l).2], H) := by
  have hc : ∃ H2, callW pg H.length 41 [A, .str sDelta, .int .i64 d] H = some (.tup [nval (ovDelta l).1, .bool (ovDelta l).2], H2) := by
    obtain ⟨w, H1, v1, s1, t1⟩ := values_c (ro := H.length) (H := H ++ [{ rows := [[.bool false, .int .i64 0]] }]) hA hl (by simp)
    have hlen := s1.len
    rw [List.length_map, vals_len] at hlen
    have hcell : H1[H.length]? = some { rows := [[.bool false, .int .i64 0]] } := by rw [t1.same _ (by simp) (by simp)]; simp
    have hlt := (List.getElem?_eq_some_iff.1 hcell).1
    have hle : H.length ≤ H1.length := by omega
    rw [callW_eqO (fn := fn41) rfl rfl]
    by_cases h0 : l.length < 2
    · have h0' : (l.length : Int) < 2 := by omega
      have e : ovDelta l = ((false, 0), false) := by unfold ovDelta; rw [if_pos h0]
      rw [e]
      simp [-getElem?_pos, fn41, hle, v1, hlen, d1, d2, d3, d4, d5, d6, d7, d8, d9, h0', hcell, hlt, nval, List.getElem?_set]
    · have h0' : ¬ (l.length : Int) < 2 := by omega
      obtain ⟨p, hp⟩ : ∃ p, l.length = p + 1 := ⟨l.length - 1, by omega⟩
      have hi := fun ro H => inc_g (ro := ro) (H := H) (A := A) (l := l) (by rw [slA_frz hA]; exact hA) hG hl
      obtain ⟨⟨⟨io, inn⟩, ib⟩, hin⟩ : ∃ y, incL l = y := ⟨_, rfl⟩
      rw [hin] at hi
      obtain ⟨⟨zo, zn⟩, hz⟩ : ∃ x, (vals l)[p]? = some x := ⟨_, List.getElem?_eq_getElem (by rw [vals_len]; omega)⟩
      obtain ⟨⟨xo, xn⟩, hx⟩ : ∃ x, (vals l)[0]? = some x := ⟨_, List.getElem?_eq_getElem (by rw [vals_len]; omega)⟩
      have hzn := vals_ok hG _ (List.mem_of_getElem? hz)
      have e : ovDelta l = (subN (zo, zn) (xo, xn), true) := by
        unfold ovDelta
        rw [if_neg h0, List.getD_eq_getElem?_getD, List.getD_eq_getElem?_getD, show l.length - 1 = p by omega, hz, hx]; rfl
      rw [e]
      have hsu := fun ro H => sub2_2 (ro := ro) (H := H) (a := (zo, zn)) (b := (xo, xn)) hzn
      obtain ⟨⟨do_, dn⟩, hdm⟩ : ∃ y, subN (zo, zn) (xo, xn) = y := ⟨_, rfl⟩
      rw [hdm] at hsu ⊢
      obtain ⟨b1, B1, j1, _, i1, hB1, _, r1⟩ := (s1.app [{ rows := [[.bool io, .int .i64 inn]] }]).idx (i := p) (row := [.bool zo, .int .i64 zn]) (by rw [List.getElem?_map, hz]; rfl)
      obtain ⟨b2, B2, j2, _, i2, hB2, _, r2⟩ := (s1.app [{ rows := [[.bool io, .int .i64 inn]] }]).idx (i := 0) (row := [.bool xo, .int .i64 xn]) (by rw [List.getElem?_map, hx]; rfl)
      simp only [Int.natCast_zero] at i2
      have w1 : IntKind.i64.wrap ((l.length : Int) - 1) = p := by rw [IntKind.wrap_i64]; omega
      simp only [nval] at hi hsu ⊢
      simp [-getElem?_pos, fn41, hle, v1, hlen, d1, d2, d3, d4, d5, d6, d7, d8, d9, h0', hi, w1, i1, hB1, r1, i2, hB2, r2, hsu, hcell, hlt, List.getElem?_append_left, List.set_append_left, List.getElem?_set]
  obtain ⟨H2, hc⟩ := hc
  refine call2 (args' := [A, .str sDelta, .int .i64 d]) (by simp [slA_frz hA]) hc (by rfl) (.inl (by rfl))

end Go.Proofs.Ytdaajnaphkepmaa
