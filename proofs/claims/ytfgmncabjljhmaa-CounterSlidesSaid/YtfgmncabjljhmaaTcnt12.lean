import Derived.Test.YtfgmncabjljhmaaTcnt11
import Derived.Test.YtfgmncabjljhmaaVsBits
namespace Go.Proofs.Ytfgmncabjljhmaa
open Go Go.Vs
variable {ro : Nat} {H : Hp}

/-! the document's numbers -/
theorem none_2 {a b : Num} : doCall (callW pg) ro 2 (.fn 33 []) [.agg [.bool a.1, .int .i64 a.2], .agg [.bool b.1, .int .i64 b.2]] H = some (.bool (ovN a.1 a.2 || ovN b.1 b.2), H) := by
  obtain ⟨ao, an⟩ := a
  obtain ⟨bo, bn⟩ := b
  have h : ∃ H2, callW pg H.length 33 [.agg [.bool ao, .int .i64 an], .agg [.bool bo, .int .i64 bn]] H = some (.bool (ovN ao an || ovN bo bn), H2) := by
    rw [callW_eqO (fn := fn33) rfl rfl]
    rw [← okov (o := ao), ← okov (o := bo)]
    cases ao
    · cases bo
      · cases h1 : okNum false an
        · simp [-getElem?_pos, fn33, is2_2, h1]
        · cases h2 : okNum false bn
          · simp [-getElem?_pos, fn33, is2_2, h1, h2]
          · simp [-getElem?_pos, fn33, is2_2, h1, h2]
      · simp [-getElem?_pos, fn33, is2_2]
    · simp [-getElem?_pos, fn33, is2_2]
  obtain ⟨H2, h⟩ := h
  exact call2p h rfl rfl

/-- The sum of two, if it fits. -/
def add2 (a b : Num) : Num := if (ovN a.1 a.2 || ovN b.1 b.2) = true then (true, 0) else fitN (a.2 + b.2)

theorem add2_2 {a b : Num} (ha : NumOk a.2) (hb : NumOk b.2) : doCall (callW pg) ro 2 (.fn 44 []) [.agg [.bool a.1, .int .i64 a.2], .agg [.bool b.1, .int .i64 b.2]] H = some (nval (add2 a b), H) := by
  obtain ⟨ao, an⟩ := a
  obtain ⟨bo, bn⟩ := b
  have h : ∃ H2, callW pg H.length 44 [.agg [.bool ao, .int .i64 an], .agg [.bool bo, .int .i64 bn]] H = some (nval (add2 (ao, an) (bo, bn)), H2) := by
    have hn := fun ro H => none_2 (ro := ro) (H := H) (a := (ao, an)) (b := (bo, bn))
    dsimp only at hn
    rw [callW_eqO (fn := fn44) rfl rfl]
    unfold add2
    cases h0 : (ovN ao an || ovN bo bn)
    · have hh : ¬ an = -9223372036854775808 ∧ ¬ bn = -9223372036854775808 := by
        unfold ovN at h0; simp at h0; exact ⟨h0.1.2, h0.2.2⟩
      unfold NumOk at ha hb
      dsimp only at ha hb
      have hw : IntKind.i64.wrap (an + bn) = (an + bn + 9223372036854775808) % 18446744073709551616 - 9223372036854775808 := IntKind.wrap_i64 _
      obtain ⟨W, hW⟩ : ∃ W, IntKind.i64.wrap (an + bn) = W := ⟨_, rfl⟩
      rw [hW] at hw
      simp only [h0, Bool.false_eq_true, if_false]
      unfold fitN
      by_cases hfit : -9223372036854775808 < an + bn ∧ an + bn < 9223372036854775808
      · have eW : W = an + bn := by omega
        rw [if_pos hfit]
        rw [eW] at hW
        clear hw
        by_cases p1 : 0 < an <;> by_cases p2 : 0 < bn <;> by_cases p3 : an + bn ≤ 0 <;> by_cases p4 : an < 0 <;> by_cases p5 : bn < 0 <;> by_cases p6 : 0 ≤ an + bn <;> first
          | (exfalso; omega)
          | (have p7 : ¬ an + bn = -9223372036854775808 := by omega
             simp [-getElem?_pos, fn44, hn, h0, hW, p1, p2, p3, p4, p5, p6, p7, nval])
      · rw [if_neg hfit]
        by_cases p1 : 0 < an <;> by_cases p2 : 0 < bn <;> by_cases p3 : W ≤ 0 <;> by_cases p4 : an < 0 <;> by_cases p5 : bn < 0 <;> by_cases p6 : 0 ≤ W <;> by_cases p7 : W = -9223372036854775808 <;> first
          | (exfalso; omega)
          | (simp [-getElem?_pos, fn44, hn, h0, hW, p1, p2, p3, p4, p5, p6, p7, ovf2_2, nval])
    · simp [-getElem?_pos, fn44, hn, h0, ovf2_2, nval]
  obtain ⟨H2, h⟩ := h
  exact call2p h rfl rfl

theorem neg2_2 {x : Num} : doCall (callW pg) ro 2 (.fn 45 []) [.agg [.bool x.1, .int .i64 x.2]] H = some (.agg [.bool (negN x).1, .int .i64 (negN x).2], H) := by
  obtain ⟨o, n⟩ := x
  have h : ∃ H2, callW pg H.length 45 [.agg [.bool o, .int .i64 n]] H = some (.agg [.bool (negN (o, n)).1, .int .i64 (negN (o, n)).2], H2) := by
    rw [callW_eqO (fn := fn45) rfl rfl]
    unfold negN
    have e := okov (o := o) (n := n)
    dsimp only
    rw [← e]
    cases h : okNum o n
    · simp [-getElem?_pos, fn45, is2_2, h, ovf2_2]
    · cases o
      · simp [-getElem?_pos, fn45, is2_2, h]
      · simp [-getElem?_pos, fn45, is2_2, h, ovf2_2]
  obtain ⟨H2, h⟩ := h
  exact call2p h rfl rfl

theorem subN_eq {a b : Num} : subN a b = add2 a (negN b) := by
  unfold subN sumL add2 anyOv totN totN totN
  simp

theorem sub2_2 {a b : Num} (ha : NumOk a.2) : doCall (callW pg) ro 2 (.fn 26 []) [.agg [.bool a.1, .int .i64 a.2], .agg [.bool b.1, .int .i64 b.2]] H = some (nval (subN a b), H) := by
  have h : ∃ H2, callW pg H.length 26 [.agg [.bool a.1, .int .i64 a.2], .agg [.bool b.1, .int .i64 b.2]] H = some (nval (subN a b), H2) := by
    rw [callW_eqO (fn := fn26) rfl rfl, subN_eq]
    have hneg := fun ro H => neg2_2 (ro := ro) (H := H) (x := b)
    have hnk := negN_ok (x := b)
    obtain ⟨no, nn, hn⟩ : ∃ no nn, negN b = (no, nn) := ⟨_, _, rfl⟩
    rw [hn] at hneg hnk ⊢
    have hadd := fun ro H => add2_2 (ro := ro) (H := H) (a := a) (b := (no, nn)) ha hnk
    obtain ⟨⟨so, sn⟩, hs⟩ : ∃ y, add2 a (no, nn) = y := ⟨_, rfl⟩
    rw [hs] at hadd ⊢
    simp only [nval] at hadd ⊢
    simp [-getElem?_pos, fn26, hneg, hadd]
  obtain ⟨H2, h⟩ := h
  exact call2p h rfl rfl

/-! the document's sum -/
theorem Z0_eq {e : Env} : runW pg ro fn27L0 e H = seqO pg ro fn27L0 (runW pg ro fn27B0 (keepE [0, 2, 3, 4, 5] e) H) := runW_loopO

theorem zloop {A : IV} {l : List Num} (hA : SlA A 2 (l.map nrow)) (hl : l.length ≤ 100000) (hN : ∀ x ∈ l, NumOk x.2) {a2 : Nat} (h2 : ro ≤ a2) {z : List IV} (hz : z.length = 2) : ∀ (n i : Nat) (H : Hp) (S : Int), i + n = l.length → -9223372036854775808 * (i : Int) ≤ S → S ≤ 9223372036854775808 * i → H[a2]? = some { rows := [z] } →
    if anyOv (l.drop i) = true then ∃ e' H', get e' 2 = .ptr a2 0 0 0 ∧ runW pg ro fn27L0 [(0, A), (2, .ptr a2 0 0 0), (3, .int .i64 (S / 4294967296)), (4, .int .i64 (S % 4294967296)), (5, .int .i64 i)] H = some (.ret, e', H') ∧ H'[a2]? = some { rows := [[.bool true, .int .i64 0]] }
    else ∃ e', get e' 2 = .ptr a2 0 0 0 ∧ get e' 3 = .int .i64 ((S + totN (l.drop i)) / 4294967296) ∧ get e' 4 = .int .i64 ((S + totN (l.drop i)) % 4294967296) ∧ runW pg ro fn27L0 [(0, A), (2, .ptr a2 0 0 0), (3, .int .i64 (S / 4294967296)), (4, .int .i64 (S % 4294967296)), (5, .int .i64 i)] H = some (.exit 0, e', H)
  | 0, i, H, S, hi', _, _, g2 => by
    have hlen := hA.len
    rw [List.length_map] at hlen
    have e : l.drop i = [] := by rw [List.drop_eq_nil_iff]; omega
    have hf : ¬ ((i : Int) < l.length) := by omega
    rw [e, if_neg (by simp [anyOv])]
    refine ⟨[(0, A), (2, .ptr a2 0 0 0), (3, .int .i64 (S / 4294967296)), (4, .int .i64 (S % 4294967296)), (5, .int .i64 i), (9, .bool false)], rfl, by simp [totN], by simp [totN], ?_⟩
    rw [Z0_eq]; simp [fn27B0, hlen, hf]
  | n + 1, i, H, S, hi', s1, s2, g2 => by
    have hlen := hA.len
    rw [List.length_map] at hlen
    obtain ⟨x, hx⟩ : ∃ x, l[i]? = some x := ⟨_, List.getElem?_eq_getElem (by omega)⟩
    have hdr : l.drop i = x :: l.drop (i + 1) := by
      have := List.drop_eq_getElem_cons (l := l) (i := i) (by omega)
      rw [this]; congr 1
      rw [List.getElem?_eq_getElem (by omega)] at hx; exact Option.some.inj hx
    have hxn := hN x (List.mem_of_getElem? hx)
    obtain ⟨xo, xn⟩ := x
    have hrow : (l.map nrow)[i]? = some [.bool xo, .int .i64 xn] := by rw [List.getElem?_map, hx]; rfl
    have hidx := fun H => hA.idx H i (by simp; omega)
    have hlt : (i : Int) < l.length := by omega
    have w1 : IntKind.i64.wrap ((i : Int) + 1) = i + 1 := by rw [IntKind.wrap_i64]; omega
    have l2 := (List.getElem?_eq_some_iff.1 g2).1
    have hzd : List.drop 2 z = [] := by rw [List.drop_eq_nil_iff]; omega
    unfold NumOk at hxn
    dsimp only at hxn
    rw [hdr]
    have eo := okov (o := xo) (n := xn)
    by_cases hov : ovN xo xn = true
    · rw [if_pos (by simp [anyOv, hov])]
      refine ⟨[(2, .ptr a2 0 0 0)], H.set a2 { rows := [[.bool true, .int .i64 0]] }, rfl, ?_, ?_⟩
      · rw [Z0_eq]
        cases xo with
        | true => simp [-getElem?_pos, fn27B0, hlen, hlt, hidx, hrow, ovf2_2, g2, h2, hz, hzd]
        | false =>
          have hk : okNum false xn = false := by rw [hov] at eo; simpa using eo
          simp [-getElem?_pos, fn27B0, hlen, hlt, hidx, hrow, is2_2, hk, ovf2_2, g2, h2, hz, hzd]
      · rw [List.getElem?_set_self l2]
    · have hov' : ovN xo xn = false := by simpa using hov
      have hxo : xo = false := by
        cases xo with
        | false => rfl
        | true => simp [ovN] at hov'
      subst hxo
      have hk : okNum false xn = true := by rw [hov'] at eo; simpa using eo
      have ih := zloop hA hl hN h2 hz n (i + 1) H (S + xn) (by omega) (by push_cast; omega) (by push_cast; omega) g2
      have ea : anyOv ((false, xn) :: l.drop (i + 1)) = anyOv (l.drop (i + 1)) := by simp [anyOv, hov']
      have et : S + totN ((false, xn) :: l.drop (i + 1)) = S + xn + totN (l.drop (i + 1)) := by simp only [totN]; omega
      rw [ea, et]
      push_cast at ih
      have a1 := i64_and32 xn
      have b1 : IntKind.i64.wrap (S % 4294967296 + xn % 4294967296) = S % 4294967296 + xn % 4294967296 := by rw [IntKind.wrap_i64]; omega
      have b2 : IntKind.i64.wrap (S / 4294967296 + xn / 4294967296) = S / 4294967296 + xn / 4294967296 := by rw [IntKind.wrap_i64]; omega
      have b3 : IntKind.i64.wrap (S / 4294967296 + xn / 4294967296 + (S % 4294967296 + xn % 4294967296) / 4294967296) = (S + xn) / 4294967296 := by rw [IntKind.wrap_i64]; omega
      have a2' := i64_and32 (S % 4294967296 + xn % 4294967296)
      have a3 : (S % 4294967296 + xn % 4294967296) % 4294967296 = (S + xn) % 4294967296 := by omega
      rw [a3] at a2'
      have hk2 : runW pg ro fn27L0 [(0, A), (2, .ptr a2 0 0 0), (3, .int .i64 (S / 4294967296)), (4, .int .i64 (S % 4294967296)), (5, .int .i64 i)] H = runW pg ro fn27L0 [(0, A), (2, .ptr a2 0 0 0), (3, .int .i64 ((S + xn) / 4294967296)), (4, .int .i64 ((S + xn) % 4294967296)), (5, .int .i64 ((i : Int) + 1))] H := by
        rw [Z0_eq]
        simp [-getElem?_pos, -Int.emod_add_emod, -Int.add_emod_emod, fn27B0, hlen, hlt, hidx, hrow, is2_2, hk, a1, b1, b2, b3, a2', w1]
      rw [hk2]
      exact ih

theorem sum2_g {A : IV} {l : List Num} (hA : SlA (frzArg H A) 2 (l.map nrow)) (hl : l.length ≤ 100000) (hN : ∀ x ∈ l, NumOk x.2) : doCall (callW pg) ro 2 (.fn 27 []) [A] H = some (nval (sumL l), H) := by
  have h : ∃ H2, callW pg H.length 27 [frzArg H A] H = some (nval (sumL l), H2) := by
    have hs := zloop hA hl hN (ro := H.length) (a2 := H.length) (z := [.bool false, .int .i64 0]) (by omega) rfl l.length 0 (H ++ [{ rows := [[.bool false, .int .i64 0]] }]) 0 (by omega) (by simp) (by simp) (by simp)
    rw [List.drop_zero, Int.zero_add] at hs
    rw [callW_eqO (fn := fn27) rfl rfl]
    unfold sumL
    split at hs
    · rename_i hov
      obtain ⟨e', H', q2, hrun, hh⟩ := hs
      rw [if_pos hov]
      refine ⟨H', ?_⟩
      simp at hrun
      simp [-getElem?_pos, fn27, hrun, q2, hh, nval]
    · rename_i hov
      obtain ⟨e', q2, q3, q4, hrun⟩ := hs
      rw [if_neg hov]
      have hb := totN_le hN
      obtain ⟨S, hS⟩ : ∃ S, totN l = S := ⟨_, rfl⟩
      rw [hS] at q3 q4 hb ⊢
      simp at hrun
      unfold fitN
      by_cases c1 : S / 4294967296 < -2147483648
      · rw [if_neg (by omega)]
        simp [-getElem?_pos, fn27, hrun, q2, q3, q4, c1, ovf2_2, nval]
      by_cases c2 : 2147483648 ≤ S / 4294967296
      · rw [if_neg (by omega)]
        simp [-getElem?_pos, fn27, hrun, q2, q3, q4, c1, c2, ovf2_2, nval]
      by_cases c3 : S / 4294967296 = -2147483648
      · by_cases c4 : S % 4294967296 = 0
        · rw [if_neg (by omega)]
          simp [-getElem?_pos, fn27, hrun, q2, q3, q4, c3, c4, ovf2_2, nval]
        · rw [if_pos (by omega)]
          have w : IntKind.i64.wrap (S / 4294967296 * 4294967296) = S / 4294967296 * 4294967296 := by rw [IntKind.wrap_i64]; omega
          have o := i64_or32 (h := S / 4294967296) (l := S % 4294967296) (by omega) (by omega) (by omega) (by omega)
          have e : S / 4294967296 * 4294967296 + S % 4294967296 = S := by omega
          rw [e] at o
          rw [c3] at w o
          simp [-getElem?_pos, fn27, hrun, q2, q3, q4, c3, c4, nval]
          simp at w o
          simp [w, o]
      · rw [if_pos (by omega)]
        have w : IntKind.i64.wrap (S / 4294967296 * 4294967296) = S / 4294967296 * 4294967296 := by rw [IntKind.wrap_i64]; omega
        have o := i64_or32 (h := S / 4294967296) (l := S % 4294967296) (by omega) (by omega) (by omega) (by omega)
        have e : S / 4294967296 * 4294967296 + S % 4294967296 = S := by omega
        rw [e] at o
        simp [-getElem?_pos, fn27, hrun, q2, q3, q4, c1, c2, c3, w, o, nval]
  obtain ⟨H2, h⟩ := h
  exact call2 (args' := [frzArg H A]) (by simp) h (by rfl) (.inl (by rfl))

end Go.Proofs.Ytfgmncabjljhmaa
