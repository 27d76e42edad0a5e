import Derived.Test.YtdaajnaphkepmaaTring13
import Derived.Test.YtdaajnaphkepmaaVsBits
namespace Go.Proofs.Ytdaajnaphkepmaa
open Go Go.Vs
variable {ro : Nat} {H : Hp}

def cmpN (o : Bool) (n : Int) (p : Bool) (m : Int) : Int :=
  if ovN o n then if ovN p m then 0 else 1 else if ovN p m then -1 else if n < m then -1 else if m < n then 1 else 0

def normN (x : Num) : Num := if okNum x.1 x.2 then x else (true, 0)

theorem is2_2 {o : Bool} {n : Int} : doCall (callW pg) ro 2 (.fn 51 []) [.agg [.bool o, .int .i64 n]] H = some (.bool (okNum o n), H) := by
  have h : ∃ H2, callW pg H.length 51 [.agg [.bool o, .int .i64 n]] H = some (.bool (okNum o n), H2) := by
    rw [callW_eqO (fn := fn51) rfl rfl]
    unfold okNum
    cases o
    · by_cases h : n = -9223372036854775808 <;> simp [fn51, h]
    · by_cases h : n = 0 <;> simp [fn51, h]
  obtain ⟨H2, h⟩ := h
  exact call2p h rfl rfl
theorem ovf2_2 : doCall (callW pg) ro 2 (.fn 52 []) [] H = some (.agg [.bool true, .int .i64 0], H) := by
  have h : ∃ H2, callW pg H.length 52 [] H = some (.agg [.bool true, .int .i64 0], H2) := by
    rw [callW_eqO (fn := fn52) rfl rfl]
    simp [fn52]
  obtain ⟨H2, h⟩ := h
  exact call2p h rfl rfl
theorem norm_2 {o : Bool} {n : Int} : doCall (callW pg) ro 2 (.fn 38 []) [.agg [.bool o, .int .i64 n]] H = some (.agg [.bool (normN (o, n)).1, .int .i64 (normN (o, n)).2], H) := by
  have h : ∃ H2, callW pg H.length 38 [.agg [.bool o, .int .i64 n]] H = some (.agg [.bool (normN (o, n)).1, .int .i64 (normN (o, n)).2], H2) := by
    rw [callW_eqO (fn := fn38) rfl rfl]
    unfold normN
    cases h : okNum o n
    · simp [fn38, is2_2, ovf2_2, h]
    · simp [fn38, is2_2, ovf2_2, h]
  obtain ⟨H2, h⟩ := h
  exact call2p h rfl rfl
theorem okov {o : Bool} {n : Int} : (o || !okNum o n) = ovN o n := by
  unfold okNum ovN; cases o <;> simp
theorem cmp2_2 {o p : Bool} {n m : Int} : doCall (callW pg) ro 2 (.fn 60 []) [.agg [.bool o, .int .i64 n], .agg [.bool p, .int .i64 m]] H = some (.int .i64 (cmpN o n p m), H) := by
  have h : ∃ H2, callW pg H.length 60 [.agg [.bool o, .int .i64 n], .agg [.bool p, .int .i64 m]] H = some (.int .i64 (cmpN o n p m), H2) := by
    rw [callW_eqO (fn := fn60) rfl rfl]
    have e1 := okov (o := o) (n := n)
    have e2 := okov (o := p) (n := m)
    unfold cmpN
    rw [← e1, ← e2]
    cases h1 : okNum o n <;> cases h2 : okNum p m
    · cases o <;> cases p <;> simp [-getElem?_pos, fn60, is2_2, h1, h2]
    · cases o <;> cases p <;> simp [-getElem?_pos, fn60, is2_2, h1, h2]
    · cases o <;> cases p <;> simp [-getElem?_pos, fn60, is2_2, h1, h2]
    · cases o
      · cases p
        · by_cases h3 : n < m
          · simp [-getElem?_pos, fn60, is2_2, h1, h2, h3]
          · by_cases h4 : m < n
            · simp [-getElem?_pos, fn60, is2_2, h1, h2, h3, h4]
            · simp [-getElem?_pos, fn60, is2_2, h1, h2, h3, h4]
        · simp [-getElem?_pos, fn60, is2_2, h1, h2]
      · cases p
        · simp [-getElem?_pos, fn60, is2_2, h1, h2]
        · simp [-getElem?_pos, fn60, is2_2, h1, h2]
  obtain ⟨H2, h⟩ := h
  exact call2p h rfl rfl


/-! the document's numbers -/
theorem none_2 {a b : Num} : doCall (callW pg) ro 2 (.fn 61 []) [.agg [.bool a.1, .int .i64 a.2], .agg [.bool b.1, .int .i64 b.2]] H = some (.bool (ovN a.1 a.2 || ovN b.1 b.2), H) := by
  obtain ⟨ao, an⟩ := a
  obtain ⟨bo, bn⟩ := b
  have h : ∃ H2, callW pg H.length 61 [.agg [.bool ao, .int .i64 an], .agg [.bool bo, .int .i64 bn]] H = some (.bool (ovN ao an || ovN bo bn), H2) := by
    rw [callW_eqO (fn := fn61) rfl rfl]
    rw [← okov (o := ao), ← okov (o := bo)]
    cases ao
    · cases bo
      · cases h1 : okNum false an
        · simp [-getElem?_pos, fn61, is2_2, h1]
        · cases h2 : okNum false bn
          · simp [-getElem?_pos, fn61, is2_2, h1, h2]
          · simp [-getElem?_pos, fn61, is2_2, h1, h2]
      · simp [-getElem?_pos, fn61, is2_2]
    · simp [-getElem?_pos, fn61, is2_2]
  obtain ⟨H2, h⟩ := h
  exact call2p h rfl rfl

/-- The sum of two, if it fits. -/
def add2 (a b : Num) : Num := if (ovN a.1 a.2 || ovN b.1 b.2) = true then (true, 0) else fitN (a.2 + b.2)

theorem add2_2 {a b : Num} (ha : NumOk a.2) (hb : NumOk b.2) : doCall (callW pg) ro 2 (.fn 65 []) [.agg [.bool a.1, .int .i64 a.2], .agg [.bool b.1, .int .i64 b.2]] H = some (nval (add2 a b), H) := by
  obtain ⟨ao, an⟩ := a
  obtain ⟨bo, bn⟩ := b
  have h : ∃ H2, callW pg H.length 65 [.agg [.bool ao, .int .i64 an], .agg [.bool bo, .int .i64 bn]] H = some (nval (add2 (ao, an) (bo, bn)), H2) := by
    have hn := fun ro H => none_2 (ro := ro) (H := H) (a := (ao, an)) (b := (bo, bn))
    dsimp only at hn
    rw [callW_eqO (fn := fn65) rfl rfl]
    unfold add2
    cases h0 : (ovN ao an || ovN bo bn)
    · have hh : ¬ an = -9223372036854775808 ∧ ¬ bn = -9223372036854775808 := by
        unfold ovN at h0; simp at h0; exact ⟨h0.1.2, h0.2.2⟩
      unfold NumOk at ha hb
      dsimp only at ha hb
      have hw : IntKind.i64.wrap (an + bn) = (an + bn + 9223372036854775808) % 18446744073709551616 - 9223372036854775808 := IntKind.wrap_i64 _
      obtain ⟨W, hW⟩ : ∃ W, IntKind.i64.wrap (an + bn) = W := ⟨_, rfl⟩
      rw [hW] at hw
      simp only [h0, Bool.false_eq_true, if_false]
      unfold fitN
      by_cases hfit : -9223372036854775808 < an + bn ∧ an + bn < 9223372036854775808
      · have eW : W = an + bn := by omega
        rw [if_pos hfit]
        rw [eW] at hW
        clear hw
        by_cases p1 : 0 < an <;> by_cases p2 : 0 < bn <;> by_cases p3 : an + bn ≤ 0 <;> by_cases p4 : an < 0 <;> by_cases p5 : bn < 0 <;> by_cases p6 : 0 ≤ an + bn <;> first
          | (exfalso; omega)
          | (have p7 : ¬ an + bn = -9223372036854775808 := by omega
             simp [-getElem?_pos, fn65, hn, h0, hW, p1, p2, p3, p4, p5, p6, p7, nval])
      · rw [if_neg hfit]
        by_cases p1 : 0 < an <;> by_cases p2 : 0 < bn <;> by_cases p3 : W ≤ 0 <;> by_cases p4 : an < 0 <;> by_cases p5 : bn < 0 <;> by_cases p6 : 0 ≤ W <;> by_cases p7 : W = -9223372036854775808 <;> first
          | (exfalso; omega)
          | (simp [-getElem?_pos, fn65, hn, h0, hW, p1, p2, p3, p4, p5, p6, p7, ovf2_2, nval])
    · simp [-getElem?_pos, fn65, hn, h0, ovf2_2, nval]
  obtain ⟨H2, h⟩ := h
  exact call2p h rfl rfl

theorem neg2_2 {x : Num} : doCall (callW pg) ro 2 (.fn 66 []) [.agg [.bool x.1, .int .i64 x.2]] H = some (.agg [.bool (negN x).1, .int .i64 (negN x).2], H) := by
  obtain ⟨o, n⟩ := x
  have h : ∃ H2, callW pg H.length 66 [.agg [.bool o, .int .i64 n]] H = some (.agg [.bool (negN (o, n)).1, .int .i64 (negN (o, n)).2], H2) := by
    rw [callW_eqO (fn := fn66) rfl rfl]
    unfold negN
    have e := okov (o := o) (n := n)
    dsimp only
    rw [← e]
    cases h : okNum o n
    · simp [-getElem?_pos, fn66, is2_2, h, ovf2_2]
    · cases o
      · simp [-getElem?_pos, fn66, is2_2, h]
      · simp [-getElem?_pos, fn66, is2_2, h, ovf2_2]
  obtain ⟨H2, h⟩ := h
  exact call2p h rfl rfl

theorem subN_eq {a b : Num} : subN a b = add2 a (negN b) := by
  unfold subN sumL add2 anyOv totN totN totN
  simp

theorem sub2_2 {a b : Num} (ha : NumOk a.2) : doCall (callW pg) ro 2 (.fn 57 []) [.agg [.bool a.1, .int .i64 a.2], .agg [.bool b.1, .int .i64 b.2]] H = some (nval (subN a b), H) := by
  have h : ∃ H2, callW pg H.length 57 [.agg [.bool a.1, .int .i64 a.2], .agg [.bool b.1, .int .i64 b.2]] H = some (nval (subN a b), H2) := by
    rw [callW_eqO (fn := fn57) rfl rfl, subN_eq]
    have hneg := fun ro H => neg2_2 (ro := ro) (H := H) (x := b)
    have hnk := negN_ok (x := b)
    obtain ⟨no, nn, hn⟩ : ∃ no nn, negN b = (no, nn) := ⟨_, _, rfl⟩
    rw [hn] at hneg hnk ⊢
    have hadd := fun ro H => add2_2 (ro := ro) (H := H) (a := a) (b := (no, nn)) ha hnk
    obtain ⟨⟨so, sn⟩, hs⟩ : ∃ y, add2 a (no, nn) = y := ⟨_, rfl⟩
    rw [hs] at hadd ⊢
    simp only [nval] at hadd ⊢
    simp [-getElem?_pos, fn57, hneg, hadd]
  obtain ⟨H2, h⟩ := h
  exact call2p h rfl rfl

/-! the document's sum -/
theorem Z0_eq {e : Env} : runW pg ro fn39L0 e H = seqO pg ro fn39L0 (runW pg ro fn39B0 (keepE [0, 2, 3, 4, 5] e) H) := runW_loopO

theorem zloop {A : IV} {l : List Num} (hA : SlA A 2 (l.map nrow)) (hl : l.length ≤ 100000) (hN : ∀ x ∈ l, NumOk x.2) {a2 : Nat} (h2 : ro ≤ a2) {z : List IV} (hz : z.length = 2) : ∀ (n i : Nat) (H : Hp) (S : Int), i + n = l.length → -9223372036854775808 * (i : Int) ≤ S → S ≤ 9223372036854775808 * i → H[a2]? = some { rows := [z] } →
    if anyOv (l.drop i) = true then ∃ e' H', get e' 2 = .ptr a2 0 0 0 ∧ runW pg ro fn39L0 [(0, A), (2, .ptr a2 0 0 0), (3, .int .i64 (S / 4294967296)), (4, .int .i64 (S % 4294967296)), (5, .int .i64 i)] H = some (.ret, e', H') ∧ H'[a2]? = some { rows := [[.bool true, .int .i64 0]] }
    else ∃ e', get e' 2 = .ptr a2 0 0 0 ∧ get e' 3 = .int .i64 ((S + totN (l.drop i)) / 4294967296) ∧ get e' 4 = .int .i64 ((S + totN (l.drop i)) % 4294967296) ∧ runW pg ro fn39L0 [(0, A), (2, .ptr a2 0 0 0), (3, .int .i64 (S / 4294967296)), (4, .int .i64 (S % 4294967296)), (5, .int .i64 i)] H = some (.exit 0, e', H)
  | 0, i, H, S, hi', _, _, g2 => by
    have hlen := hA.len
    rw [List.length_map] at hlen
    have e : l.drop i = [] := by rw [List.drop_eq_nil_iff]; omega
    have hf : ¬ ((i : Int) < l.length) := by omega
    rw [e, if_neg (by simp [anyOv])]
    refine ⟨[(0, A), (2, .ptr a2 0 0 0), (3, .int .i64 (S / 4294967296)), (4, .int .i64 (S % 4294967296)), (5, .int .i64 i), (9, .bool false)], rfl, by simp [totN], by simp [totN], ?_⟩
    rw [Z0_eq]; simp [fn39B0, hlen, hf]
  | n + 1, i, H, S, hi', s1, s2, g2 => by
    have hlen := hA.len
    rw [List.length_map] at hlen
    obtain ⟨x, hx⟩ : ∃ x, l[i]? = some x := ⟨_, List.getElem?_eq_getElem (by omega)⟩
    have hdr : l.drop i = x :: l.drop (i + 1) := by
      have := List.drop_eq_getElem_cons (l := l) (i := i) (by omega)
      rw [this]; congr 1
      rw [List.getElem?_eq_getElem (by omega)] at hx; exact Option.some.inj hx
    have hxn := hN x (List.mem_of_getElem? hx)
    obtain ⟨xo, xn⟩ := x
    have hrow : (l.map nrow)[i]? = some [.bool xo, .int .i64 xn] := by rw [List.getElem?_map, hx]; rfl
    have hidx := fun H => hA.idx H i (by simp; omega)
    have hlt : (i : Int) < l.length := by omega
    have w1 : IntKind.i64.wrap ((i : Int) + 1) = i + 1 := by rw [IntKind.wrap_i64]; omega
    have l2 := (List.getElem?_eq_some_iff.1 g2).1
    have hzd : List.drop 2 z = [] := by rw [List.drop_eq_nil_iff]; omega
    unfold NumOk at hxn
    dsimp only at hxn
    rw [hdr]
    have eo := okov (o := xo) (n := xn)
    by_cases hov : ovN xo xn = true
    · rw [if_pos (by simp [anyOv, hov])]
      refine ⟨[(2, .ptr a2 0 0 0)], H.set a2 { rows := [[.bool true, .int .i64 0]] }, rfl, ?_, ?_⟩
      · rw [Z0_eq]
        cases xo with
        | true => simp [-getElem?_pos, fn39B0, hlen, hlt, hidx, hrow, ovf2_2, g2, h2, hz, hzd]
        | false =>
          have hk : okNum false xn = false := by rw [hov] at eo; simpa using eo
          simp [-getElem?_pos, fn39B0, hlen, hlt, hidx, hrow, is2_2, hk, ovf2_2, g2, h2, hz, hzd]
      · rw [List.getElem?_set_self l2]
    · have hov' : ovN xo xn = false := by simpa using hov
      have hxo : xo = false := by
        cases xo with
        | false => rfl
        | true => simp [ovN] at hov'
      subst hxo
      have hk : okNum false xn = true := by rw [hov'] at eo; simpa using eo
      have ih := zloop hA hl hN h2 hz n (i + 1) H (S + xn) (by omega) (by push_cast; omega) (by push_cast; omega) g2
      have ea : anyOv ((false, xn) :: l.drop (i + 1)) = anyOv (l.drop (i + 1)) := by simp [anyOv, hov']
      have et : S + totN ((false, xn) :: l.drop (i + 1)) = S + xn + totN (l.drop (i + 1)) := by simp only [totN]; omega
      rw [ea, et]
      push_cast at ih
      have a1 := i64_and32 xn
      have b1 : IntKind.i64.wrap (S % 4294967296 + xn % 4294967296) = S % 4294967296 + xn % 4294967296 := by rw [IntKind.wrap_i64]; omega
      have b2 : IntKind.i64.wrap (S / 4294967296 + xn / 4294967296) = S / 4294967296 + xn / 4294967296 := by rw [IntKind.wrap_i64]; omega
      have b3 : IntKind.i64.wrap (S / 4294967296 + xn / 4294967296 + (S % 4294967296 + xn % 4294967296) / 4294967296) = (S + xn) / 4294967296 := by rw [IntKind.wrap_i64]; omega
      have a2' := i64_and32 (S % 4294967296 + xn % 4294967296)
      have a3 : (S % 4294967296 + xn % 4294967296) % 4294967296 = (S + xn) % 4294967296 := by omega
      rw [a3] at a2'
      have hk2 : runW pg ro fn39L0 [(0, A), (2, .ptr a2 0 0 0), (3, .int .i64 (S / 4294967296)), (4, .int .i64 (S % 4294967296)), (5, .int .i64 i)] H = runW pg ro fn39L0 [(0, A), (2, .ptr a2 0 0 0), (3, .int .i64 ((S + xn) / 4294967296)), (4, .int .i64 ((S + xn) % 4294967296)), (5, .int .i64 ((i : Int) + 1))] H := by
        rw [Z0_eq]
        simp [-getElem?_pos, -Int.emod_add_emod, -Int.add_emod_emod, fn39B0, hlen, hlt, hidx, hrow, is2_2, hk, a1, b1, b2, b3, a2', w1]
      rw [hk2]
      exact ih

theorem sum2_g {A : IV} {l : List Num} (hA : SlA (frzArg H A) 2 (l.map nrow)) (hl : l.length ≤ 100000) (hN : ∀ x ∈ l, NumOk x.2) : doCall (callW pg) ro 2 (.fn 39 []) [A] H = some (nval (sumL l), H) := by
  have h : ∃ H2, callW pg H.length 39 [frzArg H A] H = some (nval (sumL l), H2) := by
    have hs := zloop hA hl hN (ro := H.length) (a2 := H.length) (z := [.bool false, .int .i64 0]) (by omega) rfl l.length 0 (H ++ [{ rows := [[.bool false, .int .i64 0]] }]) 0 (by omega) (by simp) (by simp) (by simp)
    rw [List.drop_zero, Int.zero_add] at hs
    rw [callW_eqO (fn := fn39) rfl rfl]
    unfold sumL
    split at hs
    · rename_i hov
      obtain ⟨e', H', q2, hrun, hh⟩ := hs
      rw [if_pos hov]
      refine ⟨H', ?_⟩
      simp at hrun
      simp [-getElem?_pos, fn39, hrun, q2, hh, nval]
    · rename_i hov
      obtain ⟨e', q2, q3, q4, hrun⟩ := hs
      rw [if_neg hov]
      have hb := totN_le hN
      obtain ⟨S, hS⟩ : ∃ S, totN l = S := ⟨_, rfl⟩
      rw [hS] at q3 q4 hb ⊢
      simp at hrun
      unfold fitN
      by_cases c1 : S / 4294967296 < -2147483648
      · rw [if_neg (by omega)]
        simp [-getElem?_pos, fn39, hrun, q2, q3, q4, c1, ovf2_2, nval]
      by_cases c2 : 2147483648 ≤ S / 4294967296
      · rw [if_neg (by omega)]
        simp [-getElem?_pos, fn39, hrun, q2, q3, q4, c1, c2, ovf2_2, nval]
      by_cases c3 : S / 4294967296 = -2147483648
      · by_cases c4 : S % 4294967296 = 0
        · rw [if_neg (by omega)]
          simp [-getElem?_pos, fn39, hrun, q2, q3, q4, c3, c4, ovf2_2, nval]
        · rw [if_pos (by omega)]
          have w : IntKind.i64.wrap (S / 4294967296 * 4294967296) = S / 4294967296 * 4294967296 := by rw [IntKind.wrap_i64]; omega
          have o := i64_or32 (h := S / 4294967296) (l := S % 4294967296) (by omega) (by omega) (by omega) (by omega)
          have e : S / 4294967296 * 4294967296 + S % 4294967296 = S := by omega
          rw [e] at o
          rw [c3] at w o
          simp [-getElem?_pos, fn39, hrun, q2, q3, q4, c3, c4, nval]
          simp at w o
          simp [w, o]
      · rw [if_pos (by omega)]
        have w : IntKind.i64.wrap (S / 4294967296 * 4294967296) = S / 4294967296 * 4294967296 := by rw [IntKind.wrap_i64]; omega
        have o := i64_or32 (h := S / 4294967296) (l := S % 4294967296) (by omega) (by omega) (by omega) (by omega)
        have e : S / 4294967296 * 4294967296 + S % 4294967296 = S := by omega
        rw [e] at o
        simp [-getElem?_pos, fn39, hrun, q2, q3, q4, c1, c2, c3, w, o, nval]
  obtain ⟨H2, h⟩ := h
  exact call2 (args' := [frzArg H A]) (by simp) h (by rfl) (.inl (by rfl))

/-- What a counter rose by between two samples. -/
def riseN (a b : Num) : Num := if cmpN b.1 b.2 a.1 a.2 < 0 then normN b else subN b a

theorem sumL_one {b : Num} (hb : NumOk b.2) : sumL [b] = normN b := by
  obtain ⟨o, n⟩ := b
  unfold NumOk at hb
  dsimp only at hb
  unfold sumL normN anyOv totN totN fitN
  have e := okov (o := o) (n := n)
  simp only [List.any_cons, List.any_nil, Bool.or_false]
  rw [← e]
  cases hk : okNum o n
  · cases o <;> simp
  · cases o
    · have : ¬ n = -9223372036854775808 := by intro h; subst h; simp [okNum] at hk
      simp; omega
    · have : n = 0 := by simpa [okNum] using hk
      simp [this]
theorem fitN_ok {S : Int} : NumOk (fitN S).2 := by unfold fitN NumOk; split <;> (dsimp only; omega)
theorem sumL_ok {l : List Num} : NumOk (sumL l).2 := by
  unfold sumL; split
  · simp [NumOk]
  · exact fitN_ok
theorem normN_ok {x : Num} (h : NumOk x.2) : NumOk (normN x).2 := by
  unfold normN; split
  · exact h
  · simp [NumOk]
theorem riseN_ok {a b : Num} (h : NumOk b.2) : NumOk (riseN a b).2 := by
  unfold riseN; split
  · exact normN_ok h
  · exact sumL_ok

/-- The first i of what it rose by. -/
def rs (l : List Smp) (i : Nat) : List Num := (List.range i).map fun (j : Nat) => riseN (l.getD j (0, false, 0)).2 (l.getD (j + 1) (0, false, 0)).2
theorem rs_succ (l : List Smp) (i : Nat) : rs l (i + 1) = rs l i ++ [riseN (l.getD i (0, false, 0)).2 (l.getD (i + 1) (0, false, 0)).2] := by simp [rs, List.range_succ]
theorem rs_len (l : List Smp) (i : Nat) : (rs l i).length = i := by simp [rs]
def Given (l : List Smp) : Prop := ∀ s ∈ l, NumOk s.2.2
theorem given {l : List Smp} (h : Given l) (j : Nat) : NumOk (l.getD j (0, false, 0)).2.2 := by
  rw [List.getD_eq_getElem?_getD]
  cases hx : l[j]? with
  | none => simp [NumOk]
  | some x => exact h x (List.mem_of_getElem? hx)
theorem rs_ok {l : List Smp} (h : Given l) (i : Nat) : ∀ x ∈ rs l i, NumOk x.2 := by
  intro x hx
  obtain ⟨j, _, rfl⟩ := List.mem_map.1 hx
  exact riseN_ok (given h (j + 1))

/-- What samples rose by. -/
def incL (l : List Smp) : Num × Bool := if l.length < 2 then ((false, 0), false) else (sumL (rs l (l.length - 1)), true)

theorem I0_eq {e : Env} : runW pg ro fn53L0 e H = seqO pg ro fn53L0 (runW pg ro fn53B0 (keepE [0, 2, 4, 5] e) H) := runW_loopO

theorem iloop {A q : IV} {l : List Smp} (hA : SlA A 3 (l.map srow)) (hG : Given l) (hl : l.length ≤ 100000) : ∀ (n i : Nat) (H : Hp) (w : IV), i + 1 + n = l.length → ro ≤ H.length → Sl H w 2 ((rs l i).map nrow) → (∀ b ∈ blkS w, ro ≤ b) →
    ∃ e' w' H', get e' 2 = q ∧ get e' 4 = w' ∧ runW pg ro fn53L0 [(0, A), (2, q), (4, w), (5, .int .i64 ((i : Int) + 1))] H = some (.exit 0, e', H') ∧ Sl H' w' 2 ((rs l (l.length - 1)).map nrow) ∧ Stp H H' (blkS w) (blkS w')
  | 0, i, H, w, hi, hro, hw, hd => by
    have hlen := hA.len
    rw [List.length_map] at hlen
    have hf : ¬ ((i : Int) + 1 < l.length) := by omega
    refine ⟨[(0, A), (2, q), (4, w), (5, .int .i64 ((i : Int) + 1)), (13, .bool false)], w, H, rfl, rfl, ?_, by rw [show l.length - 1 = i by omega]; exact hw, Stp.refl⟩
    rw [I0_eq]; simp [fn53B0, hlen, hf]
  | n + 1, i, H, w, hi, hro, hw, hd => by
    have hlen := hA.len
    rw [List.length_map] at hlen
    obtain ⟨a, ha⟩ : ∃ x, l[i]? = some x := ⟨_, List.getElem?_eq_getElem (by omega)⟩
    obtain ⟨b, hb⟩ : ∃ x, l[i + 1]? = some x := ⟨_, List.getElem?_eq_getElem (by omega)⟩
    have na := hG a (List.mem_of_getElem? ha)
    have nb := hG b (List.mem_of_getElem? hb)
    have ea : l.getD i (0, false, 0) = a := by rw [List.getD_eq_getElem?_getD, ha]; rfl
    have eb : l.getD (i + 1) (0, false, 0) = b := by rw [List.getD_eq_getElem?_getD, hb]; rfl
    have hrow : (l.map srow)[i]? = some (srow a) := by rw [List.getElem?_map, ha]; rfl
    have hrow2 : (l.map srow)[i + 1]? = some (srow b) := by rw [List.getElem?_map, hb]; rfl
    have hidx := fun H => hA.idx H i (by simp; omega)
    have hidx2 := fun H => hA.idx H (i + 1) (by simp; omega)
    have hlt : (i : Int) + 1 < l.length := by omega
    have w0 : IntKind.i64.wrap (i : Int) = i := by rw [IntKind.wrap_i64]; omega
    have w1 : IntKind.i64.wrap ((i : Int) + 1 + 1) = i + 1 + 1 := by rw [IntKind.wrap_i64]; omega
    have w2 : IntKind.i64.wrap ((i : Int) + 1 - 1) = i := by rw [IntKind.wrap_i64]; omega
    obtain ⟨y, hy⟩ : ∃ y, riseN a.2 b.2 = y := ⟨_, rfl⟩
    obtain ⟨b2, g2, o2, n2, c2, H2, happ, hsl2, hst2⟩ := (hw.app [{ rows := [nrow y] }]).push (r := nrow y) (y := .arr H.length 0 0 1 1 true) (bytes := 16) (ro := ro) (by simp) rfl
      (by rw [List.length_map, rs_len]; unfold room; omega) hd
    have hw2 : Sl H2 (.arr b2 g2 o2 n2 c2 false) 2 ((rs l (i + 1)).map nrow) := by rw [rs_succ, ea, eb, hy, List.map_append]; exact hsl2
    have hst1 : Stp H H2 (blkS w) (blkS (.arr b2 g2 o2 n2 c2 false)) := (Stp.app (Y := [{ rows := [nrow y] }])).trans hst2
    obtain ⟨e', w', H', g2', g4, hrun, h1, h2⟩ := iloop (q := q) hA hG hl n (i + 1) H2 _ (by omega) (by have := hst1.len; omega) hw2 (fun b hb => by
      rcases hst1.new b hb with h | h
      · exact hd b h
      · omega)
    push_cast at hrun hidx2
    refine ⟨e', w', H', g2', g4, ?_, h1, hst1.trans h2⟩
    rw [I0_eq]
    obtain ⟨at_, ao, an⟩ := a
    obtain ⟨bt, bo, bn⟩ := b
    obtain ⟨yo, yn⟩ := y
    simp only [nrow, nval, srow] at happ hrow hrow2
    unfold riseN at hy
    dsimp only at hy
    by_cases hc : cmpN bo bn ao an < 0
    · rw [if_pos hc] at hy
      have hno := fun ro H => norm_2 (ro := ro) (H := H) (o := bo) (n := bn)
      rw [hy] at hno
      simp [-getElem?_pos, fn53B0, hlen, hlt, w0, w1, w2, hidx, hidx2, hrow, hrow2, cmp2_2, hc, hno, happ, hrun]
    · rw [if_neg hc] at hy
      have hsu := fun ro H => sub2_2 (ro := ro) (H := H) (a := (bo, bn)) (b := (ao, an)) nb
      rw [hy] at hsu
      simp only [nval] at hsu
      simp [-getElem?_pos, fn53B0, hlen, hlt, w0, w1, w2, hidx, hidx2, hrow, hrow2, cmp2_2, hc, hsu, happ, hrun]

theorem inc_g {A : IV} {l : List Smp} (hA : SlA (frzArg H A) 3 (l.map srow)) (hG : Given l) (hl : l.length ≤ 100000) : doCall (callW pg) ro 2 (.fn 53 []) [A] H = some (.tup [nval (incL l).1, .bool (incL l).2], H) := by
  have h : ∃ H2, callW pg H.length 53 [frzArg H A] H = some (.tup [nval (incL l).1, .bool (incL l).2], H2) := by
    have hlen := hA.len
    rw [List.length_map] at hlen
    rw [callW_eqO (fn := fn53) rfl rfl]
    unfold incL
    by_cases h2 : l.length < 2
    · have h2' : (l.length : Int) < 2 := by omega
      rw [if_pos h2]
      simp [-getElem?_pos, fn53, hlen, h2', nval]
    · have h2' : ¬ (l.length : Int) < 2 := by omega
      rw [if_neg h2]
      obtain ⟨e', w', H', g2, g4, hrun, h1, hst⟩ := iloop (ro := H.length) (q := .ptr H.length 0 0 0) hA hG hl (l.length - 1) 0 (H ++ [{ rows := [[.bool false, .int .i64 0]] }]) .nsl (by omega) (by simp) (by simp [rs]; exact Sl.nil) (by simp [blkS])
      have hs := fun ro => sum2_g (ro := ro) (H := H') (A := w') (l := rs l (l.length - 1)) (h1.frzA (by
        intro r hr x hx
        obtain ⟨s, _, rfl⟩ := List.mem_map.1 hr
        simp [nrow] at hx
        rcases hx with rfl | rfl <;> rfl)) (by rw [rs_len]; omega) (rs_ok hG _)
      have hc : H'[H.length]? = some { rows := [[.bool false, .int .i64 0]] } := by rw [hst.same _ (by simp) (by simp [blkS])]; simp
      have hlt := (List.getElem?_eq_some_iff.1 hc).1
      obtain ⟨⟨so, sn⟩, hsm⟩ : ∃ y, sumL (rs l (l.length - 1)) = y := ⟨_, rfl⟩
      rw [hsm] at hs ⊢
      simp only [nval] at hs ⊢
      simp at hrun
      simp [-getElem?_pos, fn53, hlen, h2', hrun, g2, g4, hs, hc, hlt]
  obtain ⟨H2, h⟩ := h
  exact call2 (args' := [frzArg H A]) (by simp) h (by rfl) (.inl (by rfl))

/-! the document's products -/
theorem signed_2 {n : Int} {neg : Bool} (h0 : 0 ≤ n) (h1 : n < 18446744073709551616) : doCall (callW pg) ro 2 (.fn 68 []) [.int .u64 n, .bool neg] H = some (nval (if 9223372036854775807 < n then (true, 0) else (false, if neg then -n else n)), H) := by
  have h : ∃ H2, callW pg H.length 68 [.int .u64 n, .bool neg] H = some (nval (if 9223372036854775807 < n then (true, 0) else (false, if neg then -n else n)), H2) := by
    rw [callW_eqO (fn := fn68) rfl rfl]
    by_cases hb : 9223372036854775807 < n
    · simp [-getElem?_pos, fn68, hb, ovf2_2, nval]
    · have h6 : IntKind.i64.wrap n = n := by rw [IntKind.wrap_i64]; omega
      have h7 : IntKind.i64.wrap (-n) = -n := by rw [IntKind.wrap_i64]; omega
      cases neg
      · simp [-getElem?_pos, fn68, hb, h6, nval]
      · simp [-getElem?_pos, fn68, hb, h6, h7, nval]
  obtain ⟨H2, h⟩ := h
  exact call2p h rfl (by rfl)

theorem over2_2' {neg : Bool} {a b c : Int} (ha0 : 0 ≤ a) (ha : a < 18446744073709551616) (hb0 : 0 ≤ b) (hb : b < 18446744073709551616) (hc0 : 0 < c) (hc : c < 18446744073709551616) :
    doCall (callW pg) ro 2 (.fn 62 []) [.int .u64 a, .int .u64 b, .int .u64 c, .bool neg] H = some (nval (scaledN neg a b c), H) := by
  have hab0 : 0 ≤ a * b := Int.mul_nonneg ha0 hb0
  have h : ∃ H2, callW pg H.length 62 [.int .u64 a, .int .u64 b, .int .u64 c, .bool neg] H = some (nval (scaledN neg a b c), H2) := by
    rw [callW_eqO (fn := fn62) rfl rfl]
    have c1 : ∀ (ro : Nat) (H : Hp), doCall (callW pg) ro 2 (.fn 42 []) [.int .u64 a, .int .u64 b] H = some (.tup [.int .u64 (a * b / 18446744073709551616), .int .u64 (a * b % 18446744073709551616)], H) := by
      intro ro H
      exact call2p (mul64_c (ro := H.length) (H := H) ha0 ha hb0 hb) rfl rfl
    have hd := Int.emod_add_mul_ediv (a * b) 18446744073709551616
    have hm0 := Int.emod_nonneg (a * b) (show (18446744073709551616 : Int) ≠ 0 by decide)
    have hm1 := Int.emod_lt_of_pos (a * b) (show (0 : Int) < 18446744073709551616 by decide)
    have hq0 : 0 ≤ a * b / 18446744073709551616 := Int.ediv_nonneg hab0 (by decide)
    have hQ0 : 0 ≤ a * b / c := Int.ediv_nonneg hab0 (by omega)
    by_cases hov : c ≤ a * b / 18446744073709551616
    · have hbig : 9223372036854775807 < a * b / c := by
        have : 18446744073709551616 ≤ a * b / c := by
          rw [Int.le_ediv_iff_mul_le hc0]
          omega
        omega
      unfold scaledN
      rw [if_pos hbig]
      simp [-getElem?_pos, fn62, c1, hov, nval, ovf2_2]
    · have c2 : ∀ (ro : Nat) (H : Hp), doCall (callW pg) ro 2 (.fn 44 []) [.int .u64 (a * b / 18446744073709551616), .int .u64 (a * b % 18446744073709551616), .int .u64 c] H = some (.tup [.int .u64 (a * b / c), .int .u64 (a * b % c)], H) := by
        intro ro H
        have := div64_g (ro := H.length) (H := H) hq0 (by omega) hc hm0 hm1
        have e : a * b / 18446744073709551616 * 18446744073709551616 + a * b % 18446744073709551616 = a * b := by omega
        rw [e] at this
        exact call2p this rfl rfl
      have hQ1 : a * b / c < 18446744073709551616 := by
        rw [Int.ediv_lt_iff_lt_mul hc0]
        omega
      have c3 := fun ro H => signed_2 (ro := ro) (H := H) (neg := neg) hQ0 hQ1
      have e : (if 9223372036854775807 < a * b / c then ((true, 0) : Num) else (false, if neg then -(a * b / c) else a * b / c)) = scaledN neg a b c := rfl
      rw [e] at c3
      obtain ⟨⟨so, sn⟩, hs⟩ : ∃ y, scaledN neg a b c = y := ⟨_, rfl⟩
      rw [hs] at c3 ⊢
      simp only [nval] at c3 ⊢
      simp [-getElem?_pos, fn62, c1, c2, c3, hov]
  obtain ⟨H2, h⟩ := h
  exact call2p h rfl (by rfl)

theorem size2_2 {n : Int} (hn : NumOk n) : doCall (callW pg) ro 2 (.fn 63 []) [.int .i64 n] H = some (.int .u64 (absI n), H) := by
  unfold NumOk at hn
  refine call2p (H2 := H) ?_ rfl rfl
  rw [callW_eqO (fn := fn63) rfl rfl]
  unfold absI
  by_cases h : n < 0
  · have e : IntKind.u64.wrap (IntKind.i64.wrap (-n)) = -n := by rw [IntKind.wrap_u64, IntKind.wrap_i64]; omega
    simp [-getElem?_pos, fn63, h, e]
  · have e : IntKind.u64.wrap n = n := by rw [IntKind.wrap_u64]; omega
    simp [-getElem?_pos, fn63, h, e]

theorem absI_b {n : Int} (hn : NumOk n) : 0 ≤ absI n ∧ absI n < 18446744073709551616 := by
  unfold NumOk at hn; unfold absI; split <;> omega

theorem div2_2 {a b : Num} (ha : NumOk a.2) (hb : NumOk b.2) : doCall (callW pg) ro 2 (.fn 54 []) [.agg [.bool a.1, .int .i64 a.2], .agg [.bool b.1, .int .i64 b.2]] H = some (nval (divN a b), H) := by
  obtain ⟨ao, an⟩ := a
  obtain ⟨bo, bn⟩ := b
  have h : ∃ H2, callW pg H.length 54 [.agg [.bool ao, .int .i64 an], .agg [.bool bo, .int .i64 bn]] H = some (nval (divN (ao, an) (bo, bn)), H2) := by
    have hn := fun ro H => none_2 (ro := ro) (H := H) (a := (ao, an)) (b := (bo, bn))
    dsimp only at hn
    rw [callW_eqO (fn := fn54) rfl rfl]
    unfold divN
    cases h0 : (ovN ao an || ovN bo bn)
    · by_cases h3 : bn = 0
      · subst h3
        simp [-getElem?_pos, fn54, hn, h0, nval, ovf2_2]
      · have hbb : 0 < absI bn ∧ absI bn < 18446744073709551616 := by have := absI_b hb; unfold absI at *; dsimp only at *; split at this <;> split <;> omega
        have haa := absI_b ha
        have sa := fun ro H => size2_2 (ro := ro) (H := H) ha
        have sb := fun ro H => size2_2 (ro := ro) (H := H) hb
        dsimp only at sa sb
        obtain ⟨⟨so, sn⟩, hso⟩ : ∃ y, scaledN (decide (an < 0) != decide (bn < 0)) (absI an) 1000000 (absI bn) = y := ⟨_, rfl⟩
        have hs' := fun ro H => over2_2' (ro := ro) (H := H) (neg := (decide (an < 0) != decide (bn < 0))) haa.1 haa.2 (show (0 : Int) ≤ 1000000 by decide) (by decide) hbb.1 hbb.2
        dsimp only at hs'
        rw [hso] at hs'
        simp only [nval] at hs'
        simp only [h0, h3, Bool.false_or, decide_false, Bool.false_eq_true, if_false, hso, nval]
        have en2 : (!decide (an < 0) == decide (bn < 0)) = (decide (an < 0) != decide (bn < 0)) := by cases decide (an < 0) <;> cases decide (bn < 0) <;> rfl
        simp [-getElem?_pos, fn54, hn, h0, h3, sa, sb, en2, hs']
    · simp [-getElem?_pos, fn54, hn, h0, nval, ovf2_2]
  obtain ⟨H2, h⟩ := h
  exact call2p h rfl (by rfl)

/-- A whole number. -/
theorem whole_2 {n : Int} (h0 : 0 ≤ n) (h1 : n ≤ 9000000) : doCall (callW pg) ro 2 (.fn 55 []) [.int .i64 n] H = some (.agg [.bool false, .int .i64 (n * 1000000)], H) := by
  have e : scaledN false n 1000000000000 1000000 = (false, n * 1000000) := by
    have : n * 1000000000000 / 1000000 = n * 1000000 := by omega
    unfold scaledN
    rw [this, if_neg (by omega)]; rfl
  have hmul : ∀ (ro : Nat) (H : Hp), doCall (callW pg) ro 2 (.fn 69 []) [.agg [.bool false, .int .i64 n], .agg [.bool false, .int .i64 1000000000000]] H = some (.agg [.bool false, .int .i64 (n * 1000000)], H) := by
    intro ro H
    have h : ∃ H2, callW pg H.length 69 [.agg [.bool false, .int .i64 n], .agg [.bool false, .int .i64 1000000000000]] H = some (.agg [.bool false, .int .i64 (n * 1000000)], H2) := by
      have hn := fun ro H => none_2 (ro := ro) (H := H) (a := (false, n)) (b := (false, 1000000000000))
      have n1 : ¬ n = -9223372036854775808 := by omega
      have ho : (ovN false n || ovN false 1000000000000) = false := by simp [ovN, n1]
      dsimp only at hn
      rw [ho] at hn
      have sa := fun ro H => size2_2 (ro := ro) (H := H) (n := n) (by unfold NumOk; omega)
      have sb := fun ro H => size2_2 (ro := ro) (H := H) (n := 1000000000000) (by unfold NumOk; omega)
      have ea : absI n = n := by unfold absI; rw [if_neg (by omega)]
      have eb : absI 1000000000000 = 1000000000000 := by decide
      rw [ea] at sa
      rw [eb] at sb
      have hs := fun ro H => over2_2' (ro := ro) (H := H) (neg := false) (a := n) (b := 1000000000000) (c := 1000000) h0 (by omega) (by decide) (by decide) (by decide) (by decide)
      rw [e] at hs
      simp only [nval] at hs
      have hneg : ¬ n < 0 := by omega
      rw [callW_eqO (fn := fn69) rfl rfl]
      simp [-getElem?_pos, fn69, hn, sa, sb, hneg, hs]
    obtain ⟨H2, h⟩ := h
    exact call2p h rfl rfl
  have hof : ∀ (ro : Nat) (H : Hp), doCall (callW pg) ro 2 (.fn 64 []) [.int .i64 n] H = some (.agg [.bool false, .int .i64 (n * 1000000)], H) := by
    intro ro H
    have h : ∃ H2, callW pg H.length 64 [.int .i64 n] H = some (.agg [.bool false, .int .i64 (n * 1000000)], H2) := by
      rw [callW_eqO (fn := fn64) rfl rfl]
      simp [-getElem?_pos, fn64, hmul]
    obtain ⟨H2, h⟩ := h
    exact call2p h rfl rfl
  have h : ∃ H2, callW pg H.length 55 [.int .i64 n] H = some (.agg [.bool false, .int .i64 (n * 1000000)], H2) := by
    rw [callW_eqO (fn := fn55) rfl rfl]
    simp [-getElem?_pos, fn55, hof]
  obtain ⟨H2, h⟩ := h
  exact call2p h rfl rfl


end Go.Proofs.Ytdaajnaphkepmaa
