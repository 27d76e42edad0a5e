import Derived.Test.YtddbpbkphimdkaaText6
import Derived.Test.YtddbpbkphimdkaaVsArg
import Derived.Test.YtddbpbkphimdkaaVsSl
namespace Go.Proofs.Ytddbpbkphimdkaa
open Go Go.Vs
variable {ro : Nat} {H : Hp}

/-! the document's numbers -/
abbrev Num := Bool × Int
def nrow (x : Num) : List IV := [.bool x.1, .int .i64 x.2]
def nval (x : Num) : IV := .agg (nrow x)

def isN (x : Num) : Bool := if x.1 then decide (x.2 = 0) else !decide (x.2 = -9223372036854775808)
theorem isN_ok {x : Num} : isN x = okNum x.1 x.2 := rfl
def normN (x : Num) : Num := if okNum x.1 x.2 then x else (true, 0)

theorem is2_2 {o : Bool} {n : Int} : doCall (callW pg) ro 2 (.fn 22 []) [.agg [.bool o, .int .i64 n]] H = some (.bool (okNum o n), H) := by
  have h : ∃ H2, callW pg H.length 22 [.agg [.bool o, .int .i64 n]] H = some (.bool (okNum o n), H2) := by
    rw [callW_eqO (fn := fn22) rfl rfl]
    unfold okNum
    cases o
    · by_cases h : n = -9223372036854775808 <;> simp [fn22, h]
    · by_cases h : n = 0 <;> simp [fn22, h]
  obtain ⟨H2, h⟩ := h
  exact call2p h rfl rfl
theorem ovf2_2 : doCall (callW pg) ro 2 (.fn 23 []) [] H = some (.agg [.bool true, .int .i64 0], H) := by
  have h : ∃ H2, callW pg H.length 23 [] H = some (.agg [.bool true, .int .i64 0], H2) := by
    rw [callW_eqO (fn := fn23) rfl rfl]
    simp [fn23]
  obtain ⟨H2, h⟩ := h
  exact call2p h rfl rfl
theorem norm_2 {o : Bool} {n : Int} : doCall (callW pg) ro 2 (.fn 9 []) [.agg [.bool o, .int .i64 n]] H = some (.agg [.bool (normN (o, n)).1, .int .i64 (normN (o, n)).2], H) := by
  have h : ∃ H2, callW pg H.length 9 [.agg [.bool o, .int .i64 n]] H = some (.agg [.bool (normN (o, n)).1, .int .i64 (normN (o, n)).2], H2) := by
    rw [callW_eqO (fn := fn9) rfl rfl]
    unfold normN
    cases h : okNum o n
    · simp [fn9, is2_2, ovf2_2, h]
    · simp [fn9, is2_2, ovf2_2, h]
  obtain ⟨H2, h⟩ := h
  exact call2p h rfl rfl
theorem okov {o : Bool} {n : Int} : (o || !okNum o n) = ovN o n := by
  unfold okNum ovN; cases o <;> simp
theorem cmp2_2 {o p : Bool} {n m : Int} : doCall (callW pg) ro 2 (.fn 26 []) [.agg [.bool o, .int .i64 n], .agg [.bool p, .int .i64 m]] H = some (.int .i64 (cmpN o n p m), H) := by
  have h : ∃ H2, callW pg H.length 26 [.agg [.bool o, .int .i64 n], .agg [.bool p, .int .i64 m]] H = some (.int .i64 (cmpN o n p m), H2) := by
    rw [callW_eqO (fn := fn26) rfl rfl]
    have e1 := okov (o := o) (n := n)
    have e2 := okov (o := p) (n := m)
    unfold cmpN
    rw [← e1, ← e2]
    cases h1 : okNum o n <;> cases h2 : okNum p m
    · cases o <;> cases p <;> simp [-getElem?_pos, fn26, is2_2, h1, h2]
    · cases o <;> cases p <;> simp [-getElem?_pos, fn26, is2_2, h1, h2]
    · cases o <;> cases p <;> simp [-getElem?_pos, fn26, is2_2, h1, h2]
    · cases o
      · cases p
        · by_cases h3 : n < m
          · simp [-getElem?_pos, fn26, is2_2, h1, h2, h3]
          · by_cases h4 : m < n
            · simp [-getElem?_pos, fn26, is2_2, h1, h2, h3, h4]
            · simp [-getElem?_pos, fn26, is2_2, h1, h2, h3, h4]
        · simp [-getElem?_pos, fn26, is2_2, h1, h2]
      · cases p
        · simp [-getElem?_pos, fn26, is2_2, h1, h2]
        · simp [-getElem?_pos, fn26, is2_2, h1, h2]
  obtain ⟨H2, h⟩ := h
  exact call2p h rfl rfl

/-- The values of samples. -/
def vals (l : List Smp) : List Num := l.map fun s => normN s.2

theorem V0_eq {e : Env} : runW pg ro fn13L0 e H = seqO pg ro fn13L0 (runW pg ro fn13B0 (keepE [0, 3, 4] e) H) := runW_loopO

theorem vloop {v : IV} {l : List Smp} (hl : l.length ≤ 100000) : ∀ (n i : Nat) (H : Hp) (w : IV), i + n = l.length → ro ≤ H.length → Sl H v 3 (l.map srow) → Sl H w 2 ((vals (l.take i)).map nrow) → (∀ b ∈ blkS w, b ∉ blkS v ∧ ro ≤ b) →
    ∃ e' w' H', get e' 3 = w' ∧ runW pg ro fn13L0 [(0, v), (3, w), (4, .int .i64 i)] H = some (.exit 0, e', H') ∧ Sl H' w' 2 ((vals l).map nrow) ∧ Stp H H' (blkS w) (blkS w') ∧ (∀ b ∈ blkS w', ro ≤ b)
  | 0, i, H, w, hi, hro, hv, hw, hd => by
    have e : i = l.length := by omega
    have hlen := hv.len
    rw [List.length_map] at hlen
    have hf : ¬ ((i : Int) < l.length) := by omega
    refine ⟨[(0, v), (3, w), (4, .int .i64 i), (8, .bool false)], w, H, rfl, ?_, ?_, Stp.refl, fun b hb => (hd b hb).2⟩
    · rw [V0_eq]; simp [fn13B0, hlen, hf]
    · rw [e, List.take_length] at hw; exact hw
  | n + 1, i, H, w, hi, hro, hv, hw, hd => by
    have hlen := hv.len
    rw [List.length_map] at hlen
    obtain ⟨s, hs⟩ : ∃ s, l[i]? = some s := ⟨_, List.getElem?_eq_getElem (by omega)⟩
    obtain ⟨t, o, m⟩ := s
    obtain ⟨b, B, j, hb, hidx, hB, hfz, hrow⟩ := hv.idx (i := i) (row := [.int .i64 t, .bool o, .int .i64 m]) (by rw [List.getElem?_map, hs]; rfl)
    have hlt : (i : Int) < l.length := by omega
    have w1 : IntKind.i64.wrap ((i : Int) + 1) = i + 1 := by rw [IntKind.wrap_i64]; omega
    have hwl : (vals (l.take i)).length = i := by simp [vals]; omega
    obtain ⟨b2, g2, o2, n2, c2, H2, happ, hsl2, hst2⟩ := (hw.app [{ rows := [nrow (normN (o, m))] }]).push (r := nrow (normN (o, m))) (y := .arr H.length 0 0 1 1 true) (bytes := 16) (ro := ro) (by simp) rfl
      (by rw [List.length_map, hwl]; unfold room; omega) (fun b hb => (hd b hb).2)
    have hv2 : Sl H2 v 3 (l.map srow) := (hv.app [{ rows := [nrow (normN (o, m))] }]).fr fun c hc => hst2.same c (by have := hv.lt c hc; simp; omega) (fun h => (hd c h).1 hc)
    have htk : vals (l.take (i + 1)) = vals (l.take i) ++ [normN (o, m)] := by
      unfold vals; rw [List.take_add_one, hs]; simp
    have hw2 : Sl H2 (.arr b2 g2 o2 n2 c2 false) 2 ((vals (l.take (i + 1))).map nrow) := by rw [htk, List.map_append]; exact hsl2
    have hst1 : Stp H H2 (blkS w) (blkS (.arr b2 g2 o2 n2 c2 false)) := (Stp.app (Y := [{ rows := [nrow (normN (o, m))] }])).trans hst2
    have hd2 : ∀ b ∈ blkS (.arr b2 g2 o2 n2 c2 false), b ∉ blkS v ∧ ro ≤ b := fun b hb => by
      rcases hst1.new b hb with h | h
      · exact hd b h
      · exact ⟨fun hc => by have := hv.lt b hc; omega, by omega⟩
    obtain ⟨e', w', H', he, hrun, h1, h2, h3⟩ := vloop hl n (i + 1) H2 _ (by omega) (by have := hst1.len; omega) hv2 hw2 hd2
    push_cast at hrun
    refine ⟨e', w', H', he, ?_, h1, hst1.trans h2, h3⟩
    rw [V0_eq]
    simp only [nrow] at happ
    simp [-getElem?_pos, fn13B0, hlen, hlt, hidx, hB, hrow, norm_2, happ, w1, hrun]

theorem values_c {v : IV} {l : List Smp} (hl : l.length ≤ 100000) (hro : ro ≤ H.length) (hv : Sl H v 3 (l.map srow)) : ∃ w H', callW pg ro 13 [v] H = some (w, H') ∧ Sl H' w 2 ((vals l).map nrow) ∧ Stp H H' [] (blkS w) := by
  obtain ⟨e', w', H', he, hrun, h1, h2, _⟩ := vloop (ro := ro) hl l.length 0 H .nsl (by omega) hro hv (by simp [vals]; exact Sl.nil) (by simp [blkS])
  refine ⟨w', H', ?_, h1, h2⟩
  rw [callW_eqO (fn := fn13) rfl rfl]
  simp at hrun
  simp [-getElem?_pos, fn13, hrun, he]

/-! the document's extreme -/
def bst (g : Bool) : Num → List Num → Num
  | b, [] => b
  | b, x :: l => bst g (if (decide (0 < cmpN x.1 x.2 b.1 b.2) && g || decide (cmpN x.1 x.2 b.1 b.2 < 0) && !g) = true then x else b) l

theorem X0_eq {e : Env} : runW pg ro fn12L0 e H = seqO pg ro fn12L0 (runW pg ro fn12B0 (keepE [0, 1, 4, 6, 7] e) H) := runW_loopO

theorem xloop {A : IV} {l : List Num} (hA : SlA A 2 (l.map nrow)) (hl : l.length ≤ 100000) {g : Bool} {C : Nat} {q : IV} (hC : ro ≤ C) : ∀ (n i : Nat) (H : Hp) (b : Num), i + n = l.length → H[C]? = some { rows := [nrow b] } →
    ∃ e', get e' 4 = q ∧ get e' 6 = .ptr C 0 0 0 ∧ runW pg ro fn12L0 [(0, A), (1, .bool g), (4, q), (6, .ptr C 0 0 0), (7, .int .i64 i)] H = some (.exit 0, e', H.set C { rows := [nrow (bst g b (l.drop i))] })
  | 0, i, H, b, hi, hH => by
    have hlen := hA.len
    rw [List.length_map] at hlen
    have hf : ¬ ((i : Int) < l.length) := by omega
    have hlt := (List.getElem?_eq_some_iff.1 hH).1
    have e : l.drop i = [] := by rw [List.drop_eq_nil_iff]; omega
    refine ⟨[(0, A), (1, .bool g), (4, q), (6, .ptr C 0 0 0), (7, .int .i64 i), (19, .bool false)], rfl, rfl, ?_⟩
    rw [X0_eq, e, bst, set_same hH]
    simp [fn12B0, hlen, hf]
  | n + 1, i, H, b, hi, hH => by
    have hlen := hA.len
    rw [List.length_map] at hlen
    obtain ⟨x, hx⟩ : ∃ x, l[i]? = some x := ⟨_, List.getElem?_eq_getElem (by omega)⟩
    have hdr : l.drop i = x :: l.drop (i + 1) := by
      have := List.drop_eq_getElem_cons (l := l) (i := i) (by omega)
      rw [this]; congr 1
      rw [List.getElem?_eq_getElem (by omega)] at hx; exact Option.some.inj hx
    obtain ⟨xo, xn⟩ := x
    obtain ⟨bo, bn⟩ := b
    have hrow : (l.map nrow)[i]? = some [.bool xo, .int .i64 xn] := by rw [List.getElem?_map, hx]; rfl
    have hidx := fun H => hA.idx H i (by simp; omega)
    have hlt : (i : Int) < l.length := by omega
    have hCl := (List.getElem?_eq_some_iff.1 hH).1
    have w1 : IntKind.i64.wrap ((i : Int) + 1) = i + 1 := by rw [IntKind.wrap_i64]; omega
    rw [hdr, bst]
    by_cases hc : (decide (0 < cmpN xo xn bo bn) && g || decide (cmpN xo xn bo bn < 0) && !g) = true
    · obtain ⟨e', g4, g6, hrun⟩ := xloop hA hl hC (g := g) (q := q) n (i + 1) (H.set C { rows := [nrow (xo, xn)] }) (xo, xn) (by omega) (by rw [List.getElem?_set_self hCl])
      push_cast at hrun
      refine ⟨e', g4, g6, ?_⟩
      rw [if_pos hc]
      rw [List.set_set] at hrun
      simp only [nrow] at hH hrun ⊢
      rw [X0_eq]
      cases g
      · simp at hc
        have hc2 : ¬ 0 < cmpN xo xn bo bn := by omega
        simp [-getElem?_pos, fn12B0, hlen, hlt, hidx, hrow, hH, cmp2_2, hc, hc2, hC, w1, hrun]
      · simp at hc
        simp [-getElem?_pos, fn12B0, hlen, hlt, hidx, hrow, hH, cmp2_2, hc, hC, w1, hrun]
    · obtain ⟨e', g4, g6, hrun⟩ := xloop hA hl hC (g := g) (q := q) n (i + 1) H (bo, bn) (by omega) hH
      push_cast at hrun
      refine ⟨e', g4, g6, ?_⟩
      rw [if_neg hc]
      simp only [nrow] at hH hrun ⊢
      rw [X0_eq]
      cases g
      · simp at hc
        have hc2 : ¬ cmpN xo xn bo bn < 0 := by omega
        by_cases hc3 : 0 < cmpN xo xn bo bn
        · simp [-getElem?_pos, fn12B0, hlen, hlt, hidx, hrow, hH, cmp2_2, hc2, hc3, hC, w1, hrun]
        · simp [-getElem?_pos, fn12B0, hlen, hlt, hidx, hrow, hH, cmp2_2, hc2, hc3, hC, w1, hrun]
      · simp at hc
        have hc2 : ¬ 0 < cmpN xo xn bo bn := by omega
        by_cases hc3 : cmpN xo xn bo bn < 0
        · simp [-getElem?_pos, fn12B0, hlen, hlt, hidx, hrow, hH, cmp2_2, hc2, hc3, hC, w1, hrun]
        · simp [-getElem?_pos, fn12B0, hlen, hlt, hidx, hrow, hH, cmp2_2, hc2, hc3, hC, w1, hrun]

def extN (g : Bool) : List Num → Num × Bool
  | [] => ((false, 0), false)
  | x :: l => (normN (bst g x l), true)

theorem ext_c {A : IV} {l : List Num} (hA : SlA A 2 (l.map nrow)) (hl : l.length ≤ 100000) {g : Bool} (hro : ro ≤ H.length) : ∃ H', callW pg ro 12 [A, .bool g] H = some (.tup [.agg [.bool (extN g l).1.1, .int .i64 (extN g l).1.2], .bool (extN g l).2], H') := by
  have hlen := hA.len
  rw [List.length_map] at hlen
  rw [callW_eqO (fn := fn12) rfl rfl]
  cases l with
  | nil =>
    simp at hlen
    simp [-getElem?_pos, fn12, hlen, extN, hro]
  | cons x l =>
    obtain ⟨xo, xn⟩ := x
    have hidx := fun H => hA.idx H 0 (by simp)
    simp only [Int.natCast_zero] at hidx
    obtain ⟨e', g4, g6, hrun⟩ := xloop hA hl (ro := ro) (g := g) (C := H.length + 1) (q := .ptr H.length 0 0 0) (by omega) l.length 1 (H ++ [{ rows := [[.bool false, .int .i64 0]] }, { rows := [nrow (xo, xn)] }]) (xo, xn) (by simp; omega) (by simp)
    simp only [List.drop_one, List.tail_cons, nrow] at hrun
    simp only [List.length_cons] at hlen
    have hz : ¬ (l.length : Int) + 1 = 0 := by omega
    simp at hrun
    simp [-getElem?_pos, fn12, hlen, hz, hidx, nrow, hrun, g4, g6, norm_2, hro, extN]

theorem ext_2 {A : IV} {l : List Num} (hA : SlA (frzArg H A) 2 (l.map nrow)) (hl : l.length ≤ 100000) {g : Bool} : doCall (callW pg) ro 2 (.fn 12 []) [A, .bool g] H = some (.tup [.agg [.bool (extN g l).1.1, .int .i64 (extN g l).1.2], .bool (extN g l).2], H) := by
  obtain ⟨H', h⟩ := ext_c (ro := H.length) (H := H) hA hl (g := g) (Nat.le_refl _)
  exact call2 (args' := [frzArg H A, .bool g]) (by simp) h rfl (.inl rfl)

/-! how many could still be told -/
theorem K0_eq {e : Env} : runW pg ro fn15L0 e H = seqO pg ro fn15L0 (runW pg ro fn15B0 (keepE [0, 1, 5, 6, 7, 8] e) H) := runW_loopO
theorem K1_eq {e : Env} : runW pg ro fn15L1 e H = seqO pg ro fn15L1 (runW pg ro fn15B1 (keepE [0, 1, 5, 6] e) H) := runW_loopO

theorem kin {A : IV} {l : List Smp} (hA : SlA A 3 (l.map srow)) (hl : l.length ≤ 100000) {g : Bool} {i : Nat} {s : Smp} (hs : l[i]? = some s) {c : IV} : ∀ (n k : Nat) (b : Bool), k + n = l.length →
    ∃ e', get e' 0 = A ∧ get e' 1 = .bool g ∧ get e' 5 = c ∧ get e' 6 = .int .i64 i ∧ get e' 7 = .bool (b || (l.drop k).any (fun x => pb g x.2.1 x.2.2 s)) ∧
      runW pg ro fn15L0 [(0, A), (1, .bool g), (5, c), (6, .int .i64 i), (7, .bool b), (8, .int .i64 k)] H = some (.exit 2, e', H)
  | 0, k, b, hk => by
    have hlen := hA.len
    rw [List.length_map] at hlen
    have hf : ¬ ((k : Int) < l.length) := by omega
    have e : l.drop k = [] := by rw [List.drop_eq_nil_iff]; omega
    refine ⟨[(0, A), (1, .bool g), (5, c), (6, .int .i64 i), (7, .bool b), (8, .int .i64 k), (21, .bool false)], rfl, rfl, rfl, rfl, by simp [e], ?_⟩
    rw [K0_eq]; simp [fn15B0, hlen, hf]
  | n + 1, k, b, hk => by
    have hlen := hA.len
    rw [List.length_map] at hlen
    obtain ⟨x, hx⟩ : ∃ x, l[k]? = some x := ⟨_, List.getElem?_eq_getElem (by omega)⟩
    have hdr : l.drop k = x :: l.drop (k + 1) := by
      have := List.drop_eq_getElem_cons (l := l) (i := k) (by omega)
      rw [this]; congr 1
      rw [List.getElem?_eq_getElem (by omega)] at hx; exact Option.some.inj hx
    obtain ⟨xt, xo, xn⟩ := x
    obtain ⟨st, so, sn⟩ := s
    have hi : i < l.length := (List.getElem?_eq_some_iff.1 hs).1
    have hrow : (l.map srow)[k]? = some [.int .i64 xt, .bool xo, .int .i64 xn] := by rw [List.getElem?_map, hx]; rfl
    have hrow2 : (l.map srow)[i]? = some [.int .i64 st, .bool so, .int .i64 sn] := by rw [List.getElem?_map, hs]; rfl
    have hidx := fun H => hA.idx H k (by simp; omega)
    have hidx2 := fun H => hA.idx H i (by simp; omega)
    have hlt : (k : Int) < l.length := by omega
    have w1 : IntKind.i64.wrap ((k : Int) + 1) = k + 1 := by rw [IntKind.wrap_i64]; omega
    obtain ⟨e', g0, g1, g5, g6, g7, hrun⟩ := kin hA hl (g := g) hs (c := c) n (k + 1) (b || pb g xo xn (st, so, sn)) (by omega)
    push_cast at hrun
    refine ⟨e', g0, g1, g5, g6, ?_, ?_⟩
    · rw [g7, hdr, List.any_cons, Bool.or_assoc]
    · rw [K0_eq]
      cases b
      · cases g
        · have e : pb false xo xn (st, so, sn) = decide (cmpN xo xn so sn ≤ 0) := rfl
          rw [e] at hrun
          simp at hrun
          simp [-getElem?_pos, fn15B0, hlen, hlt, hidx, hidx2, hrow, hrow2, cmp2_2, w1, hrun]
        · have e : pb true xo xn (st, so, sn) = decide (0 ≤ cmpN xo xn so sn) := rfl
          rw [e] at hrun
          simp at hrun
          by_cases h0 : 0 ≤ cmpN xo xn so sn
          · simp [h0] at hrun
            simp [-getElem?_pos, fn15B0, hlen, hlt, hidx, hidx2, hrow, hrow2, cmp2_2, w1, h0, hrun]
          · simp [h0] at hrun
            simp [-getElem?_pos, fn15B0, hlen, hlt, hidx, hidx2, hrow, hrow2, cmp2_2, w1, h0, hrun]
      · simp at hrun
        simp [-getElem?_pos, fn15B0, hlen, hlt, hidx, hidx2, hrow, hrow2, cmp2_2, w1, hrun]

/-- The same, in a list. -/
def keptN (g : Bool) : List Smp → Int
  | [] => 0
  | s :: l => (if l.any (fun x => pb g x.2.1 x.2.2 s) = true then 0 else 1) + keptN g l
theorem keptN_le {g : Bool} : ∀ (l : List Smp), 0 ≤ keptN g l ∧ keptN g l ≤ l.length
  | [] => by simp [keptN]
  | s :: l => by have := keptN_le (g := g) l; simp only [keptN, List.length_cons]; split <;> omega

theorem kout {A : IV} {l : List Smp} (hA : SlA A 3 (l.map srow)) (hl : l.length ≤ 100000) {g : Bool} : ∀ (n i : Nat) (c : Int), i + n = l.length → 0 ≤ c → c + n ≤ 1000000 →
    ∃ e', get e' 5 = .int .i64 (c + keptN g (l.drop i)) ∧ runW pg ro fn15L1 [(0, A), (1, .bool g), (5, .int .i64 c), (6, .int .i64 i)] H = some (.exit 0, e', H)
  | 0, i, c, hi, _, _ => by
    have hlen := hA.len
    rw [List.length_map] at hlen
    have hf : ¬ ((i : Int) < l.length) := by omega
    have e : l.drop i = [] := by rw [List.drop_eq_nil_iff]; omega
    refine ⟨[(0, A), (1, .bool g), (5, .int .i64 c), (6, .int .i64 i), (13, .bool false)], by simp [e, keptN], ?_⟩
    rw [K1_eq]; simp [fn15B1, hlen, hf]
  | n + 1, i, c, hi, h0, h1 => by
    have hlen := hA.len
    rw [List.length_map] at hlen
    obtain ⟨x, hx⟩ : ∃ x, l[i]? = some x := ⟨_, List.getElem?_eq_getElem (by omega)⟩
    have hdr : l.drop i = x :: l.drop (i + 1) := by
      have := List.drop_eq_getElem_cons (l := l) (i := i) (by omega)
      rw [this]; congr 1
      rw [List.getElem?_eq_getElem (by omega)] at hx; exact Option.some.inj hx
    have hlt : (i : Int) < l.length := by omega
    have w1 : IntKind.i64.wrap ((i : Int) + 1) = i + 1 := by rw [IntKind.wrap_i64]; omega
    have w2 : IntKind.i64.wrap (c + 1) = c + 1 := by rw [IntKind.wrap_i64]; omega
    obtain ⟨e1, g0, g1, g5, g6, g7, hin⟩ := kin hA hl (ro := ro) (H := H) (g := g) hx (c := .int .i64 c) (l.length - (i + 1)) (i + 1) false (by omega)
    push_cast at hin
    rw [Bool.false_or] at g7
    by_cases hb : (l.drop (i + 1)).any (fun y => pb g y.2.1 y.2.2 x) = true
    · obtain ⟨e', g5', hrun⟩ := kout hA hl (g := g) n (i + 1) c (by omega) h0 (by omega)
      push_cast at hrun
      refine ⟨e', ?_, ?_⟩
      · rw [g5', hdr, keptN, if_pos hb]; simp
      · rw [hb] at g7
        rw [K1_eq]
        simp [-getElem?_pos, fn15B1, hlen, hlt, w1, hin, g0, g1, g5, g6, g7, hrun]
    · obtain ⟨e', g5', hrun⟩ := kout hA hl (g := g) n (i + 1) (c + 1) (by omega) (by omega) (by omega)
      push_cast at hrun
      refine ⟨e', ?_, ?_⟩
      · rw [g5', hdr, keptN, if_neg hb]; congr 1; omega
      · have hb' : (l.drop (i + 1)).any (fun y => pb g y.2.1 y.2.2 x) = false := by simpa using hb
        rw [hb'] at g7
        rw [K1_eq]
        simp [-getElem?_pos, fn15B1, hlen, hlt, w1, w2, hin, g0, g1, g5, g6, g7, hrun]

theorem keptm_2 {A : IV} {l : List Smp} (hA : SlA (frzArg H A) 3 (l.map srow)) (hl : l.length ≤ 100000) {g : Bool} : doCall (callW pg) ro 2 (.fn 15 []) [A, .bool g] H = some (.int .i64 (keptN g l), H) := by
  obtain ⟨e', g5, hrun⟩ := kout (ro := H.length) (H := H) hA hl (g := g) l.length 0 0 (by omega) (by omega) (by omega)
  simp at g5 hrun
  refine call2 (H2 := H) (args' := [frzArg H A, .bool g]) (by simp) ?_ rfl (.inl rfl)
  rw [callW_eqO (fn := fn15) rfl rfl]
  simp [-getElem?_pos, fn15, hrun, g5]

end Go.Proofs.Ytddbpbkphimdkaa
