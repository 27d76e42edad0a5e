import Derived.Test.YtinmpfflkcnkfaaTw3
import Derived.Test.YtinmpfflkcnkfaaTw0
/- The law 'LabelWith'. -/
namespace Go.Proofs.Ytinmpfflkcnkfaa
open Go Go.Vs
variable {ro : Nat} {H : Hp}

theorem cloneO_c {A : IV} {L : List Pr} (h : SlA A 2 (L.map prow)) (hl : L.length ≤ 1000) : ∃ v' Y, callW pg ro 48 [A] H = some (v', H ++ Y) ∧ Ow (H ++ Y) v' 2 (L.map prow) ∧ ∀ b ∈ blkS v', H.length ≤ b := by
  rcases h.imm with ⟨rfl, hr⟩ | ⟨f, hA⟩
  · refine ⟨.nsl, [], ?_, by rw [hr]; exact Ow.nil, by simp [blkS]⟩
    rw [callW_eqO (fn := fn48) rfl rfl]
    simp [-getElem?_pos, fn48]
  · have hr : Vs.rowsOf (H ++ [{ rows := [] }]) A = some (L.map prow) := h.rws _
    have hw := szOk_all h.sz
    have hm : (L.map prow).length * 32 ≤ room := by rw [List.length_map]; unfold room; omega
    subst hA
    by_cases h0 : L.map prow = []
    · refine ⟨.arr H.length 0 0 0 0 true, [{ rows := [] }], ?_, .inr ⟨H.length, 0, [], [], 0, true, by rw [h0]; rfl, by rw [h0]; simp, by simp, by simp, by rw [h0]; simp, by rw [h0]; simp⟩, by simp [blkS]⟩
      rw [callW_eqO (fn := fn48) rfl rfl]
      simp only [h0] at hr ⊢
      simp [-getElem?_pos, fn48, appV, blkAt_eq]
    · have h00 : ¬ L = [] := fun e => h0 (by rw [e]; rfl)
      refine ⟨.arr (H.length + 1) 0 0 (L.map prow).length (L.map prow).length false, [{ rows := [] }, { rows := L.map prow }], ?_, .inr ⟨H.length + 1, 0, [], [], (L.map prow).length, false, by simp, by simp, by simp, fun _ => by
        have := List.length_pos_iff.2 h0; simpa using this, by simp, by simpa using h.sz⟩, by simp [blkS]⟩
      rw [callW_eqO (fn := fn48) rfl rfl]
      rw [List.length_map] at hm
      simp [-getElem?_pos, fn48, appV, blkAt_eq, hw, h00, newArr, hm]

def wE (l ps : List Pr) : Int := if isB l = true then (if isB (setAll ps l) = true then 0 else 30) else 30
def wL (l ps : List Pr) : List Pr := if wE l ps = 0 then setAll ps l else []

theorem setAll_len : ∀ (ps l : List Pr), (setAll ps l).length ≤ l.length + ps.length
  | [], l => by simp [setAll]
  | x :: ps, l => by
    have h1 := setAll_len ps (setP x l)
    have h2 := setP_len x l
    have e : setAll (x :: ps) l = setAll ps (setP x l) := rfl
    rw [e, List.length_cons]; omega
theorem setAll_mem : ∀ {ps l : List Pr}, Strict l → ∀ {y : Pr}, y ∈ setAll ps l → y ∈ l ∨ y ∈ ps
  | [], l, _, y, h => .inl h
  | x :: ps, l, hs, y, h => by
    have e : setAll (x :: ps) l = setAll ps (setP x l) := rfl
    rw [e] at h
    rcases setAll_mem (setP_strict hs) h with h | h
    · rcases (setP_mem hs).1 h with ⟨h, _⟩ | ⟨rfl, _⟩
      · exact .inl h
      · exact .inr (List.mem_cons_self ..)
    · exact .inr (List.mem_cons_of_mem _ h)

theorem with_b {A B : IV} {l ps : List Pr} (hA : SlA A 2 (l.map prow)) (hB : SlA B 2 (ps.map prow)) (hl : l.length ≤ 100) (hp : ps.length ≤ 100) (hsl : Short l) (hsp : Short ps) :
    ∃ v' H', callW pg H.length 25 [A, B] H = some (.tup [v', .int .i64 (wE l ps)], H') ∧ Sq H' v' 2 ((wL l ps).map prow) ∧ ∀ b ∈ blkS v', H.length ≤ b := by
  have hlen := hB.len
  rw [List.length_map] at hlen
  have his := is_2 (ro := H.length) (H := H) (A := A) (l := l) (by rw [SlA.self hA]; exact hA) hsl (by omega)
  rw [callW_eqO (fn := fn25) rfl rfl]
  by_cases h1 : isB l = true
  · rw [h1] at his
    have hst : Strict l := (isB_iff.1 h1).2.1
    obtain ⟨v1, Y, c1, c2, c3⟩ := cloneO_c (ro := H.length) (H := H) hA (by omega)
    obtain ⟨e', G', v', r1, r2, r3, r4⟩ := with_loop (ro := H.length) hB hp ps.length 0 (H ++ Y) v1 l (by omega) (by omega) hst c2 c3 (by simp)
    rw [List.drop_zero] at r3
    simp at r1
    have hsa := setAll_len ps l
    have his2 := is_2 (ro := H.length) (H := G') (A := v') (l := setAll ps l) (r3.sq.frzA prow_plain) (fun x hx => (setAll_mem hst hx).elim (hsl x) (hsp x)) (by omega)
    by_cases h2 : isB (setAll ps l) = true
    · rw [h2] at his2
      have eE : wE l ps = 0 := by simp [wE, h1, h2]
      have eL : wL l ps = setAll ps l := by simp [wL, eE]
      refine ⟨v', G', ?_, by rw [eL]; exact r3.sq, r4⟩
      rw [eE]
      simp [-getElem?_pos, fn25, hlen, his, c1, r1, r2, his2]
    · have h2' : isB (setAll ps l) = false := by simpa using h2
      rw [h2'] at his2
      have eE : wE l ps = 30 := by simp [wE, h1, h2]
      have eL : wL l ps = [] := by simp [wL, eE]
      refine ⟨.nsl, G', ?_, by rw [eL]; exact Sq.nil, by simp [blkS]⟩
      rw [eE]
      simp [-getElem?_pos, fn25, hlen, his, c1, r1, r2, his2]
  · have h1' : isB l = false := by simpa using h1
    rw [h1'] at his
    have eE : wE l ps = 30 := by simp [wE, h1]
    have eL : wL l ps = [] := by simp [wL, eE]
    refine ⟨.nsl, H, ?_, by rw [eL]; exact Sq.nil, by simp [blkS]⟩
    rw [eE]
    simp [-getElem?_pos, fn25, his]

/-- Of pairs in the heap: they may be frozen. -/
theorem with_1a {A : IV} {l ps : List Pr} {b g len cap : Nat} {ex : Bool} {B : Bk} (hA : SlA A 2 (l.map prow)) (hl : l.length ≤ 100) (hsl : Short l) (hB : H[b]? = some B) (hg : B.gen = g) (hrows : B.rows = ps.map prow) (hlen : len = ps.length) (hp : ps.length ≤ 100) (hsp : Short ps) (hro : ro ≤ b) :
    ∃ vi H', doCall (callW pg) ro 1 (.fn 25 []) [A, .arr b g 0 len cap ex] H = some (.tup [vi, .int .i64 (wE l ps)], H') ∧ SlA vi 2 ((wL l ps).map prow) ∧ H'.length = H.length ∧ ∀ x, x ≠ b → H'[x]? = H[x]? := by
  have hAb : blkAt H b g = some B := by rw [blkAt_eq, hB, Option.bind_some, if_pos hg]
  have htk : (B.rows.drop 0).take len = ps.map prow := by rw [List.drop_zero, hrows, hlen]; exact List.take_of_length_le (by simp)
  have hmo : mapO (mapO (Vs.frz0 11 H)) (ps.map prow) = some (ps.map prow) := mapO_id fun r hr => mapO_id fun x hx => frz0_plain 11 H x (prow_plainK r hr x hx)
  have hf : frzArg H (.arr b g 0 len cap ex) = .imm (ps.map prow) (ex && cap == len) := by
    unfold frzArg
    show (Vs.frz0 (11 + 1) H _).getD _ = _
    rw [frz0_arr', hAb, Option.bind_some, if_pos (by rw [hrows, List.length_map]; omega), htk, hmo]
    rfl
  have hS : SlA (.imm (ps.map prow) (ex && cap == len)) 2 (ps.map prow) := slA_imm fun r hr => by
    obtain ⟨x, _, rfl⟩ := List.mem_map.1 hr
    rfl
  have hbk : blks frzD H (.arr b g 0 len cap ex) = [b] := by
    show b :: (match blkAt H b g with | some B => _ | none => _) = _
    rw [hAb]
    show b :: ((B.rows.drop 0).take len).flatMap _ = _
    rw [htk, blks_flat prow_plain]
  obtain ⟨v', H2, h1, h2, h3⟩ := with_b (H := H) hA hS hl hp hsl hsp
  obtain ⟨vi, h4, h5⟩ := frzK (k := 10) h2 h3 prow_plainK
  have ha : ([A, IV.arr b g 0 len cap ex] ++ []).map (frzArg H) = [A, .imm (ps.map prow) (ex && cap == len)] := by simp [SlA.self hA, hf]
  have hb : ([A, IV.arr b g 0 len cap ex] ++ []).flatMap (blks frzD H) = [b] := by
    have e1 := blks_slA (H := H) hA
    simp only [List.flatMap_cons, List.flatMap_nil, List.append_nil] at e1
    simp only [List.append_nil, List.flatMap_cons, List.flatMap_nil, e1, hbk, List.nil_append]
  have hfz : frz frzD H2 H.length (.tup [v', .int .i64 (wE l ps)]) = some (.tup [vi, .int .i64 (wE l ps)]) := by
    show (mapO (frz 11 H2 H.length) [v', .int .i64 (wE l ps)]).map IV.tup = _
    have hfi : ∀ X, frz 11 X H.length (.int .i64 (wE l ps)) = some (.int .i64 (wE l ps)) := fun _ => rfl
    simp only [mapO, h4, hfi, Option.bind_some, Option.map_some]
  cases hfl : flatV (.tup [vi, .int .i64 (wE l ps)])
  · refine ⟨vi, H.set b { B with frz := true }, ?_, h5, by simp, fun x hx => List.getElem?_set_ne (Ne.symm hx)⟩
    simp only [doCall, callP, ha, h1, Option.bind_some, hfz, hb, hfl, markF, hB, hro, if_true]
    rfl
  · refine ⟨vi, H, ?_, h5, rfl, fun _ _ => rfl⟩
    simp only [doCall, callP, ha, h1, Option.bind_some, hfz, hfl, if_true]

namespace Wth
theorem loop {A X : IV} {l : List Pr} {p : Pr} {b1 b2 : Nat} (hA : SlA A 2 (l.map prow)) (hX : SlA X 2 ((setP p l).map prow)) (hl : l.length ≤ 20) (hs : Strict l) (h1 : H[b1]? = some { rows := [prow p] }) : ∀ (d i : Nat), i + d = l.length →
    ∃ e', runW pg ro fn10L0 [(0, A), (4, .ptr b1 0 0 0), (5, .ptr b2 0 0 0), (7, X), (11, .int .i64 i)] H = some (.exit 0, e', H) ∧ get e' 0 = A ∧ get e' 4 = .ptr b1 0 0 0 ∧ get e' 5 = .ptr b2 0 0 0 := by
  have L : ∀ e, runW pg ro fn10L0 e H = seqO pg ro fn10L0 (runW pg ro fn10B0 (keepE [0, 4, 5, 7, 11] e) H) := fun e => runW_loopO
  have hlen := hA.len
  rw [List.length_map] at hlen
  intro d
  induction d with
  | zero =>
    intro i hi
    have : i = l.length := by omega
    subst this
    refine ⟨[(0, A), (4, .ptr b1 0 0 0), (5, .ptr b2 0 0 0), (7, X), (11, .int .i64 l.length), (88, .bool false)], ?_, rfl, rfl, rfl⟩
    rw [L]; simp [fn10B0, hlen]
  | succ d ih =>
    intro i hi
    have h2 : i < l.length := by omega
    have h3 : (i : Int) < l.length := by omega
    have w1 : IntKind.i64.wrap ((i : Int) + 1) = i + 1 := by rw [IntKind.wrap_i64]; omega
    obtain ⟨x, hx⟩ : ∃ x, l[i]? = some x := ⟨_, List.getElem?_eq_getElem h2⟩
    have hidx := hA.idx H i (by simp; omega)
    obtain ⟨e', hr, h4⟩ := ih (i + 1) (by omega)
    push_cast at hr
    refine ⟨e', ?_, h4⟩
    rw [L]
    unfold prow at h1
    by_cases hn : x.1 = p.1
    · have hb : (x.1 == p.1) = true := by simpa using hn
      simp [-getElem?_pos, fn10B0, hlen, h3, hidx, hx, prow, blkAt_eq, h1, hb, w1, hr]
    · have hb : (x.1 == p.1) = false := by simpa using hn
      have hg := get_2 (ro := ro) (H := H) (A := X) (l := setP p l) (n := x.1) (by rw [SlA.self hX]; exact hX) (by have := setP_len p l; omega)
      rw [setP_get_other hs (List.mem_of_getElem? hx) hn] at hg
      simp [-getElem?_pos, fn10B0, hlen, h3, hidx, hx, prow, blkAt_eq, h1, hb, hg, w1, hr]
theorem rm_B {l : List Pr} {n : List UInt8} (h : isB l = true) : isB (setP (n, []) l) = true := by
  have hs : Strict l := (isB_iff.1 h).2.1
  rw [isB_iff] at h ⊢
  refine ⟨fun x hx => ?_, setP_strict hs, ?_⟩
  · rcases (setP_mem hs).1 hx with ⟨h1, _⟩ | ⟨_, h1⟩
    · exact h.1 x h1
    · exact absurd rfl h1
  · rw [setP_eq hs]
    have e := List.length_filter_le (fun y => decide (cN y ((n, []) : Pr) < 0) || decide (0 < cN y ((n, []) : Pr))) l
    have e2 : ∀ m : List Pr, (m.filter fun y => decide (cN y ((n, []) : Pr) < 0)).length + (m.filter fun y => decide (0 < cN y ((n, []) : Pr))).length = (m.filter fun y => decide (cN y ((n, []) : Pr) < 0) || decide (0 < cN y ((n, []) : Pr))).length := by
      intro m
      induction m with
      | nil => rfl
      | cons a m ih =>
        by_cases c1 : cN a (n, []) < 0
        · have c2 : ¬ 0 < cN a ((n, []) : Pr) := by omega
          simp [c1, c2] at ih ⊢; omega
        · by_cases c2 : 0 < cN a ((n, []) : Pr)
          · simp [c1, c2] at ih ⊢; omega
          · simp [c1, c2] at ih ⊢; omega
    have := e2 l
    have h8 := h.2.2
    simp only [if_true, List.nil_append, List.length_append]
    omega

theorem law {A : IV} {l : List Pr} {p q : Pr} (hA : SlA A 2 (l.map prow)) (hl : l.length < 9223372036854775807) (hp1 : p.1.length < 9223372036854775807) (hq1 : q.1.length < 9223372036854775807) : ∃ H', callW pg 0 10 [A, .agg (prow p), .agg (prow q)] [] = some (.bool true, H') := by
  have hlen := hA.len
  rw [List.length_map] at hlen
  refine ex_of_map ?_
  rw [callW_eqO (fn := fn10) rfl rfl]
  have b1 := big_2 (ro := 0) (H := [{ rows := [prow p] }, { rows := [prow q] }]) hA hl
  have hkn : doCall (callW pg) 0 2 (.fn 12 []) [] [{ rows := [prow p] }, { rows := [prow q] }] = some (.bool true, [{ rows := [prow p] }, { rows := [prow q] }]) := by
    obtain ⟨Hk, h⟩ := known_c2 { rows := [prow p] } { rows := [prow q] }
    exact call2p h rfl rfl
  by_cases c1 : bigB l = true
  · unfold prow at b1 hkn ⊢
    simp [fn10, hkn, b1, c1]
  have c1' : bigB l = false := by simpa using c1
  obtain ⟨hp20, hshort⟩ := bigB_false c1'
  have hs : Short l := fun x hx => by have := hshort x hx; omega
  have b2 := is_2 (ro := 0) (H := [{ rows := [prow p] }, { rows := [prow q] }]) (A := A) (l := l) (by rw [SlA.self hA]; exact hA) hs hl
  by_cases c2 : isB l = true
  rotate_left
  · have c2' : isB l = false := by simpa using c2
    unfold prow at b1 hkn b2 ⊢
    simp [fn10, hkn, b1, c1', b2, c2']
  have hst : Strict l := (isB_iff.1 c2).2.1
  by_cases c3 : 100 < p.2.length
  · have c3' : (100 : Int) < p.2.length := by omega
    unfold prow at b1 hkn b2 ⊢
    simp [-getElem?_pos, fn10, hkn, b1, c1', b2, c2, blkAt_eq, c3, c3']
  have c3' : ¬ (100 : Int) < p.2.length := by omega
  by_cases c4 : 100 < q.2.length
  · have c4' : (100 : Int) < q.2.length := by omega
    unfold prow at b1 hkn b2 ⊢
    simp [-getElem?_pos, fn10, hkn, b1, c1', b2, c2, blkAt_eq, c3, c3', c4, c4']
  have c4' : ¬ (100 : Int) < q.2.length := by omega
  have sh1 : Short [p] := fun x hx => by simp at hx; subst hx; omega
  have sh2 : Short [p, q] := fun x hx => by simp at hx; rcases hx with rfl | rfl <;> omega
  have sh3 : Short [q, p] := fun x hx => by simp at hx; rcases hx with rfl | rfl <;> omega
  -- the first set
  obtain ⟨X, H1, m1, s1, l1, f1⟩ := with_1a (ro := 0) (H := [{ rows := [prow p] }, { rows := [prow q] }, { rows := [prow p] }]) (ps := [p]) (b := 2) (g := 0) (len := 1) (cap := 1) (ex := true) hA (by omega) hs rfl rfl rfl rfl (by simp) sh1 (Nat.zero_le _)
  have g0 : H1[0]? = some { rows := [prow p] } := f1 0 (by decide)
  have g1 : H1[1]? = some { rows := [prow q] } := f1 1 (by decide)
  have e1 : setAll [p] l = setP p l := rfl
  by_cases he : wE l [p] = 0
  rotate_left
  · have he30 : wE l [p] = 30 := by
      unfold wE at he ⊢
      rw [if_pos c2] at he ⊢
      by_cases h2 : isB (setAll [p] l) = true
      · rw [if_pos h2] at he; exact absurd rfl he
      · rw [if_neg h2]
    rw [he30] at m1
    unfold prow at b1 hkn b2 m1 ⊢
    simp [-getElem?_pos, fn10, hkn, b1, c1', b2, c2, blkAt_eq, c3, c3', c4, c4', m1]
  rw [he] at m1
  have hLx : wL l [p] = setP p l := by simp [wL, he, e1]
  rw [hLx] at s1
  have hBx : isB (setP p l) = true := by
    cases h : isB (setP p l)
    · simp [wE, c2, e1, h] at he
    · rfl
  have hstx := setP_strict (x := p) hst
  have hlx := setP_len p l
  have hsx : Short (setP p l) := fun x hx => (setAll_mem (ps := [p]) hst hx).elim (hs x) (sh1 x)
  have shn : Short [((p.1, []) : Pr)] := fun x hx => by simp at hx; subst hx; simp; omega
  -- taken out again
  obtain ⟨Y, H2, m2, s2, l2, f2⟩ := with_1a (ro := 0) (H := H1 ++ [{ rows := [prow (p.1, [])] }]) (B := { rows := [prow (p.1, [])] }) (ps := [((p.1, []) : Pr)]) (b := 3) (g := 0) (len := 1) (cap := 1) (ex := true) s1 (by omega) hsx (by rw [List.getElem?_append_right (by simp [l1])]; simp [l1]) rfl rfl rfl (by simp) shn (Nat.zero_le _)
  have e2 : setAll [((p.1, []) : Pr)] (setP p l) = setP (p.1, []) (setP p l) := rfl
  have he2 : wE (setP p l) [((p.1, []) : Pr)] = 0 := by simp [wE, hBx, e2, rm_B hBx]
  have hLy : wL (setP p l) [((p.1, []) : Pr)] = setP (p.1, []) (setP p l) := by simp [wL, he2, e2]
  rw [he2] at m2
  rw [hLy] at s2
  have hly := setP_len ((p.1, []) : Pr) (setP p l)
  rw [List.length_append, l1] at l2
  have q0 : H2[0]? = some { rows := [prow p] } := by rw [f2 0 (by decide), List.getElem?_append_left (by simp [l1])]; exact g0
  have q1 : H2[1]? = some { rows := [prow q] } := by rw [f2 1 (by decide), List.getElem?_append_left (by simp [l1])]; exact g1
  have t1 := get_2 (ro := 0) (H := H2) (A := X) (l := setP p l) (n := p.1) (by rw [SlA.self s1]; exact s1) (by omega)
  rw [setP_get hst] at t1
  have t2 := get_2 (ro := 0) (H := H2) (A := Y) (l := setP (p.1, []) (setP p l)) (n := p.1) (by rw [SlA.self s2]; exact s2) (by omega)
  rw [show getB p.1 (setP (p.1, []) (setP p l)) = [] from setP_get (x := (p.1, [])) hstx] at t2
  have t3 := is_2 (ro := 0) (H := H2) (A := X) (l := setP p l) (by rw [SlA.self s1]; exact s1) hsx (by omega)
  rw [hBx] at t3
  obtain ⟨e', hr, r0, r4, r5⟩ := loop (ro := 0) (H := H2) (b1 := 0) (b2 := 1) hA s1 hp20 hst q0 l.length 0 (by omega)
  simp at hr
  -- both, in either order
  obtain ⟨Z, H3, m3, s3, l3, f3⟩ := with_1a (ro := 0) (H := H2 ++ [{ rows := [prow p, prow q] }]) (B := { rows := [prow p, prow q] }) (ps := [p, q]) (b := 4) (g := 0) (len := 2) (cap := 2) (ex := true) hA (by omega) hs (by rw [List.getElem?_append_right (by simp [l2])]; simp [l2]) rfl rfl rfl (by simp) sh2 (Nat.zero_le _)
  rw [List.length_append, l2] at l3
  have u0 : H3[0]? = some { rows := [prow p] } := by rw [f3 0 (by decide), List.getElem?_append_left (by simp [l2])]; exact q0
  have u1 : H3[1]? = some { rows := [prow q] } := by rw [f3 1 (by decide), List.getElem?_append_left (by simp [l2])]; exact q1
  obtain ⟨Z2, H4, m4, s4, l4, f4⟩ := with_1a (ro := 0) (H := H3 ++ [{ rows := [prow q, prow p] }]) (B := { rows := [prow q, prow p] }) (ps := [q, p]) (b := 5) (g := 0) (len := 2) (cap := 2) (ex := true) hA (by omega) hs (by rw [List.getElem?_append_right (by simp [l3])]; simp [l3]) rfl rfl rfl (by simp) sh3 (Nat.zero_le _)
  have v0 : H4[0]? = some { rows := [prow p] } := by rw [f4 0 (by decide), List.getElem?_append_left (by simp [l3])]; exact u0
  have v1 : H4[1]? = some { rows := [prow q] } := by rw [f4 1 (by decide), List.getElem?_append_left (by simp [l3])]; exact u1
  have hbs : (IV.str ⟨#[]⟩) = .str (bs []) := rfl
  by_cases hn : p.1 = q.1
  · have hnb : (p.1 == q.1) = true := by simpa using hn
    cases hpe : p.2 == []
    all_goals
      unfold prow at b1 hkn b2 m1 m2 m3 m4 g0 g1 q0 q1 u0 u1 v0 v1 ⊢
      simp at l1 l2 l3
      simp [-getElem?_pos, fn10, hkn, b1, c1', b2, c2, blkAt_eq, c3, c3', c4, c4', m1, l1, g0, g1, hbs, m2, l2, q0, q1, t1, t2, t3, hpe, hr, r0, r4, r5, m3, l3, u0, u1, m4, v0, v1, hnb]
  · have hnb : (p.1 == q.1) = false := by simpa using hn
    have hset : setAll [p, q] l = setAll [q, p] l := setP_comm hst hn
    have eE : wE l [p, q] = wE l [q, p] := by unfold wE; rw [hset]
    have eL : wL l [p, q] = wL l [q, p] := by unfold wL; rw [eE, hset]
    rw [eE] at m3
    rw [eL] at s3
    have hwl : (wL l [q, p]).length ≤ 100 := by
      unfold wL
      split
      · have := setAll_len [q, p] l
        simp at this; omega
      · simp
    have hsm := same_2 (ro := 0) (H := H4) s3 s4 (by omega)
    simp at hsm
    cases hpe : p.2 == []
    all_goals
      unfold prow at b1 hkn b2 m1 m2 m3 m4 g0 g1 q0 q1 u0 u1 v0 v1 ⊢
      simp at l1 l2 l3
      simp [-getElem?_pos, fn10, hkn, b1, c1', b2, c2, blkAt_eq, c3, c3', c4, c4', m1, l1, g0, g1, hbs, m2, l2, q0, q1, t1, t2, t3, hpe, hr, r0, r4, r5, m3, l3, u0, u1, m4, v0, v1, hnb, hsm]
end Wth
theorem Wth.wf (x0 : (Ty.sl TP).den) (x1 x2 : TP.den) (_ : (Ty.sl TP).ok x0) (_ : TP.ok x1) (_ : TP.ok x2) (w0 : (Ty.sl TP).okw x0) (w1 : TP.okw x1) (w2 : TP.okw x2) :
    ∃ H', callW pg 0 10 [(Ty.sl TP).arg x0, TP.arg x1, TP.arg x2] [] = some (.bool true, H') := by
  obtain ⟨l, hA, hl⟩ := pairs_val x0 w0
  have e : ∀ x : TP.den, TP.arg x = .agg (prow (toPd x)) := fun x => by
    show IV.agg _ = _
    exact congrArg IV.agg (toP_row x)
  have hb : ∀ x : TP.den, TP.okw x → (toPd x).1.length < 9223372036854775807 := fun x h => by
    have h1 : x.1.size ≤ reachBytes := h.1
    rw [reach_eq] at h1
    have h2 : (toPd x).1.length = x.1.size := by
      show x.1.data.toList.length = x.1.data.size
      simp
    omega
  rw [e, e]
  exact Wth.law hA (room_lt hl) (hb x1 w1) (hb x2 w2)
end Go.Proofs.Ytinmpfflkcnkfaa
