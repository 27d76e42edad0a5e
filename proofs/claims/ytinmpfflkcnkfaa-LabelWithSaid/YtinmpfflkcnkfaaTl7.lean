import Derived.Test.YtinmpfflkcnkfaaTl6
/- A set made of pairs. -/
namespace Go.Proofs.Ytinmpfflkcnkfaa
open Go Go.Vs
variable {ro : Nat} {H : Hp}

/-- Two neighbours of one name. -/
def dupA : List Pr → Bool
  | a :: b :: r => (a.1 == b.1) || dupA (b :: r)
  | _ => false
def noV (p : Pr) : Bool := p.2 == []
def mkS (p : List Pr) : List Pr := isort cN p
def mkD (p : List Pr) : List Pr := kept noV (mkS p)
def mkE (p : List Pr) : Int := if dupA (mkS p) = true then 31 else if isB (mkD p) = true then 0 else 30
def mkL (p : List Pr) : List Pr := if mkE p = 0 then mkD p else []

theorem nov_ok : FnOk (fun _ => True) (.fn 52 []) noV := by
  refine ⟨fun ro H p _ => ?_, fun _ _ h => h, fun _ => rfl⟩
  have h : ∃ H', callW pg H.length 52 [.agg (prow p)] H = some (.bool (noV p), H') := by
    refine ⟨H ++ [{ rows := [prow p] }], ?_⟩
    rw [callW_eqO (fn := fn52) rfl rfl]
    unfold prow noV
    simp [-getElem?_pos, fn52, bs0]
  obtain ⟨H', h⟩ := h
  exact call2p h (by simp [prow, plainD, frzD]) rfl

theorem dup_loop {v : IV} {l : List Pr} (hl : l.length ≤ 1000) (h : Sq H v 2 (l.map prow)) : ∀ (d i : Nat), i + 1 + d = l.length →
    (dupA (l.drop i) = true ∧ runW pg ro fn20L0 [(4, v), (5, .int .i64 (i + 1))] H = some (.ret, [(2, .nsl), (3, .int .i64 31)], H)) ∨
    (dupA (l.drop i) = false ∧ runW pg ro fn20L0 [(4, v), (5, .int .i64 (i + 1))] H = some (.exit 0, [(4, v), (5, .int .i64 l.length), (13, .bool false)], H)) := by
  have L : ∀ e, runW pg ro fn20L0 e H = seqO pg ro fn20L0 (runW pg ro fn20B0 (keepE [4, 5] e) H) := fun e => runW_loopO
  have hlen := h.len
  rw [List.length_map] at hlen
  intro d
  induction d with
  | zero =>
    intro i hi
    have h2 : i < l.length := by omega
    have hdr : l.drop i = [l[i]] := by
      rw [List.drop_eq_getElem_cons h2, List.drop_eq_nil_iff.2 (by omega)]
    have e : (i : Int) + 1 = l.length := by omega
    refine .inr ⟨by rw [hdr]; rfl, ?_⟩
    rw [e, L]; simp [fn20B0, hlen]
  | succ d ih =>
    intro i hi
    have h2 : i + 1 < l.length := by omega
    have h1 : (i : Int) + 1 < l.length := by omega
    have w0 : IntKind.i64.wrap (i : Int) = i := by rw [IntKind.wrap_i64]; omega
    have w1 : IntKind.i64.wrap ((i : Int) + 1 + 1) = i + 1 + 1 := by rw [IntKind.wrap_i64]; omega
    have w1' : IntKind.i64.wrap ((i : Int) + 1 - 1) = i := by rw [IntKind.wrap_i64]; omega
    obtain ⟨x, hx⟩ : ∃ x, l[i]? = some x := ⟨_, List.getElem?_eq_getElem (by omega)⟩
    obtain ⟨y, hy⟩ : ∃ y, l[i + 1]? = some y := ⟨_, List.getElem?_eq_getElem h2⟩
    have hdr : l.drop i = x :: y :: l.drop (i + 1 + 1) := by
      rw [List.drop_eq_getElem_cons (show i < l.length by omega), List.drop_eq_getElem_cons h2]
      rw [List.getElem?_eq_getElem (show i < l.length by omega)] at hx
      rw [List.getElem?_eq_getElem h2] at hy
      rw [Option.some.inj hx, Option.some.inj hy]
    have hdr2 : l.drop (i + 1) = y :: l.drop (i + 1 + 1) := by
      rw [List.drop_eq_getElem_cons h2]
      rw [List.getElem?_eq_getElem h2] at hy
      rw [Option.some.inj hy]
    obtain ⟨b1, B1, j1, hb1, hidx1, hB1, hf1, hrow1⟩ := h.idx (i := i) (row := prow x) (by rw [List.getElem?_map, hx]; rfl)
    obtain ⟨b2, B2, j2, hb2, hidx2, hB2, hf2, hrow2⟩ := h.idx (i := i + 1) (row := prow y) (by rw [List.getElem?_map, hy]; rfl)
    push_cast at hidx2
    unfold prow at hrow1 hrow2
    rw [hdr]
    simp only [dupA]
    cases hq : x.1 == y.1
    · have ih := ih (i + 1) (by omega)
      rw [hdr2] at ih
      push_cast at ih
      have step : runW pg ro fn20L0 [(4, v), (5, .int .i64 (i + 1))] H = runW pg ro fn20L0 [(4, v), (5, .int .i64 (i + 1 + 1))] H := by
        rw [L]
        simp [-getElem?_pos, fn20B0, hlen, h1, w0, w1, w1', hidx1, hidx2, hB1, hB2, hrow1, hrow2, hq]
      rw [step]
      simpa using ih
    · refine .inl ⟨by simp, ?_⟩
      rw [L]
      simp [-getElem?_pos, fn20B0, hlen, h1, w0, w1', hidx1, hidx2, hB1, hB2, hrow1, hrow2, hq]

theorem short_sub {l m : List Pr} (h : Short l) (hm : ∀ p ∈ m, p ∈ l) : Short m := fun p hp => h p (hm p hp)
theorem mkS_mem {p : List Pr} {x : Pr} : x ∈ mkS p ↔ x ∈ p := (isort_perm p).mem_iff
theorem mkS_len (p : List Pr) : (mkS p).length = p.length := isort_len p
theorem mkD_mem {p : List Pr} {x : Pr} : x ∈ mkD p ↔ x ∈ p ∧ noV x = false := by
  simp [mkD, kept, mkS_mem]

theorem make_b {A : IV} {p : List Pr} (hA : SlA A 2 (p.map prow)) (hp : p.length ≤ 20) (hs : Short p) :
    ∃ v' H', callW pg H.length 20 [A] H = some (.tup [v', .int .i64 (mkE p)], H') ∧ Sq H' v' 2 ((mkL p).map prow) ∧ ∀ b ∈ blkS v', H.length ≤ b := by
  obtain ⟨v1, Y, c1, c2, c3⟩ := cloneR_c (ro := H.length) (H := H) hA (by omega)
  obtain ⟨G1, s1, s2, s3, s4⟩ := stable_c (ro := H.length) hp (fun _ _ => trivial) (by simp) c3 c2
  have hsl : (mkS p).length ≤ 20 := by rw [mkS_len]; exact hp
  have s2 : Sq G1 v1 2 ((mkS p).map prow) := s2
  have hG1 : H.length ≤ G1.length := by rw [s3]; simp
  have hlen := s2.len
  rw [List.length_map] at hlen
  have w1 : IntKind.i64.wrap 1 = 1 := by decide
  rw [callW_eqO (fn := fn20) rfl rfl]
  have hloop : (dupA (mkS p) = true ∧ runW pg H.length fn20L0 [(4, v1), (5, .int .i64 1)] G1 = some (.ret, [(2, .nsl), (3, .int .i64 31)], G1)) ∨
      (dupA (mkS p) = false ∧ ∃ e', runW pg H.length fn20L0 [(4, v1), (5, .int .i64 1)] G1 = some (.exit 0, e', G1) ∧ get e' 4 = v1) := by
    by_cases h0 : (mkS p).length = 0
    · have e0 : mkS p = [] := List.eq_nil_of_length_eq_zero h0
      refine .inr ⟨by rw [e0]; rfl, [(4, v1), (5, .int .i64 1), (13, .bool false)], ?_, rfl⟩
      have L : ∀ e, runW pg H.length fn20L0 e G1 = seqO pg H.length fn20L0 (runW pg H.length fn20B0 (keepE [4, 5] e) G1) := fun e => runW_loopO
      rw [L]; simp [fn20B0, hlen, h0]
    · rcases dup_loop (ro := H.length) (by omega) s2 ((mkS p).length - 1) 0 (by omega) with ⟨e, hr⟩ | ⟨e, hr⟩
      · rw [List.drop_zero] at e
        simp at hr
        exact .inl ⟨e, hr⟩
      · rw [List.drop_zero] at e
        simp at hr
        exact .inr ⟨e, _, hr, rfl⟩
  rcases hloop with ⟨e, hr⟩ | ⟨e, e', hr, he⟩
  · have eE : mkE p = 31 := by simp [mkE, e]
    have eL : mkL p = [] := by simp [mkL, eE]
    refine ⟨.nsl, G1, ?_, by rw [eL]; exact Sq.nil, by simp [blkS]⟩
    rw [eE]
    simp [-getElem?_pos, fn20, c1, s1, hr]
  · obtain ⟨v2, G2, d1, d2, d3, d4, d5⟩ := delete_c (ro := H.length) s2 (by omega) nov_ok trivial c3 (fun _ _ _ _ h => h) hG1
    have hv2 : ∀ b ∈ blkS v2, H.length ≤ b := by rw [d3]; exact c3
    have hdl : (mkD p).length ≤ 20 := Nat.le_trans (List.length_filter_le _ _) hsl
    have his := is_2 (ro := H.length) (H := G2) (A := v2) (l := mkD p) (d2.frzA prow_plain) (short_sub hs fun x hx => (mkD_mem.1 hx).1) (by omega)
    by_cases hq : isB (mkD p) = true
    · have eE : mkE p = 0 := by simp [mkE, e, hq]
      have eL : mkL p = mkD p := by simp [mkL, eE]
      refine ⟨v2, G2, ?_, by rw [eL]; exact d2, hv2⟩
      rw [hq] at his
      rw [eE]
      simp [-getElem?_pos, fn20, c1, s1, hr, he, d1, his]
    · have hq' : isB (mkD p) = false := by simpa using hq
      have eE : mkE p = 30 := by simp [mkE, e, hq]
      have eL : mkL p = [] := by simp [mkL, eE]
      refine ⟨.nsl, G2, ?_, by rw [eL]; exact Sq.nil, by simp [blkS]⟩
      rw [hq'] at his
      rw [eE]
      simp [-getElem?_pos, fn20, c1, s1, hr, he, d1, his]

/-! taken as one that leaves the heap -/
theorem frzK {H2 : Hp} {v : IV} {sz m k : Nat} {rows : List (List IV)} (hs : Sq H2 v sz rows) (hn : ∀ b ∈ blkS v, m ≤ b) (hp : ∀ r ∈ rows, ∀ x ∈ r, plainD k x = true) :
    ∃ vi, frz (k + 1) H2 m v = some vi ∧ SlA vi sz rows := by
  have hpk : ∀ r ∈ rows, ∀ x ∈ r, blks k H2 x = [] := fun r hr x hx => blks_plain k k H2 x (hp r hr x hx)
  have hw := hs.wid
  rcases hs with ⟨rfl, rfl⟩ | ⟨b, g, pre, post, cap, ex, rfl, hc, hB, _⟩
  · exact ⟨.nsl, rfl, slA_nil⟩
  · have hb : ¬ b < m := by have := hn b (by simp [blkS]); omega
    have hd : (List.drop pre.length (pre ++ (rows ++ post))).take rows.length = rows := by rw [List.drop_left, List.take_left]
    have hf0 : Vs.frz0 (k + 1) H2 (.arr b g pre.length rows.length cap ex) = some (.imm rows (ex && cap == rows.length)) := by
      rw [frz0_arr', blkAt_eq, hB, Option.bind_some, if_pos rfl, Option.bind_some, if_pos (by simp), hd]
      have hmo : mapO (mapO (Vs.frz0 k H2)) rows = some rows := mapO_id fun r hr => mapO_id fun x hx => frz0_plain k H2 x (hp r hr x hx)
      rw [hmo]; rfl
    have hall : (blks (k + 1) H2 (.arr b g pre.length rows.length cap ex)).all (fun b => decide (m ≤ b)) = true := by
      have e1 : blks (k + 1) H2 (.arr b g pre.length rows.length cap ex) = [b] := by
        show b :: (match blkAt H2 b g with | some B => _ | none => _) = _
        rw [blkAt_eq, hB, Option.bind_some, if_pos rfl]
        show b :: (((pre ++ (rows ++ post)).drop pre.length).take rows.length).flatMap _ = _
        rw [hd, flatMap_nil fun r hr => flatMap_nil fun x hx => hpk r hr x hx]
      rw [e1]
      have := hn b (by simp [blkS])
      simpa using this
    refine ⟨.imm rows (ex && cap == rows.length), ?_, slA_imm hw⟩
    show (if b < m then _ else if _ then _ else _) = _
    rw [if_neg hb, if_pos hall, hf0]

theorem prow_plainK {l : List Pr} {k : Nat} : ∀ r ∈ l.map prow, ∀ x ∈ r, plainD (k + 1) x = true := by
  intro r hr x hx
  obtain ⟨y, _, rfl⟩ := List.mem_map.1 hr
  simp [prow] at hx
  rcases hx with rfl | rfl <;> rfl

theorem blks_slA {A : IV} {sz : Nat} {rows : List (List IV)} (h : SlA A sz rows) : [A].flatMap (blks frzD H) = [] := by
  rcases h.imm with ⟨rfl, _⟩ | ⟨f, rfl⟩ <;> rfl

/-- Of pairs that were handed. -/
theorem make_1i {A : IV} {p : List Pr} (hA : SlA A 2 (p.map prow)) (hp : p.length ≤ 20) (hs : Short p) :
    ∃ vi, doCall (callW pg) ro 1 (.fn 20 []) [A] H = some (.tup [vi, .int .i64 (mkE p)], H) ∧ SlA vi 2 ((mkL p).map prow) := by
  obtain ⟨v', H', h1, h2, h3⟩ := make_b (H := H) hA hp hs
  obtain ⟨vi, h4, h5⟩ := frzK (k := 10) h2 h3 prow_plainK
  refine ⟨vi, ?_, h5⟩
  have ha : ([A] ++ []).map (frzArg H) = [A] := by simp [SlA.self hA]
  have hb : ([A] ++ []).flatMap (blks frzD H) = [] := blks_slA hA
  have hf : frz frzD H' H.length (.tup [v', .int .i64 (mkE p)]) = some (.tup [vi, .int .i64 (mkE p)]) := by
    show (mapO (frz 11 H' H.length) [v', .int .i64 (mkE p)]).map IV.tup = _
    have hfi : ∀ X, frz 11 X H.length (.int .i64 (mkE p)) = some (.int .i64 (mkE p)) := fun _ => rfl
    simp only [mapO, h4, hfi, Option.bind_some, Option.map_some]
  simp only [doCall, callP, ha, h1, Option.bind_some, hf, hb, markF]
  split <;> rfl

/-- Of pairs in the heap: they may be frozen. -/
theorem make_1a {b g len cap : Nat} {ex : Bool} {B : Bk} {p : List Pr} (hB : H[b]? = some B) (hg : B.gen = g) (hrows : B.rows = p.map prow) (hlen : len = p.length) (hp : p.length ≤ 20) (hs : Short p) (hro : ro ≤ b) :
    ∃ vi H', doCall (callW pg) ro 1 (.fn 20 []) [.arr b g 0 len cap ex] H = some (.tup [vi, .int .i64 (mkE p)], H') ∧ SlA vi 2 ((mkL p).map prow) ∧ H'.length = H.length ∧ ∀ x, x ≠ b → H'[x]? = H[x]? := by
  have hA : blkAt H b g = some B := by rw [blkAt_eq, hB, Option.bind_some, if_pos hg]
  have htk : (B.rows.drop 0).take len = p.map prow := by rw [List.drop_zero, hrows, hlen]; exact List.take_of_length_le (by simp)
  have hmo : mapO (mapO (Vs.frz0 11 H)) (p.map prow) = some (p.map prow) := mapO_id fun r hr => mapO_id fun x hx => frz0_plain 11 H x (prow_plainK r hr x hx)
  have hf : frzArg H (.arr b g 0 len cap ex) = .imm (p.map prow) (ex && cap == len) := by
    unfold frzArg
    show (Vs.frz0 (11 + 1) H _).getD _ = _
    rw [frz0_arr', hA, Option.bind_some, if_pos (by rw [hrows, List.length_map]; omega), htk, hmo]
    rfl
  have hw : ∀ r ∈ p.map prow, r.length = 2 := by
    intro r hr
    obtain ⟨x, _, rfl⟩ := List.mem_map.1 hr
    rfl
  have hS : SlA (.imm (p.map prow) (ex && cap == len)) 2 (p.map prow) := slA_imm hw
  have hbk : blks frzD H (.arr b g 0 len cap ex) = [b] := by
    show b :: (match blkAt H b g with | some B => _ | none => _) = _
    rw [hA]
    show b :: ((B.rows.drop 0).take len).flatMap _ = _
    rw [htk, blks_flat prow_plain]
  obtain ⟨v', H2, h1, h2, h3⟩ := make_b (H := H) hS hp hs
  obtain ⟨vi, h4, h5⟩ := frzK (k := 10) h2 h3 prow_plainK
  have ha : ([IV.arr b g 0 len cap ex] ++ []).map (frzArg H) = [.imm (p.map prow) (ex && cap == len)] := by simp [hf]
  have hb : ([IV.arr b g 0 len cap ex] ++ []).flatMap (blks frzD H) = [b] := by simp [hbk]
  have hfz : frz frzD H2 H.length (.tup [v', .int .i64 (mkE p)]) = some (.tup [vi, .int .i64 (mkE p)]) := by
    show (mapO (frz 11 H2 H.length) [v', .int .i64 (mkE p)]).map IV.tup = _
    have hfi : ∀ X, frz 11 X H.length (.int .i64 (mkE p)) = some (.int .i64 (mkE p)) := fun _ => rfl
    simp only [mapO, h4, hfi, Option.bind_some, Option.map_some]
  cases hfl : flatV (.tup [vi, .int .i64 (mkE p)])
  · refine ⟨vi, H.set b { B with frz := true }, ?_, h5, by simp, fun x hx => List.getElem?_set_ne (Ne.symm hx)⟩
    simp only [doCall, callP, ha, h1, Option.bind_some, hfz, hb, hfl, markF, hB, hro, if_true]
    rfl
  · refine ⟨vi, H, ?_, h5, rfl, fun _ _ => rfl⟩
    simp only [doCall, callP, ha, h1, Option.bind_some, hfz, hfl, if_true]
end Go.Proofs.Ytinmpfflkcnkfaa
