/- A queue's first batch. -/
import Derived.Test.YtgpooiahnpemjaaTqr4
namespace Go.Proofs.Ytgpooiahnpemjaa
open Go Go.Vs
variable {ro : Nat} {H : Hp}

theorem frzNew {H2 : Hp} {v : IV} {sz m : Nat} {rows : List (List IV)} (hs : Sq H2 v sz rows) (hn : ∀ b ∈ blkS v, m ≤ b) (hp : ∀ r ∈ rows, ∀ x ∈ r, plainD 10 x = true) :
    ∃ vi, frz frzD H2 m v = some vi ∧ SlA vi sz rows ∧ (rows ≠ [] → flatV vi = false) := by
  rcases hs.frz0 hp with ⟨rfl, rfl⟩ | ⟨fl, e⟩
  · exact ⟨.nsl, rfl, slA_nil, fun h => absurd rfl h⟩
  · refine ⟨.imm rows fl, ?_, slA_imm hs.wid, fun _ => rfl⟩
    rcases hs with ⟨rfl, rfl⟩ | ⟨b, g, pre, post, cap, ex, rfl, hc, hB, hw⟩
    · cases e
    · have hb : ¬ b < m := by have := hn b (by simp [blkS]); omega
      have hd : (List.drop pre.length (pre ++ (rows ++ post))).take rows.length = rows := by rw [List.drop_left, List.take_left]
      have hall : (blks 12 H2 (.arr b g pre.length rows.length cap ex)).all (fun b => decide (m ≤ b)) = true := by
        have e1 : blks 12 H2 (.arr b g pre.length rows.length cap ex) = [b] := by
          show b :: (match blkAt H2 b g with | some B => _ | none => _) = _
          rw [blkAt_eq, hB, Option.bind_some, if_pos rfl]
          show b :: (((pre ++ (rows ++ post)).drop pre.length).take rows.length).flatMap _ = _
          rw [hd, blks_flat hp]
        rw [e1]
        have := hn b (by simp [blkS])
        simpa using this
      show (if b < m then _ else if _ then _ else _) = _
      rw [if_neg hb, if_pos hall]
      exact e

theorem sort_body {A : IV} {L : List Rw} (h : SlA A 3 (L.map rrow)) (hn : L.length ≤ 19) (hok : ∀ r ∈ L, r.ok) : ∃ v' G', callW pg H.length 33 [A] H = some (v', G') ∧ Sq G' v' 3 ((isort cR L).map rrow) ∧ ∀ b ∈ blkS v', H.length ≤ b := by
  obtain ⟨v', Y, h1, h2, h3⟩ := cloneR_c (ro := H.length) (H := H) h (by omega)
  obtain ⟨G', h4, h5, h6, h7⟩ := stable_c (ro := H.length) hn hok (by simp) h3 h2
  refine ⟨v', G', ?_, h5, h3⟩
  rw [callW_eqO (fn := fn33) rfl rfl]
  simp [-getElem?_pos, fn33, h1, h4]

/-- A sorted copy: of rows that were handed. -/
theorem sort_1i {A : IV} {L : List Rw} (h : SlA A 3 (L.map rrow)) (hn : L.length ≤ 19) (hok : ∀ r ∈ L, r.ok) : ∃ vi, doCall (callW pg) ro 1 (.fn 33 []) [A] H = some (vi, H) ∧ SlA vi 3 ((isort cR L).map rrow) := by
  obtain ⟨v', G', h1, h2, h3⟩ := sort_body (H := H) h hn hok
  obtain ⟨vi, h4, h5, _⟩ := frzNew h2 h3 (rrow_plain fun r hr => hok r ((isort_perm L).mem_iff.1 hr))
  refine ⟨vi, ?_, h5⟩
  have ha : ([A] ++ []).map (frzArg H) = [A] := by simp [SlA.self h]
  have hb : ([A] ++ []).flatMap (blks frzD H) = [] := blks_slA h
  simp only [doCall, callP, ha, h1, Option.bind_some, h4, hb, markF]
  split <;> rfl

/-- The same, of rows in the heap: they are frozen. -/
theorem sort_1a {b g len cap : Nat} {ex : Bool} {B : Bk} {L : List Rw} (hB : H[b]? = some B) (hg : B.gen = g) (hl : L ≠ []) (hrows : B.rows = L.map rrow) (hlen : len = L.length) (hn : L.length ≤ 19) (hok : ∀ r ∈ L, r.ok) (hro : ro ≤ b) :
    ∃ vi, doCall (callW pg) ro 1 (.fn 33 []) [.arr b g 0 len cap ex] H = some (vi, H.set b { B with frz := true }) ∧ SlA vi 3 ((isort cR L).map rrow) := by
  have hp := rrow_plain hok
  have hA : blkAt H b g = some B := by rw [blkAt_eq, hB, Option.bind_some, if_pos hg]
  have htk : (B.rows.drop 0).take len = L.map rrow := by rw [List.drop_zero, hrows, hlen]; exact List.take_of_length_le (by simp)
  have hmo : mapO (mapO (Vs.frz0 11 H)) (L.map rrow) = some (L.map rrow) := mapO_id fun r hr => mapO_id fun x hx => frz0_plain 11 H x (Sl.frz.plain_up (hp r hr x hx))
  have hf : frzArg H (.arr b g 0 len cap ex) = .imm (L.map rrow) (ex && cap == len) := by
    unfold frzArg
    show (Vs.frz0 (11 + 1) H _).getD _ = _
    rw [frz0_arr', hA, Option.bind_some, if_pos (by rw [hrows, List.length_map]; omega), htk, hmo]
    rfl
  have hw : ∀ r ∈ L.map rrow, r.length = 3 := by
    intro r hr
    obtain ⟨x, _, rfl⟩ := List.mem_map.1 hr
    rfl
  have hS : SlA (.imm (L.map rrow) (ex && cap == len)) 3 (L.map rrow) := slA_imm hw
  have hbk : blks frzD H (.arr b g 0 len cap ex) = [b] := by
    show b :: (match blkAt H b g with | some B => _ | none => _) = _
    rw [hA]
    show b :: ((B.rows.drop 0).take len).flatMap _ = _
    rw [htk, blks_flat hp]
  obtain ⟨v', G', h1, h2, h3⟩ := sort_body (H := H) hS hn hok
  obtain ⟨vi, h4, h5, h6⟩ := frzNew h2 h3 (rrow_plain fun r hr => hok r ((isort_perm L).mem_iff.1 hr))
  have hfl : flatV vi = false := h6 (by
    intro e
    have := congrArg List.length e
    rw [List.length_map, isort_len] at this
    exact hl (List.eq_nil_of_length_eq_zero this))
  refine ⟨vi, ?_, h5⟩
  have ha : ([IV.arr b g 0 len cap ex] ++ []).map (frzArg H) = [.imm (L.map rrow) (ex && cap == len)] := by simp [hf]
  have hb : ([IV.arr b g 0 len cap ex] ++ []).flatMap (blks frzD H) = [b] := by simp [hbk]
  simp only [doCall, callP, ha, h1, Option.bind_some, h4, hb, hfl, markF, hB, hro, if_true]
  rfl

theorem slA_cok {A : IV} {sz : Nat} {rows : List (List IV)} (h : SlA A sz rows) : cellOk A = true := by
  rcases h.imm with ⟨rfl, _⟩ | ⟨f, rfl⟩ <;> rfl

/-! a queue's first batch -/
def gS : ByteArray := ⟨#[103]⟩
theorem clip_nil : callW pg ro 31 [.nsl] H = some (.nsl, H) := by
  rw [callW_eqO (fn := fn31) rfl rfl]
  simp [-getElem?_pos, fn31]

/-- Put, where nothing waits yet: what Sort makes of the rows is told. -/
theorem put0 {Q : Nat} {A : IV} {X : Hp} {L : List Rw} (hQ : H[Q]? = some { rows := [[.nsl, .nsl, .int .i64 1]] }) (hX : X.length = H.length) (hXQ : X[Q]? = some { rows := [[.nsl, .nsl, .int .i64 2]] }) {vi : IV}
    (hs : doCall (callW pg) 0 1 (.fn 33 []) [A] (H.set Q { rows := [[.nsl, .nsl, .int .i64 2]] }) = some (vi, X)) (hvi : SlA vi 3 (L.map rrow)) (hn : L.length ≤ 900) (hok : ∀ r ∈ L, r.ok ∧ r.fit) :
    ∃ (w : IV) (L' : List Rw) (G' : Hp), callW pg 0 11 [.ptr Q 0 0 0, .int .i64 1, .str gS, A] H = some (.int .i64 1, G') ∧ SlA w 3 (L'.map rrow) ∧ L'.map dat = L.map dat ∧ (∀ r ∈ L', r.ok ∧ r.fit) ∧
      G' = (X ++ [({ rows := [[.int .i64 1, .int .i64 1, .str gS, w]] } : Bk), { rows := [[.int .i64 1, .int .i64 1, .str gS, w]] }]).set Q { rows := [[.nsl, .arr (X.length + 1) 0 0 1 1 false, .int .i64 2]] } := by
  obtain ⟨w, L', h1, h2, h3, h4⟩ := copied_2 (ro := 0) (H := X) hvi hn hok
  refine ⟨w, L', _, ?_, h2, h3, h4, rfl⟩
  have hlt : Q < H.length := (List.getElem?_eq_some_iff.1 hQ).1
  have hltX : Q < X.length := by omega
  have hw : IntKind.i64.wrap 2 = 2 := by decide
  have hc := slA_cok h2
  have hc2 := slA_cells h2
  have r56 : 56 ≤ room := by decide
  unfold gS
  rw [callW_eqO (fn := fn11) rfl rfl]
  simp [-getElem?_pos, fn11, hQ, hlt, hw, clip_nil, hs, h1, appV, newArr, hc, hc2, r56, hXQ, hltX, List.getElem?_append_left]
end Go.Proofs.Ytgpooiahnpemjaa
