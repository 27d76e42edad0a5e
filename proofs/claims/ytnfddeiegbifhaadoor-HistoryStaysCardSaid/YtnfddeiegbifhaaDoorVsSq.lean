import Derived.Test.YtnfddeiegbifhaaDoorVsSl
/- A slice in the heap whose room may be held back, and what a call that leaves the heap makes of one. -/
namespace Go.Vs
open Go

/-- Such rows lie there, in a block that may be written; its room is of no account. -/
def Sq (H : Hp) (v : IV) (sz : Nat) (rows : List (List IV)) : Prop :=
  (v = .nsl ∧ rows = []) ∨ ∃ b g pre post cap ex, v = .arr b g pre.length rows.length cap ex ∧ rows.length ≤ cap ∧ H[b]? = some { rows := pre ++ (rows ++ post), gen := g } ∧ ∀ r ∈ pre ++ (rows ++ post), r.length = sz

variable {H : Hp} {v : IV} {sz : Nat} {rows : List (List IV)}

theorem Sl.sq (h : Sl H v sz rows) : Sq H v sz rows := by
  rcases h with h | ⟨b, g, pre, post, hv, hB, _, hw⟩
  · exact .inl h
  · exact .inr ⟨b, g, pre, post, _, _, hv, by omega, hB, hw⟩
theorem Sq.lt (h : Sq H v sz rows) : ∀ b ∈ blkS v, b < H.length := by
  rcases h with ⟨rfl, rfl⟩ | ⟨b, g, pre, post, cap, ex, rfl, _, hB, _⟩
  · simp [blkS]
  · intro c hc; simp [blkS] at hc; subst hc; exact (List.getElem?_eq_some_iff.1 hB).1
theorem Sq.fr {H' : Hp} (h : Sq H v sz rows) (hf : ∀ b ∈ blkS v, H'[b]? = H[b]?) : Sq H' v sz rows := by
  rcases h with h | ⟨b, g, pre, post, cap, ex, rfl, hc, hB, h⟩
  · exact .inl h
  · exact .inr ⟨b, g, pre, post, cap, ex, rfl, hc, by rw [hf b (by simp [blkS])]; exact hB, h⟩
theorem Sq.app (h : Sq H v sz rows) (Y : Hp) : Sq (H ++ Y) v sz rows := h.fr fun b hb => List.getElem?_append_left (h.lt b hb)
theorem Sq.set (h : Sq H v sz rows) {R : Nat} {B : Bk} (hR : R ∉ blkS v) : Sq (H.set R B) v sz rows := h.fr fun b hb => List.getElem?_set_ne (fun e => hR (by rw [e]; exact hb))
theorem Sq.nil : Sq H .nsl sz [] := .inl ⟨rfl, rfl⟩

theorem Sq.len (h : Sq H v sz rows) : lenV false v = some rows.length := by
  rcases h with ⟨rfl, rfl⟩ | ⟨b, g, pre, post, cap, ex, rfl, _⟩ <;> rfl
theorem Sq.cells (h : Sq H v sz rows) : cellsO v = some [v] := by
  rcases h with ⟨rfl, rfl⟩ | ⟨b, g, pre, post, cap, ex, rfl, _⟩ <;> rfl
theorem Sq.cok (h : Sq H v sz rows) : cellOk v = true := by
  rcases h with ⟨rfl, rfl⟩ | ⟨b, g, pre, post, cap, ex, rfl, _⟩ <;> rfl
theorem Sq.wid (h : Sq H v sz rows) : ∀ r ∈ rows, r.length = sz := by
  rcases h with ⟨rfl, rfl⟩ | ⟨b, g, pre, post, cap, ex, rfl, _, _, h⟩
  · simp
  · exact fun r hr => h r (by simp [hr])
theorem Sq.rowsOf (h : Sq H v sz rows) : Vs.rowsOf H v = some rows := by
  rcases h with ⟨rfl, rfl⟩ | ⟨b, g, pre, post, cap, ex, rfl, _, hB, _⟩
  · rfl
  · simp [-getElem?_pos, hB]

/-- A place in it. -/
theorem Sq.idx (h : Sq H v sz rows) {i : Nat} {row : List IV} (hi : rows[i]? = some row) : ∃ b B j, b ∈ blkS v ∧ Vs.idx H sz v i = some (.ptr b B.gen j 0) ∧ H[b]? = some B ∧ B.frz = false ∧ B.rows[j]? = some row := by
  rcases h with ⟨rfl, rfl⟩ | ⟨b, g, pre, post, cap, ex, rfl, _, hB, hw⟩
  · simp at hi
  · have hlt : i < rows.length := (List.getElem?_eq_some_iff.1 hi).1
    have hs := szOk_all hw
    refine ⟨b, _, pre.length + i, by simp [blkS], ?_, hB, rfl, ?_⟩
    · have h2 : (i : Int) < rows.length := by omega
      simp [-getElem?_pos, hB, hs, h2]
    · rw [List.getElem?_append_right (by omega), show pre.length + i - pre.length = i by omega, List.getElem?_append_left hlt]; exact hi

/-- A place in it, to be written. -/
theorem Sq.idxw (h : Sq H v sz rows) {i : Nat} {row : List IV} (hi : rows[i]? = some row) : ∃ b B j, b ∈ blkS v ∧ Vs.idx H sz v i = some (.ptr b B.gen j 0) ∧ H[b]? = some B ∧ B.frz = false ∧ B.rows[j]? = some row ∧
    ∀ row', row'.length = sz → Sq (H.set b { rows := B.rows.set j row', gen := B.gen }) v sz (rows.set i row') := by
  rcases h with ⟨rfl, rfl⟩ | ⟨b, g, pre, post, cap, ex, rfl, hc, hB, hw⟩
  · simp at hi
  · have hlt : i < rows.length := (List.getElem?_eq_some_iff.1 hi).1
    have hs := szOk_all hw
    have hblt := (List.getElem?_eq_some_iff.1 hB).1
    refine ⟨b, _, pre.length + i, by simp [blkS], ?_, hB, rfl, ?_, fun row' hr => .inr ⟨b, g, pre, post, cap, ex, by simp, by simpa using hc, ?_, ?_⟩⟩
    · have h2 : (i : Int) < rows.length := by omega
      simp [-getElem?_pos, hB, hs, h2]
    · rw [List.getElem?_append_right (by omega), show pre.length + i - pre.length = i by omega, List.getElem?_append_left hlt]; exact hi
    · rw [List.getElem?_set_self hblt, List.set_append_right _ _ (by omega), show pre.length + i - pre.length = i by omega, List.set_append_left _ _ hlt]
    · intro r hr'
      simp only [List.mem_append] at hr'
      rcases hr' with hr' | hr' | hr'
      · exact hw r (by simp [hr'])
      · rcases List.mem_or_eq_of_mem_set hr' with hr' | rfl
        · exact hw r (by simp [hr'])
        · exact hr
      · exact hw r (by simp [hr'])

/-- What is behind a place is cleared. -/
theorem Sq.clear (h : Sq H v sz rows) {i : Nat} (hi : i ≤ rows.length) {z : List IV} (hz : z.length = sz) {ro : Nat} (hro : ∀ b ∈ blkS v, ro ≤ b) :
    ∃ v1 H', slSl H sz v i none none = some v1 ∧ clearV ro H sz z v1 = some (.tup [], H') ∧ Sq H' v sz (rows.take i ++ List.replicate (rows.length - i) z) ∧ H'.length = H.length ∧ ∀ b, b ∉ blkS v → H'[b]? = H[b]? := by
  rcases h with ⟨rfl, rfl⟩ | ⟨b, g, pre, post, cap, ex, rfl, hc, hB, hw⟩
  · simp at hi; subst hi; exact ⟨.nsl, H, by simp, rfl, by simpa using Sq.nil, rfl, fun _ _ => rfl⟩
  · have hs := szOk_all hw
    have hblt := (List.getElem?_eq_some_iff.1 hB).1
    have hrb := hro b (by simp [blkS])
    refine ⟨.arr b g (pre.length + i) (rows.length - i) (cap - i) ex, ?_⟩
    have hsl : slSl H sz (.arr b g pre.length rows.length cap ex) i none none = some (.arr b g (pre.length + i) (rows.length - i) (cap - i) ex) := by
      simp [-getElem?_pos, hB, hs, hi, hc]
    by_cases h0 : rows.length - i = 0
    · have : i = rows.length := by omega
      subst this
      refine ⟨H, hsl, by simp [clearV], ?_, rfl, fun _ _ => rfl⟩
      rw [List.take_length, Nat.sub_self, List.replicate_zero, List.append_nil]
      exact .inr ⟨b, g, pre, post, cap, ex, rfl, hc, hB, hw⟩
    · have t1 : List.take (pre.length + i) (pre ++ (rows ++ post)) = pre ++ rows.take i := by
        rw [List.take_length_add_append, List.take_append_of_le_length hi]
      have t2 : List.drop (pre.length + i + (rows.length - i)) (pre ++ (rows ++ post)) = post := by
        rw [show pre.length + i + (rows.length - i) = pre.length + rows.length by omega, List.drop_length_add_append, List.drop_left]
      refine ⟨H.set b { rows := pre ++ ((rows.take i ++ List.replicate (rows.length - i) z) ++ post), gen := g }, hsl, ?_, .inr ⟨b, g, pre, post, cap, ex, ?_, ?_, ?_, ?_⟩, by simp, fun c hc' => List.getElem?_set_ne (fun e => hc' (by simp [blkS, e]))⟩
      · have n1 : ¬ (pre.length + (rows.length + post.length) < pre.length + i + (rows.length - i)) := by omega
        have n2 : ¬ (rows.length ≤ i) := by omega
        have n3 : rows.length - i ≠ 0 := h0
        simp [-getElem?_pos, clearV, wbl, blkAt_eq, hB, hs, hrb, hz, n1, n3, t1, t2]
      · simp [Nat.min_eq_left hi]; omega
      · simp [Nat.min_eq_left hi]; omega
      · rw [List.getElem?_set_self hblt]
      · intro r hr
        simp only [List.mem_append] at hr
        rcases hr with hr | (hr | hr) | hr
        · exact hw r (by simp [hr])
        · exact hw r (by simp [List.mem_of_mem_take hr])
        · rw [(List.mem_replicate.1 hr).2]; exact hz
        · exact hw r (by simp [hr])

/-- From a place on. -/
theorem Sq.from (h : Sq H v sz rows) {k : Nat} (hk : k ≤ rows.length) : ∃ v', slSl H sz v k none none = some v' ∧ Sq H v' sz (rows.drop k) ∧ blkS v' = blkS v := by
  rcases h with ⟨rfl, rfl⟩ | ⟨b, g, pre, post, cap, ex, rfl, hc, hB, hw⟩
  · simp at hk; subst hk; exact ⟨.nsl, by simp, .inl ⟨rfl, rfl⟩, rfl⟩
  · have hs := szOk_all hw
    refine ⟨.arr b g (pre.length + k) (rows.length - k) (cap - k) ex, ?_, .inr ⟨b, g, pre ++ rows.take k, post, cap - k, ex, ?_, by simp; omega, ?_, ?_⟩, rfl⟩
    · simp [-getElem?_pos, hB, hs, hk, hc]
    · simp [List.length_take]; omega
    · rw [hB]; congr 2; rw [List.append_assoc, ← List.append_assoc (rows.take k), List.take_append_drop]
    · intro r hr
      refine hw r ?_
      rw [List.append_assoc, ← List.append_assoc (rows.take k), List.take_append_drop] at hr
      exact hr
/-- From a place on, ahead of the end. -/
theorem Sl.from (h : Sl H v sz rows) {k : Nat} (hk : k ≤ rows.length) (h0 : 0 < rows.length) : ∃ v', slSl H sz v k none none = some v' ∧ Sl H v' sz (rows.drop k) ∧ blkS v' = blkS v := by
  rcases h with ⟨rfl, rfl⟩ | ⟨b, g, pre, post, rfl, hB, hp, hw⟩
  · simp at h0
  · have hs := szOk_all hw
    have e : rows.length - k + post.length = rows.length + post.length - k := by omega
    refine ⟨.arr b g (pre.length + k) (rows.length - k) (rows.length + post.length - k) false, ?_, .inr ⟨b, g, pre ++ rows.take k, post, ?_, ?_, by simp; omega, ?_⟩, rfl⟩
    · simp [-getElem?_pos, hB, hs, hk]
    · simp [List.length_take, e]; omega
    · rw [hB]; congr 2; rw [List.append_assoc, ← List.append_assoc (rows.take k), List.take_append_drop]
    · intro r hr
      refine hw r ?_
      rw [List.append_assoc, ← List.append_assoc (rows.take k), List.take_append_drop] at hr
      exact hr
/-- Up to a place. -/
theorem Sq.to (h : Sq H v sz rows) {k : Nat} (hk : k ≤ rows.length) : ∃ v', slSl H sz v 0 (some k) none = some v' ∧ Sq H v' sz (rows.take k) ∧ blkS v' = blkS v := by
  rcases h with ⟨rfl, rfl⟩ | ⟨b, g, pre, post, cap, ex, rfl, hc, hB, hw⟩
  · simp at hk; subst hk; exact ⟨.nsl, by simp, .inl ⟨rfl, rfl⟩, rfl⟩
  · have hs := szOk_all hw
    have h1 : k ≤ cap := by omega
    refine ⟨.arr b g pre.length k cap ex, ?_, .inr ⟨b, g, pre, rows.drop k ++ post, cap, ex, ?_, by simp; omega, ?_, ?_⟩, rfl⟩
    · have h2 : pre.length + k ≤ pre.length + (rows.length + post.length) := by omega
      simp [-getElem?_pos, hB, hs, h1, h2]
    · simp [List.length_take, Nat.min_eq_left hk]
    · rw [hB]; congr 2; rw [← List.append_assoc (rows.take k), List.take_append_drop]
    · intro r hr
      refine hw r ?_
      rw [← List.append_assoc (rows.take k), List.take_append_drop] at hr
      exact hr

/-- Appending to a copy: s[:n:n]. -/
theorem Sq.clip {r : List IV} {bytes : Nat} (h : Sq H v sz rows) (hr : r.length = sz) (hm : (rows.length + 1) * bytes ≤ room) :
    ∃ v1, slSl H sz v 0 (some rows.length) (some rows.length) = some v1 ∧ ∀ Y y, Vs.rowsOf (H ++ Y) y = some [r] → ∀ ro, ∃ v2, appV ro (H ++ Y) sz bytes v1 y = some (v2, H ++ Y ++ [{ rows := rows ++ [r] }]) ∧ v2 = .arr (H ++ Y).length 0 0 (rows.length + 1) (rows.length + 1) false ∧ Sl (H ++ Y ++ [{ rows := rows ++ [r] }]) v2 sz (rows ++ [r]) := by
  have hs1 : szOk sz [r] = true := by simp [hr]
  rcases h with ⟨rfl, rfl⟩ | ⟨b, g, pre, post, cap, ex, rfl, hc, hB, hw⟩
  · have h24 : bytes ≤ room := by simpa using hm
    refine ⟨.nsl, by simp, fun Y y hy ro => ⟨_, ?_, rfl, .inr ⟨(H ++ Y).length, 0, [], [], by simp, by simp, by simp, by simp [hr]⟩⟩⟩
    simp [appV, newArr, hy, hr, h24]
  · have hblt : b < H.length := (List.getElem?_eq_some_iff.1 hB).1
    have hsz : szOk sz (pre ++ (rows ++ post)) = true := szOk_all hw
    refine ⟨.arr b g pre.length rows.length rows.length true, ?_, fun Y y hy ro => ⟨_, ?_, rfl, .inr ⟨(H ++ Y).length, 0, [], [], by simp, by simp, by simp, ?_⟩⟩⟩
    · simp [-getElem?_pos, hB, hsz, hc]
    · have htake : List.take rows.length (rows ++ post) = rows := List.take_left
      have hnot : ¬ rows.length + 1 ≤ rows.length := by omega
      have e2 : ¬ (pre.length + (rows.length + post.length) < pre.length + rows.length) := by omega
      simp [-getElem?_pos, appV, hy, blkAt_eq, hB, hsz, hm, htake, hs1, hnot, e2, newArr, List.getElem?_append_left hblt]
    · intro x hx
      simp at hx
      rcases hx with hx | rfl
      · exact hw x (by simp [hx])
      · exact hr

/-- A copy: append([]E{}, s...), the literal at the heap's end. -/
theorem Sq.clone {bytes : Nat} (h : Sq H v sz rows) (hm : rows.length * bytes ≤ room) {ro : Nat} :
    ∃ v' Y, appV ro (H ++ [{ rows := [] }]) sz bytes (.arr H.length 0 0 0 0 true) v = some (v', H ++ Y) ∧ Sq (H ++ Y) v' sz rows ∧ ∀ b ∈ blkS v', H.length ≤ b := by
  have hr : Vs.rowsOf (H ++ [{ rows := [] }]) v = some rows := (h.app _).rowsOf
  have hw := szOk_all h.wid
  by_cases h0 : rows = []
  · subst h0
    refine ⟨.arr H.length 0 0 0 0 true, [{ rows := [] }], ?_, .inr ⟨H.length, 0, [], [], 0, true, rfl, by simp, by simp, by simp⟩, by simp [blkS]⟩
    simp [-getElem?_pos, appV, hr, blkAt_eq]
  · refine ⟨.arr (H.length + 1) 0 0 rows.length rows.length false, [{ rows := [] }, { rows := rows }], ?_, .inr ⟨H.length + 1, 0, [], [], rows.length, false, by simp, by simp, by simp, by simpa using h.wid⟩, by simp [blkS]⟩
    simp [-getElem?_pos, appV, hr, blkAt_eq, hw, h0, newArr, hm]

theorem frz0_arr' {k b g off len cap : Nat} {ex : Bool} : frz0 (k + 1) H (.arr b g off len cap ex) = (blkAt H b g).bind fun B => if off + len ≤ B.rows.length then
        (mapO (mapO (frz0 k H)) ((B.rows.drop off).take len)).map fun rows => .imm rows (ex && cap == len) else none := rfl

/-- As a value that is frozen. -/
theorem Sq.frz0 (h : Sq H v sz rows) (hp : ∀ r ∈ rows, ∀ x ∈ r, plainD 10 x = true) : v = .nsl ∧ rows = [] ∨ ∃ f, Vs.frz0 12 H v = some (.imm rows f) := by
  rcases h with h | ⟨b, g, pre, post, cap, ex, rfl, hc, hB, hw⟩
  · exact .inl h
  · right
    have h1 : mapO (mapO (Vs.frz0 11 H)) rows = some rows := mapO_id fun r hr => mapO_id fun x hx => frz0_plain 11 H x (Sl.frz.plain_up (hp r hr x hx))
    have h2 : (List.drop pre.length (pre ++ (rows ++ post))).take rows.length = rows := by rw [List.drop_left, List.take_left]
    refine ⟨ex && cap == rows.length, ?_⟩
    rw [frz0_arr', blkAt_eq, hB, Option.bind_some, if_pos rfl, Option.bind_some, if_pos (by simp), h2, h1]
    rfl
theorem Sq.frzA (h : Sq H v sz rows) (hp : ∀ r ∈ rows, ∀ x ∈ r, plainD 10 x = true) : SlA (frzArg H v) sz rows := by
  rcases h.frz0 hp with ⟨rfl, rfl⟩ | ⟨f, e⟩
  · exact slA_nil
  · have : frzArg H v = .imm rows f := by unfold frzArg; rw [show frzD = 12 from rfl, e]; rfl
    rw [this]; exact slA_imm h.wid

theorem blks_flat {k : Nat} {rows : List (List IV)} (hp : ∀ r ∈ rows, ∀ x ∈ r, plainD 10 x = true) : (rows.flatMap fun r => r.flatMap (blks k H)) = [] :=
  flatMap_nil fun r hr => flatMap_nil fun x hx => blks_plain k 10 H x (hp r hr x hx)

/-- A call that leaves the heap and tells a new slice. -/
theorem call2s {pg : Pg} {ro : Nat} {f : Nat} {args : List IV} {H2 : Hp} (h : callW pg H.length f args H = some (v, H2)) (ha : args.map (frzArg H) = args) (hb : args.flatMap (blks frzD H) = [])
    (hs : Sq H2 v sz rows) (hn : ∀ b ∈ blkS v, H.length ≤ b) (hp : ∀ r ∈ rows, ∀ x ∈ r, plainD 10 x = true) :
    ∃ vi, doCall (callW pg) ro 2 (.fn f []) args H = some (vi, H) ∧ SlA vi sz rows := by
  have key : ∃ vi, frz frzD H2 H.length v = some vi ∧ SlA vi sz rows := by
    rcases hs.frz0 hp with ⟨rfl, rfl⟩ | ⟨fl, e⟩
    · exact ⟨.nsl, rfl, slA_nil⟩
    · refine ⟨.imm rows fl, ?_, slA_imm hs.wid⟩
      rcases hs with ⟨rfl, rfl⟩ | ⟨b, g, pre, post, cap, ex, rfl, hc, hB, hw⟩
      · cases e
      · have hb : ¬ b < H.length := by have := hn b (by simp [blkS]); omega
        have hd : (List.drop pre.length (pre ++ (rows ++ post))).take rows.length = rows := by rw [List.drop_left, List.take_left]
        have hall : (blks 12 H2 (.arr b g pre.length rows.length cap ex)).all (fun b => decide (H.length ≤ b)) = true := by
          have e1 : blks 12 H2 (.arr b g pre.length rows.length cap ex) = [b] := by
            show b :: (match blkAt H2 b g with | some B => _ | none => _) = _
            rw [blkAt_eq, hB, Option.bind_some, if_pos rfl]
            show b :: (((pre ++ (rows ++ post)).drop pre.length).take rows.length).flatMap _ = _
            rw [hd, blks_flat hp]
          rw [e1]
          have := hn b (by simp [blkS])
          simpa using this
        show (if b < H.length then _ else if _ then _ else _) = _
        rw [if_neg hb, if_pos hall]
        exact e
  obtain ⟨vi, h1, h2⟩ := key
  refine ⟨vi, ?_, h2⟩
  simp only [doCall, callP, List.append_nil, ha, h, Option.bind_some, h1, hb]
  simp

end Go.Vs
