import Derived.Test.YtnfddeiegbifhaaDoorVsArg
/- A slice in the heap: its rows, and what the operations do with it. -/
namespace Go.Vs
open Go

def blkS : IV → List Nat
  | .arr b _ _ _ _ _ => [b]
  | _ => []

/-- Such rows lie there, in a block that may be written. -/
def Sl (H : Hp) (v : IV) (sz : Nat) (rows : List (List IV)) : Prop :=
  (v = .nsl ∧ rows = []) ∨ ∃ b g pre post, v = .arr b g pre.length rows.length (rows.length + post.length) false ∧ H[b]? = some { rows := pre ++ (rows ++ post), gen := g } ∧ 0 < pre.length + (rows.length + post.length) ∧ ∀ r ∈ pre ++ (rows ++ post), r.length = sz

variable {H : Hp} {v : IV} {sz : Nat} {rows : List (List IV)}

theorem Sl.lt (h : Sl H v sz rows) : ∀ b ∈ blkS v, b < H.length := by
  rcases h with ⟨rfl, rfl⟩ | ⟨b, g, pre, post, rfl, hB, _⟩
  · simp [blkS]
  · intro c hc; simp [blkS] at hc; subst hc; exact (List.getElem?_eq_some_iff.1 hB).1
theorem Sl.fr {H' : Hp} (h : Sl H v sz rows) (hf : ∀ b ∈ blkS v, H'[b]? = H[b]?) : Sl H' v sz rows := by
  rcases h with h | ⟨b, g, pre, post, rfl, hB, h⟩
  · exact .inl h
  · exact .inr ⟨b, g, pre, post, rfl, by rw [hf b (by simp [blkS])]; exact hB, h⟩
theorem Sl.app (h : Sl H v sz rows) (Y : Hp) : Sl (H ++ Y) v sz rows := h.fr fun b hb => List.getElem?_append_left (h.lt b hb)
theorem Sl.set (h : Sl H v sz rows) {R : Nat} {B : Bk} (hR : R ∉ blkS v) : Sl (H.set R B) v sz rows := h.fr fun b hb => List.getElem?_set_ne (fun e => hR (by rw [e]; exact hb))
theorem Sl.nil : Sl H .nsl sz [] := .inl ⟨rfl, rfl⟩

theorem Sl.len (h : Sl H v sz rows) : lenV false v = some rows.length := by
  rcases h with ⟨rfl, rfl⟩ | ⟨b, g, pre, post, rfl, _⟩ <;> rfl
theorem Sl.cells (h : Sl H v sz rows) : cellsO v = some [v] := by
  rcases h with ⟨rfl, rfl⟩ | ⟨b, g, pre, post, rfl, _⟩ <;> rfl
theorem Sl.cok (h : Sl H v sz rows) : cellOk v = true := by
  rcases h with ⟨rfl, rfl⟩ | ⟨b, g, pre, post, rfl, _⟩ <;> rfl
theorem Sl.wid (h : Sl H v sz rows) : ∀ r ∈ rows, r.length = sz := by
  rcases h with ⟨rfl, rfl⟩ | ⟨b, g, pre, post, rfl, _, _, h⟩
  · simp
  · exact fun r hr => h r (by simp [hr])
theorem Sl.rowsOf (h : Sl H v sz rows) : Vs.rowsOf H v = some rows := by
  rcases h with ⟨rfl, rfl⟩ | ⟨b, g, pre, post, rfl, hB, _⟩
  · rfl
  · simp [-getElem?_pos, hB]

/-- A place in it. -/
theorem Sl.idx (h : Sl H v sz rows) {i : Nat} {row : List IV} (hi : rows[i]? = some row) : ∃ b B j, b ∈ blkS v ∧ Vs.idx H sz v i = some (.ptr b B.gen j 0) ∧ H[b]? = some B ∧ B.frz = false ∧ B.rows[j]? = some row := by
  rcases h with ⟨rfl, rfl⟩ | ⟨b, g, pre, post, rfl, hB, _, hw⟩
  · simp at hi
  · have hlt : i < rows.length := (List.getElem?_eq_some_iff.1 hi).1
    have hs := szOk_all hw
    refine ⟨b, _, pre.length + i, by simp [blkS], ?_, hB, rfl, ?_⟩
    · have h2 : (i : Int) < rows.length := by omega
      simp [-getElem?_pos, hB, hs, h2]
    · rw [List.getElem?_append_right (by omega), show pre.length + i - pre.length = i by omega, List.getElem?_append_left hlt]; exact hi

theorem Sl.tail {r : List IV} (h : Sl H v sz (r :: rows)) : ∃ v', slSl H sz v 1 none none = some v' ∧ Sl H v' sz rows ∧ blkS v' = blkS v := by
  rcases h with ⟨rfl, h⟩ | ⟨b, g, pre, post, rfl, hB, hp, hw⟩
  · cases h
  · have hs := szOk_all hw
    refine ⟨.arr b g (pre.length + 1) rows.length (rows.length + post.length) false, ?_, .inr ⟨b, g, pre ++ [r], post, by simp, by rw [hB]; simp, by simp; omega, fun x hx => hw x (by simpa using hx)⟩, rfl⟩
    have e1 : rows.length + 1 + post.length - 1 = rows.length + post.length := by omega
    simp at hs
    simp [-getElem?_pos, hB, hs, e1]
theorem Sl.init {r : List IV} (h : Sl H v sz (rows ++ [r])) : ∃ v', slSl H sz v 0 (some rows.length) none = some v' ∧ Sl H v' sz rows ∧ blkS v' = blkS v := by
  rcases h with ⟨rfl, h⟩ | ⟨b, g, pre, post, rfl, hB, hp, hw⟩
  · simp at h
  · have hs := szOk_all hw
    refine ⟨.arr b g pre.length rows.length (rows.length + (1 + post.length)) false, ?_, .inr ⟨b, g, pre, r :: post, by simp; omega, by rw [hB]; simp, by simp; omega, fun x hx => hw x (by simpa using hx)⟩, rfl⟩
    simp at hs
    simp [-getElem?_pos, hB, hs]
    omega

/-- Appending one row. -/
theorem Sl.push {r : List IV} {y : IV} {bytes : Nat} (h : Sl H v sz rows) (hy : Vs.rowsOf H y = some [r]) (hr : r.length = sz) (hm : (rows.length + 1) * bytes ≤ room) {ro : Nat} (hro : ∀ b ∈ blkS v, ro ≤ b) :
    ∃ b g o n c H2, appV ro H sz bytes v y = some (.arr b g o n c false, H2) ∧ Sl H2 (.arr b g o n c false) sz (rows ++ [r]) ∧ Stp H H2 (blkS v) [b] := by
  have hs1 : szOk sz [r] = true := by simp [hr]
  rcases h with ⟨rfl, rfl⟩ | ⟨b, g, pre, post, rfl, hB, hpos, hw⟩
  · have h24 : bytes ≤ room := by simpa using hm
    refine ⟨H.length, 0, 0, 1, 1, H ++ [{ rows := [r] }], ?_, .inr ⟨H.length, 0, [], [], by simp, by simp, by simp, by simp [hr]⟩, ⟨by simp, fun b hb _ => List.getElem?_append_left hb, fun b hb => .inr (by simp at hb; omega)⟩⟩
    simp [appV, newArr, hy, hr, h24]
  · have hblt : b < H.length := (List.getElem?_eq_some_iff.1 hB).1
    have hrb : ro ≤ b := hro b (by simp [blkS])
    have hsz : szOk sz (pre ++ (rows ++ post)) = true := szOk_all hw
    cases post with
    | nil =>
      have htake : List.take rows.length rows = rows := List.take_of_length_le (by simp)
      have hp' : 0 < pre.length + rows.length := by simpa using hpos
      have hnot : ¬ rows.length + 1 ≤ rows.length := by omega
      refine ⟨b, g + 1, 0, rows.length + 1, rows.length + 1, H.set b { rows := rows ++ [r], gen := g + 1 }, ?_, .inr ⟨b, g + 1, [], [], by simp, ?_, by simp, ?_⟩, ⟨by simp, fun c hc hne => ?_, fun c hc => .inl (by simpa [blkS] using hc)⟩⟩
      · simp only [List.append_nil] at hB hsz
        simp [-getElem?_pos, appV, hy, blkAt_eq, hB, hsz, hm, htake, hs1, hp', hnot, hrb]
      · rw [List.getElem?_set_self hblt]; simp
      · intro x hx
        simp at hx
        rcases hx with hx | rfl
        · exact hw x (by simp [hx])
        · exact hr
      · rw [List.getElem?_set_ne (fun e => hne (by rw [← e]; simp [blkS]))]
    | cons p post =>
      refine ⟨b, g, pre.length, rows.length + 1, rows.length + (post.length + 1), H.set b { rows := pre ++ (rows ++ r :: post), gen := g }, ?_, .inr ⟨b, g, pre, post, by simp; omega, ?_, by simp; omega, ?_⟩, ⟨by simp, fun c hc hne => ?_, fun c hc => .inl (by simpa [blkS] using hc)⟩⟩
      · have e1 : pre.length + rows.length + 1 ≤ pre.length + (rows.length + (post.length + 1)) := by omega
        have e2 : ¬ (pre.length + (rows.length + (post.length + 1)) < pre.length + rows.length) := by omega
        have e3 : rows.length + 1 ≤ rows.length + (post.length + 1) := by omega
        have t1 : List.take (pre.length + rows.length) (pre ++ (rows ++ p :: post)) = pre ++ rows := by
          rw [← List.append_assoc, List.take_left' (by simp)]
        have t2 : List.drop (pre.length + rows.length + 1) (pre ++ (rows ++ p :: post)) = post := by
          rw [← List.append_assoc, show pre.length + rows.length + 1 = (pre ++ rows).length + 1 by simp, ← List.drop_drop, List.drop_left]; rfl
        simp [-getElem?_pos, appV, hy, blkAt_eq, hB, hsz, hs1, e1, e2, e3, t1, t2, hrb]
      · rw [List.getElem?_set_self hblt]; simp
      · intro x hx
        simp at hx
        rcases hx with hx | hx | rfl | hx
        · exact hw x (by simp [hx])
        · exact hw x (by simp [hx])
        · exact hr
        · exact hw x (by simp [hx])
      · rw [List.getElem?_set_ne (fun e => hne (by rw [← e]; simp [blkS]))]

/-- Appending to a copy: s[:n:n]. -/
theorem Sl.clip {r : List IV} {bytes : Nat} (h : Sl H v sz rows) (hr : r.length = sz) (hm : (rows.length + 1) * bytes ≤ room) :
    ∃ v1, slSl H sz v 0 (some rows.length) (some rows.length) = some v1 ∧ ∀ Y y, Vs.rowsOf (H ++ Y) y = some [r] → ∀ ro, ∃ v2, appV ro (H ++ Y) sz bytes v1 y = some (v2, H ++ Y ++ [{ rows := rows ++ [r] }]) ∧ v2 = .arr (H ++ Y).length 0 0 (rows.length + 1) (rows.length + 1) false ∧ Sl (H ++ Y ++ [{ rows := rows ++ [r] }]) v2 sz (rows ++ [r]) := by
  have hs1 : szOk sz [r] = true := by simp [hr]
  rcases h with ⟨rfl, rfl⟩ | ⟨b, g, pre, post, rfl, hB, hpos, hw⟩
  · have h24 : bytes ≤ room := by simpa using hm
    refine ⟨.nsl, by simp, fun Y y hy ro => ⟨_, ?_, rfl, .inr ⟨(H ++ Y).length, 0, [], [], by simp, by simp, by simp, by simp [hr]⟩⟩⟩
    simp [appV, newArr, hy, hr, h24]
  · have hblt : b < H.length := (List.getElem?_eq_some_iff.1 hB).1
    have hsz : szOk sz (pre ++ (rows ++ post)) = true := szOk_all hw
    refine ⟨.arr b g pre.length rows.length rows.length true, ?_, fun Y y hy ro => ⟨_, ?_, rfl, .inr ⟨(H ++ Y).length, 0, [], [], by simp, by simp, by simp, ?_⟩⟩⟩
    · have e1 : rows.length ≤ rows.length + post.length := by omega
      simp [-getElem?_pos, hB, hsz, e1]
    · have htake : List.take rows.length (rows ++ post) = rows := List.take_left
      have hnot : ¬ rows.length + 1 ≤ rows.length := by omega
      have e2 : ¬ (pre.length + (rows.length + post.length) < pre.length + rows.length) := by omega
      simp [-getElem?_pos, appV, hy, blkAt_eq, hB, hsz, hm, htake, hs1, hnot, e2, newArr, List.getElem?_append_left hblt]
    · intro x hx
      simp at hx
      rcases hx with hx | rfl
      · exact hw x (by simp [hx])
      · exact hr

theorem frz0_arr {k b g off len cap : Nat} {ex : Bool} : frz0 (k + 1) H (.arr b g off len cap ex) = (blkAt H b g).bind fun B => if off + len ≤ B.rows.length then
        (mapO (mapO (frz0 k H)) ((B.rows.drop off).take len)).map fun rows => .imm rows (ex && cap == len) else none := rfl

/-- As an argument of a call that leaves the heap. -/
theorem Sl.frz (h : Sl H v sz rows) (hp : ∀ r ∈ rows, ∀ x ∈ r, plainD 10 x = true) : frzArg H v = .nsl ∧ rows = [] ∨ frzArg H v = .imm rows false := by
  rcases h with ⟨rfl, rfl⟩ | ⟨b, g, pre, post, rfl, hB, hpos, hw⟩
  · exact .inl ⟨rfl, rfl⟩
  · right
    have h1 : mapO (mapO (frz0 11 H)) rows = some rows := mapO_id fun r hr => mapO_id fun x hx => frz0_plain 11 H x (by
      have := hp r hr x hx
      exact plain_up this)
    have h2 : (List.drop pre.length (pre ++ (rows ++ post))).take rows.length = rows := by rw [List.drop_left, List.take_left]
    have h3 : frz0 12 H (.arr b g pre.length rows.length (rows.length + post.length) false) = some (.imm rows false) := by
      rw [frz0_arr, blkAt_eq, hB, Option.bind_some, if_pos rfl, Option.bind_some, if_pos (by simp), h2, h1]
      rfl
    unfold frzArg
    rw [show frzD = 12 from rfl, h3]
    rfl
where
  plain_up : ∀ {k : Nat} {x : IV}, plainD k x = true → plainD (k + 1) x = true
  | 0, _, h => by simp [plainD] at h
  | k + 1, x, h => by
    cases x <;> simp only [plainD, Bool.false_eq_true, List.all_eq_true] at h <;> simp only [plainD, List.all_eq_true]
    case agg cs => exact fun y hy => plain_up (h y hy)
    case tup cs => exact fun y hy => plain_up (h y hy)
    case fn f cs => exact fun y hy => plain_up (h y hy)
    case ifc t y => exact plain_up h

theorem slA_imm {rows : List (List IV)} {sz : Nat} {f : Bool} (hw : ∀ r ∈ rows, r.length = sz) : SlA (.imm rows f) sz rows := by
  refine ⟨rfl, fun H i hi => ?_, fun _ => rfl, .inr ⟨_, rfl⟩, hw⟩
  rw [idx_imm, if_pos ⟨by omega, by omega, szOk_all hw⟩]
  simp
theorem slA_nil {sz : Nat} : SlA .nsl sz [] := ⟨rfl, fun _ i hi => by simp at hi, fun _ => rfl, .inl ⟨rfl, rfl⟩, by simp⟩
theorem Sl.frzA (h : Sl H v sz rows) (hp : ∀ r ∈ rows, ∀ x ∈ r, plainD 10 x = true) : SlA (frzArg H v) sz rows := by
  rcases h.frz hp with ⟨e, rfl⟩ | e
  · rw [e]; exact slA_nil
  · rw [e]; exact slA_imm h.wid

theorem set_same {C : Nat} {B : Bk} (h : H[C]? = some B) : H.set C B = H := by
  apply List.ext_getElem?
  intro j
  by_cases e : C = j
  · subst e; rw [List.getElem?_set_self (List.getElem?_eq_some_iff.1 h).1, h]
  · rw [List.getElem?_set_ne e]

end Go.Vs
