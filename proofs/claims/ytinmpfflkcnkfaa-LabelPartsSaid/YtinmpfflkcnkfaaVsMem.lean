/- Reading and writing memory. -/
import Derived.Test.YtinmpfflkcnkfaaVsFr
namespace Go.Vs
open Go Go.RowKit

theorem blkAt_some {H : Hp} {b g : Nat} {B : Bk} (h : blkAt H b g = some B) : H[b]? = some B ∧ B.gen = g := by
  unfold blkAt at h
  split at h
  · split at h
    · simp at h; subst h; exact ⟨‹_›, ‹_›⟩
    · cases h
  · cases h

theorem wbl_some {ro : Nat} {H : Hp} {b g : Nat} {B : Bk} (h : wbl ro H b g = some B) : H[b]? = some B ∧ B.gen = g ∧ ro ≤ b ∧ B.frz = false := by
  unfold wbl at h
  split at h
  · rename_i hr
    cases hb : blkAt H b g with
    | none => simp [hb] at h
    | some B' =>
      obtain ⟨h1, h2⟩ := blkAt_some hb
      cases hf : B'.frz with
      | true => simp [hb, hf] at h
      | false => simp [hb, hf] at h; subst h; exact ⟨h1, h2, hr, hf⟩
  · cases h

theorem sub_some {row cs : List IV} {j n : Nat} (h : sub row j n = some cs) : cs.length = n ∧ j + n ≤ row.length ∧ ∀ i, i < n → cs[i]? = row[j + i]? := by
  unfold sub at h
  split at h
  · simp at h; subst h
    refine ⟨by simp; omega, ‹_›, fun i hi => ?_⟩
    rw [List.getElem?_take, if_pos hi, List.getElem?_drop]
  · cases h

/-- The cells that stand for a list of ideal cells. -/
def CellsAt (K : Kp) (w : World) (b o : Nat) (cs : List IV) (us : List Value) : Prop :=
  us.length = cs.length ∧ (∀ (j : Nat) (u : Value), us[j]? = some u → w.cell? (ad b (o + j)) = some u ∧ u.oneCell' = true) ∧ (∀ (j : Nat) (x : IV) (u : Value), cs[j]? = some x → us[j]? = some u → VR K x u)

theorem CellsAt.of {K : Kp} {w : World} {b o : Nat} {cs : List IV} (f : Nat → Value) (h : ∀ j, j < cs.length → w.cell? (ad b (o + j)) = some (f j) ∧ (f j).oneCell' = true)
    (hv : ∀ (j : Nat) (x : IV), cs[j]? = some x → VR K x (f j)) : CellsAt K w b o cs ((List.range cs.length).map f) := by
  refine ⟨by simp, fun j u hu => ?_, fun j x u hx hu => ?_⟩
  · simp only [List.getElem?_map, Option.map_eq_some_iff] at hu
    obtain ⟨i, hi, rfl⟩ := hu
    obtain ⟨hlt, hj⟩ := List.getElem?_eq_some_iff.1 hi
    simp only [List.length_range, List.getElem_range] at hlt hj; subst hj
    exact h j hlt
  · simp only [List.getElem?_map, Option.map_eq_some_iff] at hu
    obtain ⟨i, hi, rfl⟩ := hu
    obtain ⟨hlt, hj⟩ := List.getElem?_eq_some_iff.1 hi
    simp only [List.length_range, List.getElem_range] at hlt hj; subst hj
    exact hv j x hx

theorem CellsAt.load {K : Kp} {w : World} {b o : Nat} {cs : List IV} {us : List Value} (h : CellsAt K w b o cs us) (P : Program) : (loadCells (ad b o) cs.length).run P w = .ok us.toArray w := by
  rw [← h.1]
  refine run_loadCells_list w _ _ (fun j v hv => ?_)
  rw [ad_add]; exact (h.2.1 j v hv).1

/-- n cells out of a row of a block. -/
theorem blk_sub {K : Kp} {ro : Nat} {H : Hp} {w : World} (hR : Rel K ro H w) {b : Nat} {L : Loc} {B : Bk} (hL : K.ρ b = some L) (hB : H[b]? = some B) {i : Nat} {row : List IV} (hr : B.rows[i]? = some row) {j n : Nat} {cs : List IV} (hs : sub row j n = some cs) :
    ∃ us, CellsAt K w L.blk (L.org + i * L.sz + j) cs us := by
  obtain ⟨B', hB', ok⟩ := hR.blk b L hL
  obtain rfl : B = B' := by rw [hB] at hB'; exact Option.some.inj hB'
  obtain ⟨hl, hle, hg⟩ := sub_some hs
  have hrl := ok.len i row hr
  have : ∀ q, q < cs.length → ∃ u, w.cell? (ad L.blk (L.org + i * L.sz + j + q)) = some u ∧ u.oneCell' = true ∧ ∀ x, cs[q]? = some x → VR K x u := by
    intro q hq
    obtain ⟨x, hx⟩ : ∃ x, row[j + q]? = some x := ⟨_, List.getElem?_eq_getElem (by omega)⟩
    obtain ⟨u, hu, hv⟩ := ok.cell i row (j + q) x hr hx
    have hi : i < B.rows.length := (List.getElem?_eq_some_iff.1 hr).1
    have hfit := ok.fit
    obtain ⟨u', hu', h1⟩ := ok.there (i * L.sz + (j + q)) (by
      have := Nat.mul_le_mul_right L.sz (Nat.succ_le_of_lt hi)
      simp only [Nat.succ_eq_add_one, Nat.add_mul, Nat.one_mul] at this
      omega)
    have e : L.org + i * L.sz + j + q = L.org + i * L.sz + (j + q) := by omega
    have e' : L.org + (i * L.sz + (j + q)) = L.org + i * L.sz + (j + q) := by omega
    rw [e'] at hu'
    rw [hu] at hu'; cases hu'
    refine ⟨u, by rw [e]; exact hu, h1, fun y hy => ?_⟩
    rw [hg q (by omega), hx] at hy
    cases hy; exact hv
  classical
  refine ⟨_, CellsAt.of (fun q => if h : q < cs.length then (this q h).choose else undef) (fun q hq => ?_) (fun q x hx => ?_)⟩
  · simp only [hq, dif_pos]
    exact ⟨(this q hq).choose_spec.1, (this q hq).choose_spec.2.1⟩
  · have hq : q < cs.length := (List.getElem?_eq_some_iff.1 hx).1
    simp only [hq, dif_pos]
    exact (this q hq).choose_spec.2.2 x hx

/-- n cells out of an immutable row. -/
theorem imm_sub {K : Kp} {ro : Nat} {H : Hp} {w : World} (hR : Rel K ro H w) {rows : List (List IV)} {b o sz : Nat} {us : Nat → Nat → Value} (hc : Claimed K rows b o sz us) {i : Nat} {row : List IV} (hr : rows[i]? = some row) {j n : Nat} {cs : List IV} (hsub : sub row j n = some cs) : ∃ vs, CellsAt K w b (o + i * sz + j) cs vs := by
  obtain ⟨hl, hle, hg⟩ := sub_some hsub
  refine ⟨_, CellsAt.of (fun q => us i (j + q)) (fun q hq => ?_) (fun q x hx => ?_)⟩
  · have := hR.claim _ _ _ (hc.cl i row (j + q) hr (by rw [← hc.len i row hr]; omega))
    rw [show o + i * sz + j + q = o + i * sz + (j + q) by omega]
    exact this
  · have hq : q < cs.length := (List.getElem?_eq_some_iff.1 hx).1
    rw [hg q (by omega)] at hx
    exact (hc.val i row (j + q) x hr hx).mono K.bare_le

theorem rd_sim {K : Kp} {ro : Nat} {H : Hp} {w : World} (hR : Rel K ro H w) {x : IV} {v : Value} (hv : VR K x v) {n : Nat} {cs : List IV} (h : rd H n x = some cs) :
    cs.length = n ∧ ∃ b o us, v = .pointer (some (ad b o)) ∧ CellsAt K w b o cs us := by
  cases x <;> simp only [rd, reduceCtorEq] at h
  case ptr b g i j =>
    obtain ⟨L, hL, e, hg, hp⟩ := hv.ptr_inv
    simp only [Option.bind_eq_some_iff] at h
    obtain ⟨B, hB, row, hr, hs⟩ := h
    obtain ⟨hB, hgen⟩ := blkAt_some hB
    obtain ⟨B', hB', ok⟩ := hR.blk b L hL
    obtain rfl : B = B' := by rw [hB] at hB'; exact Option.some.inj hB'
    have e' := e (by rw [← ok.gen]; exact hgen)
    obtain ⟨us, hc⟩ := blk_sub hR hL hB hr hs
    exact ⟨(sub_some hs).1, _, _, us, e', hc⟩
  case eptr rows i j =>
    obtain ⟨b, o, sz, us, rfl, hc⟩ := hv.eptr_inv
    simp only [Option.bind_eq_some_iff] at h
    obtain ⟨row, hr, hsub⟩ := h
    obtain ⟨vs, hc⟩ := imm_sub hR hc hr hsub
    exact ⟨(sub_some hsub).1, _, _, vs, rfl, hc⟩

/-- An immutable row is read whatever the heap. -/
theorem val1_sim {K : Kp} {cs : List IV} {us : List Value} {x : IV} {ag : Bool} (hl : us.length = cs.length) (hv : ∀ (j : Nat) (y : IV) (u : Value), cs[j]? = some y → us[j]? = some u → VR K y u) (h : val1 ag cs = some x) :
    (ag = true ∧ VR K x (.agg us.toArray)) ∨ (ag = false ∧ ∃ u, us = [u] ∧ VR K x u) := by
  unfold val1 at h
  split at h
  · simp at h; subst h
    exact .inl ⟨rfl, .agg _ _ _ (by simpa using hl) (fun i x y h1 h2 => hv i x y h1 (by simpa using h2))⟩
  · simp at h; subst h
    match us, hl with
    | [u], _ => exact .inr ⟨rfl, u, rfl, hv 0 _ _ rfl rfl⟩
  · cases h

end Go.Vs
