/- Rows of a vector: copied with their labels; a queue's first batch. -/
import Derived.Test.YtgpooiahnpemjaaTqr3
namespace Go.Proofs.Ytgpooiahnpemjaa
open Go Go.Vs
variable {ro : Nat} {H : Hp}

def dat (r : Rw) : List Pr × Bool × Int := (r.ps, r.ov, r.n)
theorem slA_cells {A : IV} {sz : Nat} {rows : List (List IV)} (h : SlA A sz rows) : cellsO A = some [A] := by
  rcases h.imm with ⟨rfl, _⟩ | ⟨f, rfl⟩ <;> rfl
/-- Labels' room. -/
def Rw.fit (r : Rw) : Prop := r.ps.length * 32 ≤ room

theorem copy_loop {v : IV} {n : Nat} (hn : n ≤ 900) : ∀ (R D : List Rw) (G : Hp), D.length + R.length = n → (∀ r ∈ R, r.ok ∧ r.fit) → ro ≤ G.length → (∀ b ∈ blkS v, ro ≤ b) → Sq G v 3 ((D ++ R).map rrow) →
    ∃ (R' : List Rw) (G' : Hp), runW pg ro fn32L0 [(3, v), (8, v), (9, .int .i64 n), (10, .int .i64 D.length)] G = some (.exit 0, [(3, v), (8, v), (9, .int .i64 n), (10, .int .i64 n), (11, .bool false)], G') ∧
      Sq G' v 3 ((D ++ R').map rrow) ∧ R'.map dat = R.map dat ∧ (∀ r ∈ R', r.ok ∧ r.fit) ∧ G.length ≤ G'.length := by
  have L : ∀ e H, runW pg ro fn32L0 e H = seqO pg ro fn32L0 (runW pg ro fn32B0 (keepE [3, 8, 9, 10] e) H) := fun e H => runW_loopO
  intro R
  induction R with
  | nil =>
    intro D G hl _ _ _ h
    simp at hl
    refine ⟨[], G, ?_, h, rfl, by simp, Nat.le_refl _⟩
    rw [L]; simp [fn32B0, hl]
  | cons x R ih =>
    intro D G hl hok hG hro h
    simp only [List.length_cons] at hl
    obtain ⟨hx, hf⟩ := hok x (List.mem_cons_self ..)
    have hget : ((D ++ x :: R).map rrow)[D.length]? = some (rrow x) := by rw [List.getElem?_map, List.getElem?_append_right (Nat.le_refl _)]; simp
    obtain ⟨b1, B1, j1, hb1, hidx1, hB1, hf1, hrow1⟩ := h.idx hget
    have h1 : Sq (G ++ [{ rows := [rrow x] }]) v 3 ((D ++ x :: R).map rrow) := h.app _
    obtain ⟨b2, B2, j2, hb2, hidx2, hB2, hf2, hrow2, hput⟩ := h1.idxw hget
    obtain ⟨vi, hc, hvi⟩ := cloneP_2 (ro := ro) (H := G ++ [{ rows := [rrow x] }]) hx.1 hf
    have h2 := hput (rrow { x with lv := vi }) rfl
    have hx' : ({ x with lv := vi } : Rw).ok := ⟨hvi, hx.2⟩
    have e : ((D ++ x :: R).map rrow).set D.length (rrow { x with lv := vi }) = ((D ++ [{ x with lv := vi }]) ++ R).map rrow := by
      rw [← List.map_set, List.set_append_right _ _ (Nat.le_refl _)]; simp
    rw [e] at h2
    obtain ⟨R', G', h3, h4, h5, h6, h7⟩ := ih (D ++ [{ x with lv := vi }]) _ (by simp; omega) (fun r hr => hok r (List.mem_cons_of_mem _ hr)) (by simp; omega) hro h2
    refine ⟨{ x with lv := vi } :: R', G', ?_, by simpa using h4, by rw [List.map_cons, List.map_cons, h5]; rfl, fun r hr => ?_, by simp at h7; omega⟩
    · have hlt : (D.length : Int) < n := by omega
      have w1 : IntKind.i64.wrap ((D.length : Int) + 1) = D.length + 1 := by rw [IntKind.wrap_i64]; omega
      have hr2 := hro b2 hb2
      have hcv := slA_cells hvi
      simp only [List.length_append, List.length_singleton] at h3
      push_cast at h3
      unfold rrow at hrow1 hrow2 hidx2 hB2 hc h3
      rw [L]
      simp [-getElem?_pos, fn32B0, hlt, hidx1, hB1, hrow1, hG, hx.cell, hc, hcv, hidx2, hB2, hf2, hrow2, hr2, over, w1, h3]
    · rcases List.mem_cons.1 hr with rfl | hr
      · exact ⟨hx', hf⟩
      · exact h6 r hr

/-- A copy, labels and all. -/
theorem copied_2 {A : IV} {L : List Rw} (h : SlA A 3 (L.map rrow)) (hn : L.length ≤ 900) (hok : ∀ r ∈ L, r.ok ∧ r.fit) :
    ∃ (vi : IV) (L' : List Rw), doCall (callW pg) ro 2 (.fn 32 []) [A] H = some (vi, H) ∧ SlA vi 3 (L'.map rrow) ∧ L'.map dat = L.map dat ∧ ∀ r ∈ L', r.ok ∧ r.fit := by
  obtain ⟨v', Y, h1, h2, h3⟩ := cloneR_c (ro := H.length) (H := H) h (by omega)
  obtain ⟨L', G', h4, h5, h6, h7, h8⟩ := copy_loop (ro := H.length) hn L [] (H ++ Y) (by simp) hok (by simp) h3 h2
  obtain ⟨vi, hv1, hv2⟩ := call2s (pg := pg) (ro := ro) (f := 32) (args := [A]) (v := v') (H2 := G') (sz := 3) (rows := L'.map rrow) (by
    have hlen := h2.len
    rw [List.length_map] at hlen
    simp at h4
    rw [callW_eqO (fn := fn32) rfl rfl]
    simp [-getElem?_pos, fn32, h1, hlen, h4]) (by simp [SlA.self h]) (blks_slA h) h5 h3 (rrow_plain fun r hr => (h7 r hr).1)
  exact ⟨vi, L', hv1, hv2, h6, h7⟩
end Go.Proofs.Ytgpooiahnpemjaa
