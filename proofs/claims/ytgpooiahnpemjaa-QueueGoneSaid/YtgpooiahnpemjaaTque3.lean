/- All that waits; a sender as an object. -/
import Derived.Test.YtgpooiahnpemjaaTque2
namespace Go.Proofs.Ytgpooiahnpemjaa
open Go Go.Vs
variable {ro : Nat} {H : Hp}

theorem clone_c {v : IV} {l : List Bt} (h : Sq H v 4 (l.map brow)) (hl : l.length ≤ 1000) : ∃ v' Y, callW pg ro 35 [v] H = some (v', H ++ Y) ∧ Sq (H ++ Y) v' 4 (l.map brow) ∧ ∀ b ∈ blkS v', H.length ≤ b := by
  by_cases hv : v = .nsl
  · have hl0 : l = [] := by
      rcases h with ⟨_, h⟩ | ⟨b, g, pre, post, cap, ex, rfl, _⟩
      · simpa using h
      · cases hv
    subst hv; subst hl0
    refine ⟨.nsl, [], ?_, Sq.nil, by simp [blkS]⟩
    rw [callW_eqO (fn := fn35) rfl rfl]
    simp [-getElem?_pos, fn35]
  · obtain ⟨v', Y, h1, h2, h3⟩ := h.clone (bytes := 56) (ro := ro) (by rw [List.length_map]; unfold room; omega)
    refine ⟨v', Y, ?_, h2, h3⟩
    rcases h with ⟨rfl, _⟩ | ⟨b, g, pre, post, cap, ex, rfl, _⟩
    · exact absurd rfl hv
    · rw [List.length_map] at h1
      rw [callW_eqO (fn := fn35) rfl rfl]
      simp [-getElem?_pos, fn35, h1]

theorem set_eta {B : Bk} {j : Nat} {row : List IV} (h : B.rows[j]? = some row) (hf : B.frz = false) : ({ rows := B.rows.set j row, gen := B.gen } : Bk) = B := by
  have : B.rows.set j row = B.rows := by
    apply List.ext_getElem?
    intro i
    by_cases e : j = i
    · subst e; rw [List.getElem?_set_self (List.getElem?_eq_some_iff.1 h).1, h]
    · rw [List.getElem?_set_ne e]
  obtain ⟨r, g, f⟩ := B
  simp at hf this
  rw [this, hf]

theorem all_loop {v : IV} {l : List Bt} (hlenB : (l.length : Int) < 9223372036854775807) (hro : ∀ b ∈ blkS v, ro ≤ b) : ∀ (k i : Nat) (G : Hp), i + k = l.length → ro ≤ G.length → Sq G v 4 (l.map brow) →
    ∃ G', runW pg ro fn13L0 [(3, v), (11, v), (12, .int .i64 l.length), (13, .int .i64 i)] G = some (.exit 0, [(3, v), (11, v), (12, .int .i64 l.length), (13, .int .i64 l.length), (14, .bool false)], G') ∧ Sq G' v 4 (l.map brow) := by
  have L : ∀ e G, runW pg ro fn13L0 e G = seqO pg ro fn13L0 (runW pg ro fn13B0 (keepE [3, 11, 12, 13] e) G) := fun e G => runW_loopO
  intro k
  induction k with
  | zero =>
    intro i G hi hG h
    have : i = l.length := by omega
    subst this
    refine ⟨G, ?_, h⟩
    rw [L]
    simp [-getElem?_pos, fn13B0]
  | succ k ih =>
    intro i G hi hG h
    have hlt : i < l.length := by omega
    obtain ⟨x, hx⟩ : ∃ x, l[i]? = some x := ⟨_, List.getElem?_eq_getElem hlt⟩
    have hm : (l.map brow)[i]? = some (brow x) := by rw [List.getElem?_map, hx]; rfl
    obtain ⟨b, B, j, hb, hidx, hB, hfz, hrow⟩ := h.idx hm
    obtain ⟨b', B', j', hb', hidx', hB', hfz', hrow'⟩ := (h.app [{ rows := [brow x] }]).idx hm
    obtain ⟨G', h1, h2⟩ := ih (i + 1) (G ++ [{ rows := [brow x] }]) (by omega) (by simp; omega) (h.app _)
    refine ⟨G', ?_, h2⟩
    have hi1 : (i : Int) < l.length := by omega
    have hw : IntKind.i64.wrap ((i : Int) + 1) = i + 1 := by
      have := h.len
      have h5 : (l.length : Int) < 9223372036854775807 := by
        exact hlenB
      rw [IntKind.wrap_i64]; omega
    have hrb := hro b' hb'
    have hset := set_eta hrow' hfz'
    have hset2 := set_same (H := G ++ [{ rows := [brow x] }]) hB'
    simp only [brow] at hrow hrow' hidx' hB' h1 hset hset2
    push_cast at h1
    rw [L]
    simp [-getElem?_pos, fn13B0, hi1, hidx, hB, hG, hrow, copied_nil, hidx', hB', hfz', hrow', hrb, hset, hset2, hw, h1]

theorem all_2 {Q : Nat} {vd v : IV} {q : Que} (h : QAt H Q vd v q) (hl : q.l.length ≤ 1000) : ∃ vi, doCall (callW pg) ro 2 (.fn 13 []) [.ptr Q 0 0 0] H = some (vi, H) ∧ SlA vi 4 (q.l.map brow) := by
  obtain ⟨v', Y, h1, h2, h3⟩ := clone_c (ro := H.length) h.sl hl
  obtain ⟨G', h4, h5⟩ := all_loop (ro := H.length) (v := v') (l := q.l) (by omega) h3 q.l.length 0 (H ++ Y) (by omega) (by simp) h2
  refine call2s (v := v') (H2 := G') ?_ rfl rfl h5 h3 brow_plain
  have hQ := h.at_
  have hlen := h2.len
  simp at hlen h4
  rw [callW_eqO (fn := fn13) rfl rfl]
  simp [-getElem?_pos, fn13, hQ, h1, hlen, h4]

theorem QAt.frm {Q : Nat} {vd v : IV} {q : Que} {H' : Hp} (h : QAt H Q vd v q) (hf : ∀ b ∈ Q :: (blkS vd ++ blkS v), H'[b]? = H[b]?) : QAt H' Q vd v q :=
  ⟨by rw [hf Q (by simp)]; exact h.at_, h.sd.fr fun b hb => hf b (by simp [hb]), h.sl.fr fun b hb => hf b (by simp [hb]), h.ned, h.ne, h.ap⟩


end Go.Proofs.Ytgpooiahnpemjaa
