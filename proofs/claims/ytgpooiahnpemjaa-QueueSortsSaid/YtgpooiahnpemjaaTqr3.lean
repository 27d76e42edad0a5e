/- Rows of a vector: a sorted copy, a copy. -/
import Derived.Test.YtgpooiahnpemjaaTqr2
namespace Go.Proofs.Ytgpooiahnpemjaa
open Go Go.Vs
variable {ro : Nat} {H : Hp}

theorem outer_loop {v : IV} {n : Nat} (hn : n ≤ 900) : ∀ (rest acc : List Rw) (G : Hp), acc.length + rest.length = n → (∀ r ∈ acc, r.ok) → (∀ r ∈ rest, r.ok) → ro ≤ G.length → (∀ b ∈ blkS v, ro ≤ b) → Sq G v 3 ((acc.reverse ++ rest).map rrow) →
    ∃ (e' : Env) (G' : Hp), runW pg ro fn77L1 [(0, v), (1, .int .i64 0), (2, .int .i64 n), (3, .fn 56 []), (8, .int .i64 acc.length)] G = some (.exit 0, e', G') ∧
      Sq G' v 3 (((rest.foldl (fun a x => insR cR x a) acc).reverse).map rrow) ∧ G'.length = G.length ∧ ∀ b, b ∉ blkS v → G'[b]? = G[b]? := by
  have L : ∀ e H, runW pg ro fn77L1 e H = seqO pg ro fn77L1 (runW pg ro fn77B1 (keepE [0, 1, 2, 3, 8] e) H) := fun e H => runW_loopO
  intro rest
  induction rest with
  | nil =>
    intro acc G hl _ _ _ _ h
    simp at hl
    refine ⟨[(0, v), (1, .int .i64 0), (2, .int .i64 n), (3, .fn 56 []), (8, .int .i64 acc.length), (14, .bool false)], G, ?_, by simpa using h, rfl, fun _ _ => rfl⟩
    rw [L]; simp [fn77B1, hl]
  | cons x rest ih =>
    intro acc G hl ha hr hG hro h
    simp only [List.length_cons] at hl
    have hx := hr x (List.mem_cons_self ..)
    obtain ⟨j', G1, h1, h2, h3, h4⟩ := ins_loop (ro := ro) (i := .int .i64 acc.length) (n := n) acc rest x G ha hx (by omega) hG hro h
    obtain ⟨e', G', h5, h6, h7, h8⟩ := ih (insR cR x acc) G1 (by rw [insR_len]; omega) (fun r hr2 => by
      rcases List.mem_cons.1 (insR_perm.mem_iff.1 hr2) with rfl | h
      · exact hx
      · exact ha r h) (fun r h => hr r (List.mem_cons_of_mem _ h)) (by omega) hro h2
    rw [insR_len] at h5
    push_cast at h5
    refine ⟨e', G', ?_, by rw [List.foldl_cons]; exact h6, by omega, fun b hb => by rw [h8 b hb, h4 b hb]⟩
    have hlt : (acc.length : Int) < n := by omega
    have w1 : IntKind.i64.wrap ((acc.length : Int) + 1) = acc.length + 1 := by rw [IntKind.wrap_i64]; omega
    rw [L]
    simp [fn77B1, hlt, h1, w1, h5]

theorem insert_c {v : IV} {L : List Rw} (hn : L.length ≤ 900) (hok : ∀ r ∈ L, r.ok) (hG : ro ≤ H.length) (hro : ∀ b ∈ blkS v, ro ≤ b) (h : Sq H v 3 (L.map rrow)) :
    ∃ G', callW pg ro 77 [v, .int .i64 0, .int .i64 L.length, .fn 56 []] H = some (.tup [], G') ∧ Sq G' v 3 ((isort cR L).map rrow) ∧ G'.length = H.length ∧ ∀ b, b ∉ blkS v → G'[b]? = H[b]? := by
  have wz : IntKind.i64.wrap 1 = 1 := by decide
  cases L with
  | nil =>
    refine ⟨H, ?_, by simpa [isort, isortR] using h, rfl, fun _ _ => rfl⟩
    have L1 : ∀ e, runW pg ro fn77L1 e H = seqO pg ro fn77L1 (runW pg ro fn77B1 (keepE [0, 1, 2, 3, 8] e) H) := fun e => runW_loopO
    rw [callW_eqO (fn := fn77) rfl rfl]
    simp [-getElem?_pos, fn77, L1, fn77B1, wz]
  | cons x L =>
    obtain ⟨e', G', h1, h2, h3, h4⟩ := outer_loop (ro := ro) (n := (x :: L).length) hn L [x] H (by simp; omega) (by simpa using hok x (List.mem_cons_self ..)) (fun r h => hok r (List.mem_cons_of_mem _ h)) hG hro (by simpa using h)
    refine ⟨G', ?_, h2, h3, h4⟩
    rw [callW_eqO (fn := fn77) rfl rfl]
    simp at h1
    simp [-getElem?_pos, fn77, wz, h1]

theorem stable_c {v : IV} {L : List Rw} (hn : L.length ≤ 19) (hok : ∀ r ∈ L, r.ok) (hG : ro ≤ H.length) (hro : ∀ b ∈ blkS v, ro ≤ b) (h : Sq H v 3 (L.map rrow)) :
    ∃ G', callW pg ro 55 [v, .fn 56 []] H = some (.tup [], G') ∧ Sq G' v 3 ((isort cR L).map rrow) ∧ G'.length = H.length ∧ ∀ b, b ∉ blkS v → G'[b]? = H[b]? := by
  obtain ⟨G', h1, h2, h3, h4⟩ := insert_c (ro := ro) (by omega) hok hG hro h
  refine ⟨G', ?_, h2, h3, h4⟩
  have hlen := h.len
  rw [List.length_map] at hlen
  have L0 : ∀ e, runW pg ro fn70L0 e H = seqO pg ro fn70L0 (runW pg ro fn70B0 (keepE [0, 1, 2, 6, 7, 8] e) H) := fun e => runW_loopO
  have L2 : ∀ e, runW pg ro fn70L2 e G' = seqO pg ro fn70L2 (runW pg ro fn70B2 (keepE [0, 1, 2, 6] e) G') := fun e => runW_loopO
  have c1 : ¬ (20 : Int) ≤ L.length := by omega
  have c2 : ¬ 20 ≤ L.length := by omega
  have c3 : ¬ (20 : Int) < L.length := by omega
  have c4 : ¬ 20 < L.length := by omega
  have h70 : callW pg ro 70 [v, .int .i64 L.length, .fn 56 []] H = some (.tup [], G') := by
    rw [callW_eqO (fn := fn70) rfl rfl]
    simp [-getElem?_pos, fn70, L0, fn70B0, L2, fn70B2, c1, c2, c3, c4, h1]
  rw [callW_eqO (fn := fn55) rfl rfl]
  simp [-getElem?_pos, fn55, hlen, h70]

/-- A copy of rows that were handed: append([]E{}, s...). -/
theorem SlA.clone {A : IV} {sz bytes : Nat} {rows : List (List IV)} (h : SlA A sz rows) (hm : rows.length * bytes ≤ room) :
    ∃ v' Y, appV ro (H ++ [{ rows := [] }]) sz bytes (.arr H.length 0 0 0 0 true) A = some (v', H ++ Y) ∧ Sq (H ++ Y) v' sz rows ∧ ∀ b ∈ blkS v', H.length ≤ b := by
  have hr : Vs.rowsOf (H ++ [{ rows := [] }]) A = some rows := h.rws _
  have hw := szOk_all h.sz
  by_cases h0 : rows = []
  · subst h0
    refine ⟨.arr H.length 0 0 0 0 true, [{ rows := [] }], ?_, .inr ⟨H.length, 0, [], [], 0, true, rfl, by simp, by simp, by simp⟩, by simp [blkS]⟩
    simp [-getElem?_pos, appV, hr, blkAt_eq]
  · refine ⟨.arr (H.length + 1) 0 0 rows.length rows.length false, [{ rows := [] }, { rows := rows }], ?_, .inr ⟨H.length + 1, 0, [], [], rows.length, false, by simp, by simp, by simp, by simpa using h.sz⟩, by simp [blkS]⟩
    simp [-getElem?_pos, appV, hr, blkAt_eq, hw, h0, newArr, hm]

theorem cloneR_c {A : IV} {L : List Rw} (h : SlA A 3 (L.map rrow)) (hl : L.length ≤ 1000) : ∃ v' Y, callW pg ro 53 [A] H = some (v', H ++ Y) ∧ Sq (H ++ Y) v' 3 (L.map rrow) ∧ ∀ b ∈ blkS v', H.length ≤ b := by
  rcases h.imm with ⟨rfl, hr⟩ | ⟨f, hA⟩
  · refine ⟨.nsl, [], ?_, by rw [hr]; exact Sq.nil, by simp [blkS]⟩
    rw [callW_eqO (fn := fn53) rfl rfl]
    simp [-getElem?_pos, fn53]
  · obtain ⟨v', Y, h1, h2, h3⟩ := SlA.clone (ro := ro) (H := H) (bytes := 40) h (by rw [List.length_map]; unfold room; omega)
    refine ⟨v', Y, ?_, h2, h3⟩
    subst hA
    rw [callW_eqO (fn := fn53) rfl rfl]
    simp [-getElem?_pos, fn53, h1]

theorem cloneP_2 {A : IV} {l : List Pr} (h : SlA A 2 (l.map prow)) (hl : l.length * 32 ≤ room) : ∃ vi, doCall (callW pg) ro 2 (.fn 54 []) [A] H = some (vi, H) ∧ SlA vi 2 (l.map prow) := by
  have hp : ∀ r ∈ l.map prow, ∀ x ∈ r, plainD 10 x = true := by
    intro r hr x hx
    obtain ⟨y, _, rfl⟩ := List.mem_map.1 hr
    simp [prow] at hx
    rcases hx with rfl | rfl <;> rfl
  have hbk : [A].flatMap (blks frzD H) = [] := by
    rcases h.imm with ⟨rfl, _⟩ | ⟨f, rfl⟩ <;> rfl
  rcases h.imm with ⟨rfl, hr⟩ | ⟨f, hA⟩
  · refine call2s (H2 := H) (v := .nsl) (rows := l.map prow) (sz := 2) ?_ rfl hbk (by rw [hr]; exact Sq.nil) (by simp [blkS]) hp
    rw [callW_eqO (fn := fn54) rfl rfl]
    simp [-getElem?_pos, fn54]
  · obtain ⟨v', Y, h1, h2, h3⟩ := SlA.clone (ro := H.length) (H := H) (bytes := 32) h (by rw [List.length_map]; exact hl)
    refine call2s (v := v') (H2 := H ++ Y) ?_ (by simp [SlA.self h]) hbk h2 h3 hp
    subst hA
    rw [callW_eqO (fn := fn54) rfl rfl]
    simp [-getElem?_pos, fn54, h1]

theorem blks_slA {A : IV} {sz : Nat} {rows : List (List IV)} (h : SlA A sz rows) : [A].flatMap (blks frzD H) = [] := by
  rcases h.imm with ⟨rfl, _⟩ | ⟨f, rfl⟩ <;> rfl

/-- A sorted copy. -/
theorem sort_2 {A : IV} {L : List Rw} (h : SlA A 3 (L.map rrow)) (hn : L.length ≤ 19) (hok : ∀ r ∈ L, r.ok) : ∃ vi, doCall (callW pg) ro 2 (.fn 33 []) [A] H = some (vi, H) ∧ SlA vi 3 ((isort cR L).map rrow) := by
  obtain ⟨v', Y, h1, h2, h3⟩ := cloneR_c (ro := H.length) (H := H) h (by omega)
  obtain ⟨G', h4, h5, h6, h7⟩ := stable_c (ro := H.length) hn hok (by simp) h3 h2
  refine call2s (v := v') (H2 := G') ?_ (by simp [SlA.self h]) (blks_slA h) h5 h3 (rrow_plain fun r hr => hok r ((isort_perm L).mem_iff.1 hr))
  rw [callW_eqO (fn := fn33) rfl rfl]
  simp [-getElem?_pos, fn33, h1, h4]
end Go.Proofs.Ytgpooiahnpemjaa
