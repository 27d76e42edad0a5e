import Derived.Test.YtnfddeiegbifhaaDoorTu6
/- Adding a sample to an empty history; the same again. -/
namespace Go.Proofs.YtnfddeiegbifhaaDoor
open Go Go.Vs
variable {ro : Nat} {H : Hp}

def tl : Cd → Cd
  | .seq _ b => b
  | c => c
def hd : Cd → Cd
  | .seq a _ => a
  | c => c

theorem cloneO_c {A : IV} {L : List Pr} (h : SlA A 2 (L.map prow)) (hl : L.length ≤ 1000) : ∃ v' Y, callW pg ro 26 [A] H = some (v', H ++ Y) ∧ Ow (H ++ Y) v' 2 (L.map prow) ∧ ∀ b ∈ blkS v', H.length ≤ b := by
  rcases h.imm with ⟨rfl, hr⟩ | ⟨f, hA⟩
  · refine ⟨.nsl, [], ?_, by rw [hr]; exact Ow.nil, by simp [blkS]⟩
    rw [callW_eqO (fn := fn26) rfl rfl]
    simp [-getElem?_pos, fn26]
  · have hr : Vs.rowsOf (H ++ [{ rows := [] }]) A = some (L.map prow) := h.rws _
    have hw := szOk_all h.sz
    have hm : (L.map prow).length * 32 ≤ room := by rw [List.length_map]; unfold room; omega
    subst hA
    by_cases h0 : L.map prow = []
    · refine ⟨.arr H.length 0 0 0 0 true, [{ rows := [] }], ?_, .inr ⟨H.length, 0, [], [], 0, true, by rw [h0]; rfl, by rw [h0]; simp, by simp, by simp, by rw [h0]; simp, by rw [h0]; simp⟩, by simp [blkS]⟩
      rw [callW_eqO (fn := fn26) rfl rfl]
      simp only [h0] at hr ⊢
      simp [-getElem?_pos, fn26, appV, blkAt_eq]
    · have h00 : ¬ L = [] := fun e => h0 (by rw [e]; rfl)
      refine ⟨.arr (H.length + 1) 0 0 (L.map prow).length (L.map prow).length false, [{ rows := [] }, { rows := L.map prow }], ?_, .inr ⟨H.length + 1, 0, [], [], (L.map prow).length, false, by simp, by simp, by simp, fun _ => by
        have := List.length_pos_iff.2 h0; simpa using this, by simp, by simpa using h.sz⟩, by simp [blkS]⟩
      rw [callW_eqO (fn := fn26) rfl rfl]
      rw [List.length_map] at hm
      simp [-getElem?_pos, fn26, appV, blkAt_eq, hw, h00, newArr, hm]

/-- Frozen: a row of pairs. -/
theorem frz_sq {v : IV} {l : List Pr} (h : Sq H v 2 (l.map prow)) (k : Nat) : ∃ vi, Vs.frz0 (k + 2) H v = some vi ∧ SlA vi 2 (l.map prow) := by
  have hw := h.wid
  rcases h with ⟨rfl, hr⟩ | ⟨b, g, pre, post, cap, ex, rfl, hc, hB, _⟩
  · exact ⟨.nsl, rfl, by rw [hr]; exact slA_nil⟩
  · refine ⟨.imm (l.map prow) (ex && cap == (l.map prow).length), ?_, slA_imm hw⟩
    have hd : (List.drop pre.length (pre ++ (l.map prow ++ post))).take (l.map prow).length = l.map prow := by rw [List.drop_left, List.take_left]
    rw [frz0_arr', blkAt_eq, hB, Option.bind_some, if_pos rfl, Option.bind_some, if_pos (by simp), hd]
    have hmo : mapO (mapO (Vs.frz0 (k + 1) H)) (l.map prow) = some (l.map prow) := mapO_id fun r hr => mapO_id fun x hx => by
      obtain ⟨y, _, rfl⟩ := List.mem_map.1 hr
      simp [prow] at hx
      rcases hx with rfl | rfl <;> rfl
    rw [hmo]; rfl
theorem frz_smp {s : Nat} {t V : Int} (h : H[s]? = some { rows := [smp t V] }) (k : Nat) : Vs.frz0 (k + 2) H (.arr s 0 0 1 1 false) = some (.imm [smp t V] false) := by
  rw [frz0_arr', blkAt_eq, h, Option.bind_some, if_pos rfl, Option.bind_some]
  rfl
/-- Frozen: a set with its sample. -/
theorem frz_row {s : Nat} {t V : Int} {v : IV} {l : List Pr} (hS : H[s]? = some { rows := [smp t V] }) (hv : Sq H v 2 (l.map prow)) :
    ∃ vi, SlA vi 2 (l.map prow) ∧ frzArg H (.agg [.arr s 0 0 1 1 false, v]) = .agg [.imm [smp t V] false, vi] ∧ ∀ k, H[k]? = some { rows := [[.arr s 0 0 1 1 false, v]] } → ∃ vj, SlA vj 2 (l.map prow) ∧ frzArg H (.arr k 0 0 1 1 false) = .imm [[.imm [smp t V] false, vj]] false := by
  obtain ⟨vi, h1, h2⟩ := frz_sq hv 9
  obtain ⟨vj, h3, h4⟩ := frz_sq hv 9
  refine ⟨vi, h2, ?_, fun k hk => ⟨vj, h4, ?_⟩⟩
  · have e : Vs.frz0 12 H (.agg [.arr s 0 0 1 1 false, v]) = some (.agg [.imm [smp t V] false, vi]) := by
      show (mapO (Vs.frz0 11 H) [.arr s 0 0 1 1 false, v]).map IV.agg = _
      simp only [mapO, frz_smp hS 9, h1, Option.bind_some, Option.map_some]
    unfold frzArg
    show (Vs.frz0 12 H _).getD _ = _
    rw [e]; rfl
  · have e : Vs.frz0 12 H (.arr k 0 0 1 1 false) = some (.imm [[.imm [smp t V] false, vj]] false) := by
      rw [frz0_arr', blkAt_eq, hk, Option.bind_some, if_pos rfl, Option.bind_some]
      show ((mapO (mapO (Vs.frz0 11 H)) [[.arr s 0 0 1 1 false, v]]).map fun rows => IV.imm rows (false && 1 == 1)) = _
      simp only [mapO, frz_smp hS 9, h3, Option.bind_some, Option.map_some]
      rfl
    unfold frzArg
    show (Vs.frz0 12 H _).getD _ = _
    rw [e]; rfl

theorem add_no {A : IV} {l : List Pr} (hA : SlA A 2 (l.map prow)) (hs : Short l) (hl : l.length < 9223372036854775807) {n t V : Int} (hn : 0 ≤ n ∧ n ≤ 1000000) (h : isB l = false ∨ ¬ (0 ≤ t ∧ t ≤ n ∧ n - 100 < t)) :
    ∃ H', callW pg 0 9 [.ptr 0 0 0 0, A, .agg (smp t V)] [{ rows := [[.int .i64 n, .nsl]] }] = some (.int .i64 (if isB l = true then 152 else 30), H') ∧ H'[0]? = some { rows := [[.int .i64 n, .nsl]] } := by
  have his := fun H => is_2 (ro := 0) (H := H) (A := A) (l := l) (by rw [SlA.self hA]; exact hA) hs hl
  have wn : IntKind.i64.wrap (n - 100) = n - 100 := by rw [IntKind.wrap_i64]; omega
  refine ⟨[{ rows := [[.int .i64 n, .nsl]] }, { rows := [smp t V] }], ?_, rfl⟩
  rw [callW_eqO (fn := fn9) rfl rfl]
  unfold smp
  by_cases c : isB l = true
  · have h2 : ¬ (0 ≤ t ∧ t ≤ n ∧ n - 100 < t) := by
      rcases h with h | h
      · rw [h] at c; cases c
      · exact h
    by_cases c1 : t < 0
    · simp [-getElem?_pos, fn9, his, c, blkAt_eq, c1]
    · by_cases c2 : n < t
      · simp [-getElem?_pos, fn9, his, c, blkAt_eq, c1, c2]
      · have c3 : t ≤ n - 100 := by omega
        simp [-getElem?_pos, fn9, his, c, blkAt_eq, c1, c2, wn, c3]
  · have c' : isB l = false := by simpa using c
    simp [-getElem?_pos, fn9, his, c']
end Go.Proofs.YtnfddeiegbifhaaDoor
