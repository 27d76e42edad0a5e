/- The document's matcher: its table. -/
import Derived.Test.YtpmgmepanbdfpaaDoorTpat9
namespace Go.Proofs.YtpmgmepanbdfpaaDoor
open Go Go.Vs
variable {ro : Nat} {H : Hp}

namespace Tab

/-- A row of the table: does a pattern match the text's beginnings? Of those behind the k first: not told yet. -/
def part (q s : List UInt8) (k : Nat) : List (List IV) := (List.range (s.length + 1)).map fun j => [.bool (decide (j < k) && gm q (s.take j))]
def full (q s : List UInt8) : List (List IV) := (List.range (s.length + 1)).map fun j => [.bool (gm q (s.take j))]
theorem part_len {q s : List UInt8} {k : Nat} : (part q s k).length = s.length + 1 := by simp [part]
theorem full_len {q s : List UInt8} : (full q s).length = s.length + 1 := by simp [full]
theorem part_wid {q s : List UInt8} {k : Nat} : szOk 1 (part q s k) = true := szOk_all fun r hr => by simp [part] at hr; obtain ⟨_, _, rfl⟩ := hr; rfl
theorem full_wid {q s : List UInt8} : szOk 1 (full q s) = true := szOk_all fun r hr => by simp [full] at hr; obtain ⟨_, _, rfl⟩ := hr; rfl
theorem part_at {q s : List UInt8} {k j : Nat} (h : j ≤ s.length) : (part q s k)[j]? = some [.bool (decide (j < k) && gm q (s.take j))] := by
  rw [part, List.getElem?_map, List.getElem?_range (by omega)]; rfl
theorem full_at {q s : List UInt8} {j : Nat} (h : j ≤ s.length) : (full q s)[j]? = some [.bool (gm q (s.take j))] := by
  rw [full, List.getElem?_map, List.getElem?_range (by omega)]; rfl
theorem part_zero {q s : List UInt8} : part q s 0 = List.replicate (s.length + 1) [.bool false] := by
  apply List.ext_getElem?
  intro j
  by_cases h : j ≤ s.length
  · rw [part_at h, List.getElem?_replicate, if_pos (by omega)]; simp
  · rw [List.getElem?_eq_none (by rw [part_len]; omega), List.getElem?_eq_none (by simp; omega)]
theorem part_all {q s : List UInt8} : part q s (s.length + 1) = full q s := by
  apply List.ext_getElem?
  intro j
  by_cases h : j ≤ s.length
  · rw [part_at h, full_at h]; simp; omega
  · rw [List.getElem?_eq_none (by rw [part_len]; omega), List.getElem?_eq_none (by rw [full_len]; omega)]
theorem part_set {q s : List UInt8} {k : Nat} (hk : k ≤ s.length) : (part q s k).set k [.bool (gm q (s.take k))] = part q s (k + 1) := by
  apply List.ext_getElem?
  intro j
  by_cases h : j ≤ s.length
  · rw [part_at h]
    by_cases e : k = j
    · subst e
      rw [List.getElem?_set_self (by rw [part_len]; omega)]; simp
    · rw [List.getElem?_set_ne e, part_at h]
      have : decide (j < k) = decide (j < k + 1) := by rw [decide_eq_decide]; omega
      rw [this]
  · rw [List.getElem?_eq_none (by simp [part_len]; omega), List.getElem?_eq_none (by rw [part_len]; omega)]
/-- Where nothing is written. -/
theorem part_skip {q s : List UInt8} {k : Nat} (hk : k ≤ s.length) (h : gm q (s.take k) = false) : part q s k = part q s (k + 1) := by
  rw [← part_set hk, h]
  apply List.ext_getElem?
  intro j
  by_cases e : k = j
  · subst e
    rw [part_at hk, List.getElem?_set_self (by rw [part_len]; omega)]; simp
  · rw [List.getElem?_set_ne e]

theorem idx1 {H : Hp} {b n : Nat} {R : List (List IV)} (hB : H[b]? = some { rows := R }) (hw : szOk 1 R = true) (hl : R.length = n) {i : Nat} (hi : i < n) : idx H 1 (.arr b 0 0 n n true) i = some (.ptr b 0 i 0) := by
  have h2 : (i : Int) < n := by omega
  subst hl
  simp [-getElem?_pos, hB, hw, h2]

theorem pre_star {c : UInt8} (h : c = 42) (q : List UInt8) {s : List UInt8} {k : Nat} (hk : k < s.length) : gm (q ++ [c]) (s.take (k + 1)) = (gm q (s.take (k + 1)) || gm (q ++ [c]) (s.take k)) := by
  subst h
  obtain ⟨b, hb⟩ : ∃ b, s[k]? = some b := ⟨_, List.getElem?_eq_getElem hk⟩
  rw [Vs.take_cons hb, gm_row_star]

theorem inner {p s : List UInt8} {i : Nat} {c : UInt8} (hc : p[i]? = some c) (hp : p.length ≤ 9223372036854775807) (hs : s.length ≤ 140737488351232) {C N : Nat} (hC : ro ≤ C) (hN : ro ≤ N) (hne : C ≠ N) {q : List UInt8} : ∀ (d k : Nat) (H : Hp), k + d = s.length + 1 →
    H[C]? = some { rows := full q s } → H[N]? = some { rows := part (q ++ [c]) s k } → ro ≤ H.length →
    ∃ H', runW pg ro fn14L0 [(0, .str (bs p)), (1, .str (bs s)), (5, .arr C 0 0 (s.length + 1) (s.length + 1) true), (6, .int .i64 i), (7, .arr N 0 0 (s.length + 1) (s.length + 1) true), (8, .int .i64 k)] H =
      some (.exit 2, [(0, .str (bs p)), (1, .str (bs s)), (5, .arr C 0 0 (s.length + 1) (s.length + 1) true), (6, .int .i64 i), (7, .arr N 0 0 (s.length + 1) (s.length + 1) true), (8, .int .i64 (s.length + 1 : Nat)), (28, .bool false)], H') ∧
      H'[N]? = some { rows := full (q ++ [c]) s } ∧ ro ≤ H'.length := by
  have L : ∀ e H, runW pg ro fn14L0 e H = seqO pg ro fn14L0 (runW pg ro fn14B0 (keepE [0, 1, 5, 6, 7, 8] e) H) := fun e H => runW_loopO
  have hi := (List.getElem?_eq_some_iff.1 hc).1
  have hi1 : (i : Int) < p.length := by omega
  intro d
  induction d with
  | zero =>
    intro k H hk hHC hHN hro
    have : k = s.length + 1 := by omega
    subst this
    rw [part_all] at hHN
    refine ⟨H, ?_, hHN, hro⟩
    have h1 : ¬ ((s.length : Int) + 1 ≤ s.length) := by omega
    rw [L]; simp [fn14B0, h1]
  | succ d ih =>
    intro k H hk hHC hHN hro
    have hks : k ≤ s.length := by omega
    have h1 : (k : Int) ≤ s.length := by omega
    have w1 : IntKind.i64.wrap ((k : Int) + 1) = k + 1 := by rw [IntKind.wrap_i64]; omega
    have hNl : N < H.length := (List.getElem?_eq_some_iff.1 hHN).1
    have rC := full_at (q := q) hks
    have rN := part_at (q := q ++ [c]) (k := k) hks
    have lN : k < (part (q ++ [c]) s k).length := by rw [part_len]; omega
    have hCN : (H.set N { rows := part (q ++ [c]) s (k + 1) })[C]? = some { rows := full q s } := by rw [List.getElem?_set_ne (fun e => hne e.symm)]; exact hHC
    obtain ⟨H', hr, hrN, hrl⟩ := ih (k + 1) (H.set N { rows := part (q ++ [c]) s (k + 1) }) (by omega) hCN (List.getElem?_set_self hNl) (by simpa using hro)
    push_cast at hr
    refine ⟨H', ?_, hrN, hrl⟩
    by_cases h42 : c = 42
    · rw [← part_set hks] at hr
      subst h42
      rw [L]
      cases k with
      | zero =>
        have wz : IntKind.i64.wrap 1 = 1 := by decide
        have ev : gm (q ++ [42]) (s.take 0) = gm q (s.take 0) := by simp [gm_row_star0]
        rw [ev] at hr
        simp only [Int.natCast_zero, Nat.zero_add] at hr
        cases e : gm q (s.take 0)
        · rw [e] at hr rC
          simp at hr
          simp [-getElem?_pos, fn14B0, hc, hi, hi1, full_wid, full_len, part_wid, part_len, hHC, hHN, rC, rN, lN, hN, wz, hr]
        · rw [e] at hr rC
          simp at hr
          simp [-getElem?_pos, fn14B0, hc, hi, hi1, full_wid, full_len, part_wid, part_len, hHC, hHN, rC, rN, lN, hN, wz, hr]
      | succ j =>
        have ev := pre_star rfl q (s := s) (k := j) (by omega)
        rw [ev] at hr
        have rN' := part_at (q := q ++ [42]) (s := s) (k := j + 1) (j := j) (by omega)
        have w2 : IntKind.i64.wrap ((j : Int) + 1 - 1) = j := by rw [IntKind.wrap_i64]; omega
        have w3 : IntKind.i64.wrap (j : Int) = j := by rw [IntKind.wrap_i64]; omega
        have p1 : (0 : Int) < (j : Int) + 1 := by omega
        have p0 : (0 : Int) ≤ (j : Int) + 1 := by omega
        have pj : j < s.length := by omega
        have pj1 : (j : Int) < s.length + 1 := by omega
        simp at rN'
        push_cast at hr w1 h1
        cases e : gm q (s.take (j + 1))
        · rw [e] at hr rC
          simp at hr
          simp [-getElem?_pos, fn14B0, hc, hi, hi1, full_wid, full_len, part_wid, part_len, hHC, hHN, rC, rN, rN', lN, hN, h1, p0, pj, pj1, w1, w2, w3, p1, hr]
        · rw [e] at hr rC
          simp at hr
          simp [-getElem?_pos, fn14B0, hc, hi, hi1, full_wid, full_len, part_wid, part_len, hHC, hHN, rC, rN, rN', lN, hN, h1, p0, pj, pj1, w1, w2, w3, p1, hr]
    · rw [L]
      have skip : gm (q ++ [c]) (s.take k) = false → H.set N { rows := part (q ++ [c]) s (k + 1) } = H := fun h => by rw [← part_skip hks h, set_same hHN]
      cases k with
      | zero =>
        have wz : IntKind.i64.wrap 1 = 1 := by decide
        rw [skip (by simp [gm_row_char0 h42])] at hr
        simp at hr
        simp [-getElem?_pos, fn14B0, hc, hi, hi1, b42, h42, full_wid, full_len, part_wid, part_len, hHC, hHN, wz, hr]
      | succ j =>
        have pj : j < s.length := by omega
        have pj1 : (j : Int) < s.length + 1 := by omega
        have pj2 : (j : Int) < s.length := by omega
        have p1 : (0 : Int) < (j : Int) + 1 := by omega
        have p0 : (0 : Int) ≤ (j : Int) + 1 := by omega
        have w2 : IntKind.i64.wrap ((j : Int) + 1 - 1) = j := by rw [IntKind.wrap_i64]; omega
        have w3 : IntKind.i64.wrap (j : Int) = j := by rw [IntKind.wrap_i64]; omega
        push_cast at w1 h1
        obtain ⟨b, hb⟩ : ∃ b, s[j]? = some b := ⟨_, List.getElem?_eq_getElem pj⟩
        have rC' := full_at (q := q) (s := s) (j := j) (by omega)
        have ev : gm (q ++ [c]) (s.take (j + 1)) = (gm q (s.take j) && fits1 c b) := by rw [Vs.take_cons hb, gm_row_char h42]
        cases e : gm q (s.take j)
        · rw [skip (by rw [ev, e]; rfl)] at hr
          rw [e] at rC'
          push_cast at hr
          simp [-getElem?_pos, fn14B0, hc, hi, hi1, b42, h42, full_wid, full_len, part_wid, part_len, hHC, hHN, rC', h1, p0, pj, pj1, pj2, w1, w2, w3, p1, hr]
        · rw [e] at rC'
          rw [← part_set hks, ev, e, Bool.true_and] at hr
          push_cast at hr
          unfold fits1 at hr
          by_cases h63 : c = 63
          · subst h63
            simp at hr
            simp [-getElem?_pos, fn14B0, hc, hi, hi1, full_wid, full_len, part_wid, part_len, hHC, hHN, rC', rN, lN, hN, h1, p0, pj, pj1, pj2, w1, w2, w3, p1, hr]
          · have e63 : (c == 63) = false := by simpa using h63
            rw [e63, Bool.false_or, show (c == b) = decide (c = b) by rw [Bool.eq_iff_iff]; simp] at hr
            simp [-getElem?_pos, fn14B0, hc, hi, hi1, b42, b63, h42, h63, hb, u8_eq, full_wid, full_len, part_wid, part_len, hHC, hHN, rC', rN, lN, hN, h1, p0, pj, pj1, pj2, w1, w2, w3, p1, hr]

theorem outer {p s : List UInt8} (hp : p.length ≤ 9223372036854775807) (hs : s.length ≤ 140737488351232) : ∀ (d i : Nat) (H : Hp) (C : Nat), i + d = p.length → H[C]? = some { rows := full (p.take i) s } → ro ≤ C →
    ∃ e' H' C', runW pg ro fn14L1 [(0, .str (bs p)), (1, .str (bs s)), (5, .arr C 0 0 (s.length + 1) (s.length + 1) true), (6, .int .i64 i)] H = some (.exit 0, e', H') ∧ get e' 1 = .str (bs s) ∧ get e' 5 = .arr C' 0 0 (s.length + 1) (s.length + 1) true ∧
      H'[C']? = some { rows := full p s } := by
  have L : ∀ e H, runW pg ro fn14L1 e H = seqO pg ro fn14L1 (runW pg ro fn14B1 (keepE [0, 1, 5, 6] e) H) := fun e H => runW_loopO
  intro d
  induction d with
  | zero =>
    intro i H C hi hC hro
    have : i = p.length := by omega
    subst this
    rw [List.take_length] at hC
    refine ⟨[(0, .str (bs p)), (1, .str (bs s)), (5, .arr C 0 0 (s.length + 1) (s.length + 1) true), (6, .int .i64 p.length), (18, .bool false)], H, C, ?_, rfl, rfl, hC⟩
    rw [L]; simp [fn14B1]
  | succ d ih =>
    intro i H C hi hC hro
    have h2 : i < p.length := by omega
    have h1 : (i : Int) < p.length := by omega
    have w1 : IntKind.i64.wrap ((i : Int) + 1) = i + 1 := by rw [IntKind.wrap_i64]; omega
    have w2 : IntKind.i64.wrap ((s.length : Int) + 1) = s.length + 1 := by rw [IntKind.wrap_i64]; omega
    have hCl : C < H.length := (List.getElem?_eq_some_iff.1 hC).1
    obtain ⟨c, hc⟩ : ∃ c, p[i]? = some c := ⟨_, List.getElem?_eq_getElem h2⟩
    obtain ⟨H1, hr1, hN, _⟩ := inner (ro := ro) hc hp hs (C := C) (N := H.length) hro (by omega) (by omega) (q := p.take i) (s.length + 1) 0 (H ++ [{ rows := part (p.take i ++ [c]) s 0 }]) (by omega)
      (by rw [List.getElem?_append_left hCl]; exact hC) (by simp) (by simp; omega)
    rw [part_zero] at hr1
    rw [← Vs.take_cons hc] at hN
    obtain ⟨e', H', C', hr, g1, g5, hC'⟩ := ih (i + 1) H1 H.length (by omega) hN (by omega)
    push_cast at hr hr1
    have rm : s.length + 1 ≤ room := by simp only [room]; omega
    have p0 : (0 : Int) ≤ (s.length : Int) + 1 := by omega
    have tn : ((s.length : Int) + 1).toNat = s.length + 1 := by omega
    refine ⟨e', H', C', ?_, g1, g5, hC'⟩
    rw [L]
    simp [fn14B1, h1, w1, w2, p0, tn, rm, hr1, hr]
end Tab

theorem ref_glob_2 {p s : List UInt8} (hp : p.length ≤ 9223372036854775807) (hs : s.length ≤ 140737488351232) : doCall (callW pg) ro 2 (.fn 14 []) [.str (bs p), .str (bs s)] H = some (.bool (gm p s), H) := by
  have h : ∃ H', callW pg H.length 14 [.str (bs p), .str (bs s)] H = some (.bool (gm p s), H') := by
    have w2 : IntKind.i64.wrap ((s.length : Int) + 1) = s.length + 1 := by rw [IntKind.wrap_i64]; omega
    have rm : s.length + 1 ≤ room := by simp only [room]; omega
    have p0 : (0 : Int) ≤ (s.length : Int) + 1 := by omega
    have pl : (0 : Int) < (s.length : Int) + 1 := by omega
    have tn : ((s.length : Int) + 1).toNat = s.length + 1 := by omega
    have ll : (s.length : Int) < s.length + 1 := by omega
    have hw0 : szOk 1 (List.replicate (s.length + 1) [IV.bool false]) = true := szOk_all fun r hr => by rw [List.eq_of_mem_replicate hr]; rfl
    have e0 : (List.replicate (s.length + 1) [IV.bool false]).set 0 [.bool true] = Tab.full [] s := by
      apply List.ext_getElem?
      intro j
      by_cases h : j ≤ s.length
      · rw [Tab.full_at h]
        cases j with
        | zero => rw [List.getElem?_set_self (by simp)]; simp [gm_nil]
        | succ j =>
          rw [List.getElem?_set_ne (by omega), List.getElem?_replicate, if_pos (by omega)]
          obtain ⟨b, t, rfl⟩ : ∃ b t, s = b :: t := by cases s with | nil => simp at h | cons b t => exact ⟨b, t, rfl⟩
          simp [gm_nil]
      · rw [List.getElem?_eq_none (by simp; omega), List.getElem?_eq_none (by rw [Tab.full_len]; omega)]
    obtain ⟨e', H', C', hr, g1, g5, hC⟩ := Tab.outer (ro := H.length) hp hs p.length 0 (H ++ [{ rows := Tab.full [] s }]) H.length (by omega) (by simp) (Nat.le_refl _)
    have hf := Tab.full_at (q := p) (s := s) (j := s.length) (Nat.le_refl _)
    rw [List.take_length] at hf
    rw [callW_eqO (fn := fn14) rfl rfl]
    simp only [Int.natCast_zero] at hr
    refine ⟨H', ?_⟩
    simp [-getElem?_pos, -List.set_replicate_self, fn14, w2, rm, p0, tn, e0, hw0, ll, hr, g1, g5, hC, Tab.full_wid, Tab.full_len, hf, pl]
  obtain ⟨H', h⟩ := h
  exact call2p h rfl rfl
end Go.Proofs.YtpmgmepanbdfpaaDoor
