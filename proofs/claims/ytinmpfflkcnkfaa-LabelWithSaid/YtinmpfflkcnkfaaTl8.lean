import Derived.Test.YtinmpfflkcnkfaaTl7
/- The law 'LabelSorted'. -/
namespace Go.Proofs.Ytinmpfflkcnkfaa
open Go Go.Vs
variable {ro : Nat} {H : Hp}

theorem strict_of : ∀ {l : List Pr}, List.Pairwise (fun a b => cN a b ≤ 0) l → dupA l = false → List.Pairwise (fun a b => cN a b < 0) l
  | [], _, _ => .nil
  | [a], _, _ => by simp
  | a :: b :: r, h, hd => by
    simp only [dupA, Bool.or_eq_false_iff] at hd
    have h2 := List.pairwise_cons.1 h
    have ih := strict_of h2.2 hd.2
    have hab : cN a b < 0 := by
      have h3 := h2.1 b (List.mem_cons_self ..)
      have h4 : cN a b ≠ 0 := fun e => by
        have := (cmpL_3.eq0 a.1 b.1).1 e
        simp [this] at hd
      omega
    refine List.pairwise_cons.2 ⟨fun c hc => ?_, ih⟩
    rcases List.mem_cons.1 hc with rfl | hc
    · exact hab
    · have h5 := (List.pairwise_cons.1 h2.2).1 c hc
      exact cmpL_3.lt_trans hab h5
theorem dup_of : ∀ {l : List Pr}, List.Pairwise (fun a b => cN a b < 0) l → dupA l = false
  | [], _ => rfl
  | [_], _ => rfl
  | a :: b :: r, h => by
    have h2 := List.pairwise_cons.1 h
    simp only [dupA, Bool.or_eq_false_iff]
    refine ⟨?_, dup_of h2.2⟩
    have h3 := h2.1 b (List.mem_cons_self ..)
    cases hq : a.1 == b.1
    · rfl
    · have e : a.1 = b.1 := by simpa using hq
      have : cN a b = 0 := (cmpL_3.eq0 a.1 b.1).2 e
      omega
theorem mkS_sorted (p : List Pr) : List.Pairwise (fun a b => cN a b ≤ 0) (mkS p) := isort_sorted cN_anti cN_trans p

theorem mkS_same {p q : List Pr} (h : List.Perm p q) (hd : dupA (mkS p) = false) : mkS p = mkS q := by
  have h1 := strict_of (mkS_sorted p) hd
  have h2 : List.Pairwise (fun a b => cN a b ≠ 0) p :=
    (isort_perm p).pairwise (h1.imp fun {a b} h => by omega) fun {x y} hxy hyx => hxy (by have := cN_anti x y; omega)
  exact isort_unique cN_anti cN_trans h h2
theorem mk_same {p q : List Pr} (h : List.Perm p q) : mkE p = mkE q ∧ mkL p = mkL q := by
  cases hp : dupA (mkS p)
  · have e := mkS_same h hp
    have e2 : mkE p = mkE q := by unfold mkE mkD; rw [e]
    refine ⟨e2, ?_⟩
    unfold mkL mkD
    rw [e2, e]
  · cases hq : dupA (mkS q)
    · have e := mkS_same h.symm hq
      rw [← e, hq] at hp; cases hp
    · have e1 : mkE p = 31 := by simp [mkE, hp]
      have e2 : mkE q = 31 := by simp [mkE, hq]
      simp [mkL, e1, e2]

theorem get_mem : ∀ {l : List Pr}, List.Pairwise (fun a b => cN a b < 0) l → ∀ {x : Pr}, x ∈ l → getB x.1 l = x.2
  | [], _, _, h => by cases h
  | a :: r, hp, x, h => by
    have h2 := List.pairwise_cons.1 hp
    simp only [getB]
    rcases List.mem_cons.1 h with rfl | h
    · rw [if_pos rfl]
    · rw [if_neg fun e => by
        have h3 := h2.1 x h
        have : cN a x = 0 := (cmpL_3.eq0 a.1 x.1).2 e
        omega]
      exact get_mem h2.2 h
theorem get_not : ∀ {l : List Pr} {n : List UInt8}, (∀ y ∈ l, y.1 ≠ n) → getB n l = []
  | [], _, _ => rfl
  | a :: r, n, h => by
    simp only [getB]
    rw [if_neg (h a (List.mem_cons_self ..))]
    exact get_not fun y hy => h y (List.mem_cons_of_mem _ hy)

theorem mk_get {p : List Pr} (he : mkE p = 0) {x : Pr} (hx : x ∈ p) : getB x.1 (mkL p) = x.2 := by
  have hd : dupA (mkS p) = false := by
    cases h : dupA (mkS p)
    · rfl
    · simp [mkE, h] at he
  have hs := strict_of (mkS_sorted p) hd
  have hl : mkL p = mkD p := by simp [mkL, he]
  rw [hl]
  cases hv : noV x
  · exact get_mem (hs.sublist List.filter_sublist) (mkD_mem.2 ⟨hx, hv⟩)
  · have e2 : x.2 = [] := by simpa [noV] using hv
    rw [e2]
    refine get_not fun y hy e => ?_
    obtain ⟨hy1, hy2⟩ := mkD_mem.1 hy
    have h1 := get_mem hs (mkS_mem.2 hx)
    have h2 := get_mem hs (mkS_mem.2 hy1)
    rw [e] at h2
    have : y.2 = [] := by rw [← h2, h1, e2]
    simp [noV, this] at hy2
theorem mk_is {p : List Pr} (he : mkE p = 0) : isB (mkL p) = true := by
  have hl : mkL p = mkD p := by simp [mkL, he]
  rw [hl]
  cases h : isB (mkD p)
  · unfold mkE at he
    rw [h] at he
    split at he <;> simp at he
  · rfl
theorem mkL_mem {p : List Pr} {x : Pr} (h : x ∈ mkL p) : x ∈ p := by
  unfold mkL at h
  split at h
  · exact (mkD_mem.1 h).1
  · cases h
theorem mkL_len {p : List Pr} (h : p.length ≤ 20) : (mkL p).length ≤ 20 := by
  unfold mkL
  split
  · exact Nat.le_trans (List.length_filter_le _ _) (by rw [mkS_len]; exact h)
  · simp

namespace Sor
theorem get_loop {A B : IV} {p : List Pr} (hA : SlA A 2 (p.map prow)) (hB : SlA B 2 ((mkL p).map prow)) (hp : p.length ≤ 20) (he : mkE p = 0) : ∀ (d i : Nat), i + d = p.length →
    ∃ e', runW pg ro fn6L0 [(0, A), (6, B), (7, .int .i64 0), (10, .int .i64 i)] H = some (.exit 0, e', H) ∧ get e' 6 = B ∧ get e' 7 = .int .i64 0 := by
  have L : ∀ e, runW pg ro fn6L0 e H = seqO pg ro fn6L0 (runW pg ro fn6B0 (keepE [0, 6, 7, 10] e) H) := fun e => runW_loopO
  have hlen := hA.len
  rw [List.length_map] at hlen
  intro d
  induction d with
  | zero =>
    intro i hi
    have : i = p.length := by omega
    subst this
    refine ⟨[(0, A), (6, B), (7, .int .i64 0), (10, .int .i64 p.length), (58, .bool false)], ?_, rfl, rfl⟩
    rw [L]; simp [fn6B0, hlen]
  | succ d ih =>
    intro i hi
    have h2 : i < p.length := by omega
    have h1 : (i : Int) < p.length := by omega
    have w1 : IntKind.i64.wrap ((i : Int) + 1) = i + 1 := by rw [IntKind.wrap_i64]; omega
    obtain ⟨x, hx⟩ : ∃ x, p[i]? = some x := ⟨_, List.getElem?_eq_getElem h2⟩
    have hidx := hA.idx H i (by simp; omega)
    have hg := get_2 (ro := ro) (H := H) (A := B) (l := mkL p) (n := x.1) (by rw [SlA.self hB]; exact hB) (by have := mkL_len hp; omega)
    rw [mk_get he (List.mem_of_getElem? hx)] at hg
    obtain ⟨e', hr, h3⟩ := ih (i + 1) (by omega)
    push_cast at hr
    refine ⟨e', ?_, h3⟩
    rw [L]
    simp [-getElem?_pos, fn6B0, hlen, h1, hidx, hx, prow, hg, w1, hr]

theorem law {A : IV} {p : List Pr} (hA : SlA A 2 (p.map prow)) (hp : p.length < 9223372036854775807) {t : Int} (ht : 0 ≤ t ∧ t < 256) : ∃ H', callW pg 0 6 [A, .int .u8 t] [] = some (.bool true, H') := by
  have hlen := hA.len
  rw [List.length_map] at hlen
  refine ex_of_map ?_
  rw [callW_eqO (fn := fn6) rfl rfl]
  have b1 := big_2 (ro := 0) (H := []) hA hp
  by_cases c1 : bigB p = true
  · simp [fn6, known_2, b1, c1]
  have c1' : bigB p = false := by simpa using c1
  obtain ⟨hp20, hshort⟩ := bigB_false c1'
  have hs : Short p := fun x hx => by have := hshort x hx; omega
  by_cases c0 : p.length = 0
  · simp [fn6, known_2, b1, c1', hlen, c0]
  have c0' : ¬ (p.length : Int) = 0 := by omega
  have hpos : 0 < p.length := by omega
  have c0'' : p ≠ [] := fun e => c0 (by rw [e]; rfl)
  obtain ⟨f, rfl⟩ : ∃ f, A = .imm (p.map prow) f := by
    rcases hA.imm with ⟨_, h⟩ | h
    · simp at h; exact absurd h c0''
    · exact h
  have wt : IntKind.i64.wrap t = t := by rw [IntKind.wrap_i64]; omega
  obtain ⟨k, hk⟩ : ∃ k : Nat, (k : Int) = t % p.length := ⟨(t % (p.length : Int)).toNat, by have := Int.emod_nonneg t c0'; omega⟩
  have hkl : k < p.length := by have := Int.emod_lt_of_pos t (show (0 : Int) < p.length by omega); omega
  have hrem : binV .rem (.int .i64 t) (.int .i64 p.length) = some (.int .i64 k) := by rw [bin_rem c0', Int.tmod_eq_emod_of_nonneg ht.1, hk]
  obtain ⟨vi, m1, s1⟩ := make_1i (ro := 0) (H := []) hA hp20 hs
  -- the other order
  obtain ⟨q, hq⟩ : ∃ q, q = p.drop k ++ p.take k := ⟨_, rfl⟩
  have hperm : List.Perm q p := by
    rw [hq]
    exact List.perm_append_comm.trans (by rw [List.take_append_drop])
  have hql : q.length = p.length := hperm.length_eq
  have hrow2 : ∀ (Z : List Pr), szOk 2 (Z.map prow) = true := fun Z => szOk_all fun r hr => by
    obtain ⟨x, _, rfl⟩ := List.mem_map.1 hr; rfl
  have hz0 : szOk 2 (List.map prow p) = true := hrow2 _
  have hz1 : szOk 2 (List.drop k (List.map prow p)) = true := by rw [← List.map_drop]; exact hrow2 _
  have hz2 : szOk 2 (List.take k (List.map prow p)) = true := by rw [← List.map_take]; exact hrow2 _
  have eM : List.drop k (List.map prow p) ++ List.take k (List.map prow p) = q.map prow := by rw [hq, List.map_append, List.map_drop, List.map_take]
  have eR1 : List.take (p.length - k) (List.drop k (List.map prow p)) = List.drop k (p.map prow) := List.take_of_length_le (by simp)
  have hkn : k ≤ p.length := by omega
  obtain ⟨g, a2⟩ : ∃ g, ∀ f2, appV 0 [{ rows := List.drop k (List.map prow p) }] 2 32 (.arr 0 0 0 (p.length - k) (p.length - k) false) (.imm (List.take k (List.map prow p)) f2) =
      some (.arr 0 g 0 q.length q.length false, [{ rows := q.map prow, gen := g }]) := by
    by_cases hk0 : k = 0
    · subst hk0
      refine ⟨0, fun f2 => ?_⟩
      have : q = p := by rw [hq]; simp
      rw [this]
      simp [-getElem?_pos, appV, blkAt_eq, hrow2]
    · refine ⟨1, fun f2 => ?_⟩
      have r2 : ¬ (p.length - k + min k p.length ≤ p.length - k) := by omega
      have r3 : p.length - k + min k p.length = p.length := by omega
      have r4 : min k p.length ≠ 0 := by omega
      have r5 : 0 < p.length - k := by omega
      have r6 : p.length * 32 ≤ room := by simp only [room]; omega
      have r7 : ¬ p.length ≤ p.length - k := by omega
      simp [-getElem?_pos, appV, blkAt_eq, hz1, hz2, r2, r3, r4, r5, r6, r7, eR1, eM, hql, hk0, c0'']
  have a1 : appV 0 [] 2 32 .nsl (.imm (List.drop k (List.map prow p)) f) = some (.arr 0 0 0 (p.length - k) (p.length - k) false, [{ rows := List.drop k (List.map prow p) }]) := by
    have r1 : (p.length - k) * 32 ≤ room := by simp only [room]; omega
    have r2 : ¬ p.length ≤ k := by omega
    have r3 : ¬ p.length - k = 0 := by omega
    simp [-getElem?_pos, appV, newArr, hz1, r1, r2, r3]
  obtain ⟨vj, H2, m2, s2, l2, _⟩ := make_1a (ro := 0) (H := [{ rows := q.map prow, gen := g }]) (b := 0) (g := g) (len := q.length) (cap := q.length) (ex := false) (p := q) rfl rfl rfl rfl (by omega) (fun x hx => hs x (hperm.mem_iff.1 hx)) (Nat.zero_le _)
  obtain ⟨eE, eL⟩ := mk_same hperm
  rw [eE] at m2
  rw [eL] at s2
  have hsame := same_2 (ro := 0) (H := H2) s1 s2 (by have := mkL_len hp20; omega)
  simp at hsame
  by_cases h0 : mkE p = 0
  · obtain ⟨e', hr, q1, q2⟩ := get_loop (ro := 0) (H := H2) hA s1 hp20 h0 p.length 0 (by omega)
    have his := is_2 (ro := 0) (H := H2) (A := vi) (l := mkL p) (by rw [SlA.self s1]; exact s1) (fun x hx => hs x (mkL_mem hx)) (by have := mkL_len hp20; omega)
    rw [mk_is h0] at his
    rw [h0] at m1 m2
    simp at hr
    simp [-getElem?_pos, fn6, known_2, b1, c1', c0, c0', c0'', wt, hrem, m1, hkn, hz0, eR1, a1, a2, m2, hsame, hr, q1, q2, his]
  · have L : ∀ e, runW pg 0 fn6L0 e H2 = seqO pg 0 fn6L0 (runW pg 0 fn6B0 (keepE [0, 6, 7, 10] e) H2) := fun e => runW_loopO
    simp [-getElem?_pos, fn6, known_2, b1, c1', c0, c0', c0'', wt, hrem, m1, hkn, hz0, eR1, a1, a2, m2, hsame, L, fn6B0, hpos, h0]
end Sor
theorem Sor.wf (x0 : (Ty.sl TP).den) (x1 : (Ty.int .u8).den) (_ : (Ty.sl TP).ok x0) (h1 : (Ty.int .u8).ok x1) (w0 : (Ty.sl TP).okw x0) (_ : (Ty.int .u8).okw x1) :
    ∃ H', callW pg 0 6 [(Ty.sl TP).arg x0, (Ty.int .u8).arg x1] [] = some (.bool true, H') := by
  obtain ⟨l, hA, hl⟩ := pairs_val x0 w0
  exact Sor.law hA (room_lt hl) (wf_u8 _ h1)
end Go.Proofs.Ytinmpfflkcnkfaa
