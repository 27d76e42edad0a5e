import Derived.Test.YtinmpfflkcnkfaaTl8
/- Parts of a set of pairs: those of some names, those of others. -/
namespace Go.Proofs.Ytinmpfflkcnkfaa
open Go Go.Vs
variable {ro : Nat} {H : Hp}

def strow (n : List UInt8) : List IV := [.str (bs n)]

theorem has_loop {A : IV} {N : List (List UInt8)} {n : List UInt8} (hA : SlA A 1 (N.map strow)) (hl : N.length < 9223372036854775807) : ∀ (d i : Nat), i + d = N.length →
    (n ∈ N.drop i ∧ ∃ j : Nat, runW pg ro fn75L0 [(0, A), (1, .str (bs n)), (7, .int .i64 N.length), (8, .int .i64 i)] H = some (.ret, [(4, .int .i64 j)], H)) ∨
    (n ∉ N.drop i ∧ ∃ e', runW pg ro fn75L0 [(0, A), (1, .str (bs n)), (7, .int .i64 N.length), (8, .int .i64 i)] H = some (.exit 0, e', H)) := by
  have L : ∀ e H, runW pg ro fn75L0 e H = seqO pg ro fn75L0 (runW pg ro fn75B0 (keepE [0, 1, 7, 8] e) H) := fun e H => runW_loopO
  intro d
  induction d with
  | zero =>
    intro i hi
    have : i = N.length := by omega
    subst this
    refine .inr ⟨by simp, [(0, A), (1, .str (bs n)), (7, .int .i64 N.length), (8, .int .i64 N.length), (9, .bool false)], ?_⟩
    rw [L]; simp [fn75B0]
  | succ d ih =>
    intro i hi
    have h2 : i < N.length := by omega
    have h1 : (i : Int) < N.length := by omega
    have w1 : IntKind.i64.wrap ((i : Int) + 1) = i + 1 := by rw [IntKind.wrap_i64]; omega
    obtain ⟨x, hx⟩ : ∃ x, N[i]? = some x := ⟨_, List.getElem?_eq_getElem h2⟩
    have hdr : N.drop i = x :: N.drop (i + 1) := by
      have := List.drop_eq_getElem_cons h2
      rw [this]; congr 1
      rw [List.getElem?_eq_getElem h2] at hx; exact Option.some.inj hx
    have hidx := fun H => hA.idx H i (by simp; omega)
    rw [hdr]
    by_cases c : n = x
    · refine .inl ⟨by simp [c], i, ?_⟩
      rw [L]
      simp [-getElem?_pos, fn75B0, h1, hidx, hx, strow, c]
    · have cb : (n == x) = false := by simpa using c
      have step : runW pg ro fn75L0 [(0, A), (1, .str (bs n)), (7, .int .i64 N.length), (8, .int .i64 i)] H = runW pg ro fn75L0 [(0, A), (1, .str (bs n)), (7, .int .i64 N.length), (8, .int .i64 (i + 1))] H := by
        rw [L]
        simp [-getElem?_pos, fn75B0, h1, hidx, hx, strow, cb, w1]
      rw [step]
      rcases ih (i + 1) (by omega) with ⟨h3, h4⟩ | ⟨h3, h4⟩
      · push_cast at h4
        exact .inl ⟨List.mem_cons_of_mem _ h3, h4⟩
      · push_cast at h4
        exact .inr ⟨by simp only [List.mem_cons, not_or]; exact ⟨c, h3⟩, h4⟩

theorem has_2 {A : IV} {N : List (List UInt8)} {n : List UInt8} (hA : SlA A 1 (N.map strow)) (hl : N.length < 9223372036854775807) :
    doCall (callW pg) ro 2 (.fn 55 []) [A, .str (bs n)] H = some (.bool (decide (n ∈ N)), H) := by
  have hlen := hA.len
  rw [List.length_map] at hlen
  have h75 : ∀ ro H, ∃ z : Int, doCall (callW pg) ro 2 (.fn 75 []) [A, .str (bs n)] H = some (.int .i64 z, H) ∧ decide (0 ≤ z) = decide (n ∈ N) := by
    intro ro H
    rcases has_loop (ro := H.length) (H := H) (n := n) hA hl N.length 0 (by omega) with ⟨h, j, hr⟩ | ⟨h, e', hr⟩
    · rw [List.drop_zero] at h
      simp at hr
      refine ⟨j, call2 (H2 := H) (args' := [A, .str (bs n)]) (by simp [SlA.self hA]) ?_ rfl (.inl rfl), by simp [h]⟩
      rw [callW_eqO (fn := fn75) rfl rfl]
      simp [-getElem?_pos, fn75, hlen, hr]
    · rw [List.drop_zero] at h
      simp at hr
      refine ⟨-1, call2 (H2 := H) (args' := [A, .str (bs n)]) (by simp [SlA.self hA]) ?_ rfl (.inl rfl), by simp [h]⟩
      rw [callW_eqO (fn := fn75) rfl rfl]
      simp [-getElem?_pos, fn75, hlen, hr]
  refine call2 (H2 := H) (args' := [A, .str (bs n)]) (by simp [SlA.self hA]) ?_ rfl (.inl rfl)
  obtain ⟨z, h1, h2⟩ := h75 H.length H
  rw [callW_eqO (fn := fn55) rfl rfl]
  simp [-getElem?_pos, fn55, h1, h2]

/-! the closures -/
/-- One that tells of names, told the names in a box. -/
def So (f : Nat) (N : IV) (so : List UInt8 → Bool) : Prop :=
  ∀ (ro : Nat) (H : Hp) (d : Nat) (n : List UInt8), H[d]? = some { rows := [[N]] } → doCall (callW pg) ro 2 (.fn f [.ptr d 0 0 0]) [.str (bs n)] H = some (.bool (so n), H)

def nmL : List UInt8 := [95, 95, 110, 97, 109, 101, 95, 95]
theorem keep_so {N : IV} {names : List (List UInt8)} (hN : SlA N 1 (names.map strow)) (hl : names.length < 9223372036854775807) : So 54 N fun n => decide (n ∈ names) := by
  intro ro H d n hd
  refine call2 (H2 := H) (args' := [.str (bs n), .ptr d 0 0 0]) rfl ?_ rfl (.inl rfl)
  have h := fun ro => has_2 (ro := ro) (H := H) (n := n) hN hl
  rw [callW_eqO (fn := fn54) rfl rfl]
  simp [-getElem?_pos, fn54, blkAt_eq, hd, h]
theorem without_so {N : IV} {names : List (List UInt8)} (hN : SlA N 1 (names.map strow)) (hl : names.length < 9223372036854775807) : So 56 N fun n => !(n == nmL) && !decide (n ∈ names) := by
  intro ro H d n hd
  refine call2 (H2 := H) (args' := [.str (bs n), .ptr d 0 0 0]) rfl ?_ rfl (.inl rfl)
  have h := fun ro => has_2 (ro := ro) (H := H) (n := n) hN hl
  have hs : (IV.str ⟨#[95, 95, 110, 97, 109, 101, 95, 95]⟩) = .str (bs nmL) := rfl
  rw [callW_eqO (fn := fn56) rfl rfl]
  cases c : n == nmL
  · simp [-getElem?_pos, fn56, blkAt_eq, hd, h, hs, c]
  · simp [-getElem?_pos, fn56, hs, c]

theorem so_fn {f : Nat} {N : IV} {so : List UInt8 → Bool} (h : So f N so) {c d : Nat} :
    FnOk (fun H => H[c]? = some { rows := [[.fn f [.ptr d 0 0 0]]] } ∧ H[d]? = some { rows := [[N]] }) (.fn 74 [.ptr c 0 0 0]) fun p => !so p.1 := by
  refine ⟨fun ro H p hC => ?_, fun H Y hC => ?_, fun H => rfl⟩
  · obtain ⟨h1, h2⟩ := hC
    have hb : ∃ H', callW pg H.length 74 [.agg (prow p), .ptr c 0 0 0] H = some (.bool (!so p.1), H') := by
      refine ⟨H ++ [{ rows := [prow p] }], ?_⟩
      have g1 : (H ++ [{ rows := [prow p] }])[c]? = some { rows := [[.fn f [.ptr d 0 0 0]]] } := by rw [List.getElem?_append_left (List.getElem?_eq_some_iff.1 h1).1]; exact h1
      have g2 : (H ++ [{ rows := [prow p] }])[d]? = some { rows := [[N]] } := by rw [List.getElem?_append_left (List.getElem?_eq_some_iff.1 h2).1]; exact h2
      have h3 := fun ro => h ro (H ++ [{ rows := [prow p] }]) d p.1 g2
      have hlt : c < H.length := (List.getElem?_eq_some_iff.1 h1).1
      rw [callW_eqO (fn := fn74) rfl rfl]
      unfold prow at h3 g1 ⊢
      simp [-getElem?_pos, fn74, blkAt_eq, g1, h3]
    obtain ⟨H', hb⟩ := hb
    exact call2 (args' := [.agg (prow p), .ptr c 0 0 0]) rfl hb rfl (.inl rfl)
  · obtain ⟨h1, h2⟩ := hC
    exact ⟨by rw [List.getElem?_append_left (List.getElem?_eq_some_iff.1 h1).1]; exact h1, by rw [List.getElem?_append_left (List.getElem?_eq_some_iff.1 h2).1]; exact h2⟩

def part (so : List UInt8 → Bool) (l : List Pr) : List Pr := l.filter fun x => so x.1

theorem part_b {f g : Nat} (hf : f = 23 ∧ g = 54 ∨ f = 24 ∧ g = 56) {A N : IV} {l : List Pr} {so : List UInt8 → Bool} (hso : So g N so) (hA : SlA A 2 (l.map prow)) (hl : l.length ≤ 1000) (hNc : cellsO N = some [N]) :
    ∃ v' H', callW pg H.length f [A, N] H = some (v', H') ∧ Sq H' v' 2 ((part so l).map prow) ∧ ∀ b ∈ blkS v', H.length ≤ b := by
  have h53 : ∃ v' H', callW pg H.length 53 [A, .fn g [.ptr H.length 0 0 0]] (H ++ [{ rows := [[N]] }]) = some (v', H') ∧ Sq H' v' 2 ((part so l).map prow) ∧ ∀ b ∈ blkS v', H.length ≤ b := by
    obtain ⟨v1, Y, c1, c2, c3⟩ := cloneR_c (ro := H.length) (H := H ++ [{ rows := [[N]] }, { rows := [[.fn g [.ptr H.length 0 0 0]]] }]) hA hl
    have hd1 : (H ++ [{ rows := [[N]] }, { rows := [[.fn g [.ptr H.length 0 0 0]]] }])[H.length]? = some { rows := [[N]] } := by simp
    have hd2 : (H ++ [{ rows := [[N]] }, { rows := [[.fn g [.ptr H.length 0 0 0]]] }])[H.length + 1]? = some { rows := [[.fn g [.ptr H.length 0 0 0]]] } := by simp
    have hC : (fun H2 : Hp => H2[H.length + 1]? = some { rows := [[.fn g [.ptr H.length 0 0 0]]] } ∧ H2[H.length]? = some { rows := [[N]] }) (H ++ [{ rows := [[N]] }, { rows := [[.fn g [.ptr H.length 0 0 0]]] }] ++ Y) :=
      ⟨by rw [List.getElem?_append_left (by simp)]; exact hd2, by rw [List.getElem?_append_left (by simp)]; exact hd1⟩
    obtain ⟨v2, G2, d1, d2, d3, d4, d5⟩ := delete_c (ro := H.length) c2 hl (so_fn hso (c := H.length + 1) (d := H.length)) hC (fun b hb => by have := c3 b hb; simp at this; omega)
      (fun G b B hb hG => by
        have := c3 b hb
        simp at this
        exact ⟨by rw [List.getElem?_set_ne (by omega)]; exact hG.1, by rw [List.getElem?_set_ne (by omega)]; exact hG.2⟩) (by simp)
    refine ⟨v2, G2, ?_, ?_, fun b hb => by rw [d3] at hb; have := c3 b hb; simp at this; omega⟩
    · have hcf : cellsO (.fn g [.ptr H.length 0 0 0]) = some [.fn g [.ptr H.length 0 0 0]] := rfl
      simp at c1 d1
      rw [callW_eqO (fn := fn53) rfl rfl]
      simp [-getElem?_pos, fn53, hcf, c1, d1]
    · have e : kept (fun p => !so p.1) l = part so l := by simp [kept, part]
      rw [e] at d2
      exact d2
  obtain ⟨v', H', h1, h2, h3⟩ := h53
  refine ⟨v', H', ?_, h2, h3⟩
  rcases hf with ⟨rfl, rfl⟩ | ⟨rfl, rfl⟩
  · rw [callW_eqO (fn := fn23) rfl rfl]
    simp [-getElem?_pos, fn23, hNc, h1]
  · rw [callW_eqO (fn := fn24) rfl rfl]
    simp [-getElem?_pos, fn24, hNc, h1]
end Go.Proofs.Ytinmpfflkcnkfaa
