import Derived.Test.YtnfddeiegbifhaaDoorTu9
/- Many samples of one set: how many are up to a time, the last one. -/
namespace Go.Proofs.YtnfddeiegbifhaaDoor
open Go Go.Vs
variable {ro : Nat} {H : Hp}

structure Sm where
  t : Int
  o : Bool
  n : Int
def srow (x : Sm) : List IV := [.int .i64 x.t, .bool x.o, .int .i64 x.n]
def Inc (l : List Sm) : Prop := List.Pairwise (fun a b => a.t < b.t) l
def upt (n : Int) (l : List Sm) : Nat := (l.takeWhile fun x => decide (x.t ≤ n)).length
theorem upt_le (n : Int) (l : List Sm) : upt n l ≤ l.length := (List.takeWhile_prefix _).length_le
theorem upt_split {n : Int} : ∀ {l : List Sm}, Inc l → ∀ (j : Nat) (x : Sm), l[j]? = some x → (x.t ≤ n ↔ j < upt n l)
  | [], _, j, x, h => by simp at h
  | a :: l, hi, j, x, h => by
    have h2 := List.pairwise_cons.1 hi
    unfold upt
    rw [List.takeWhile_cons]
    by_cases c : a.t ≤ n
    · have ih := upt_split (n := n) h2.2
      unfold upt at ih
      simp only [c, decide_true, if_true, List.length_cons]
      cases j with
      | zero => simp at h; subst h; simp [c]
      | succ j => have := ih j x (by simpa using h); omega
    · simp only [c, decide_false, Bool.false_eq_true, if_false, List.length_nil]
      cases j with
      | zero => simp at h; subst h; simp [c]
      | succ j =>
        have := h2.1 x (List.mem_of_getElem? (i := j) (by simpa using h))
        constructor
        · intro h3; omega
        · intro h3; omega

theorem cl_g {x : Sm} {n : Int} : doCall (callW pg) ro 2 (.fn 55 []) [.agg (srow x), .int .i64 n] H = some (.int .i64 (if x.t ≤ n then -1 else 1), H) := by
  have hb : ∃ H', callW pg H.length 55 [.agg (srow x), .int .i64 n] H = some (.int .i64 (if x.t ≤ n then -1 else 1), H') := by
    refine ⟨H ++ [{ rows := [srow x] }], ?_⟩
    rw [callW_eqO (fn := fn55) rfl rfl]
    unfold srow
    by_cases h : x.t ≤ n
    · simp [-getElem?_pos, fn55, blkAt_eq, h]
    · simp [-getElem?_pos, fn55, blkAt_eq, h]
  obtain ⟨H', hb⟩ := hb
  exact call2p hb (by simp [srow, plainD, frzD]) rfl

theorem bs_g {A : IV} {l : List Sm} {n : Int} (hA : SlA A 3 (l.map srow)) (hl : l.length ≤ 1000) (hs : Inc l) : ∀ (k i j : Nat), j - i ≤ k → i ≤ upt n l → upt n l ≤ j → j ≤ l.length →
    ∃ e', runW pg ro fn54L0 [(0, A), (1, .int .i64 n), (2, .fn 55 []), (8, .int .i64 l.length), (9, .int .i64 i), (10, .int .i64 j)] H = some (.exit 0, e', H) ∧ get e' 0 = A ∧ get e' 1 = .int .i64 n ∧ get e' 2 = .fn 55 [] ∧ get e' 8 = .int .i64 l.length ∧ get e' 9 = .int .i64 (upt n l) := by
  have L : ∀ e, runW pg ro fn54L0 e H = seqO pg ro fn54L0 (runW pg ro fn54B0 (keepE [0, 1, 2, 8, 9, 10] e) H) := fun e => runW_loopO
  intro k
  induction k with
  | zero =>
    intro i j h1 h2 h3 h4
    have : i = upt n l := by omega
    subst this
    have : j = upt n l := by omega
    subst this
    refine ⟨[(0, A), (1, .int .i64 n), (2, .fn 55 []), (8, .int .i64 l.length), (9, .int .i64 (upt n l)), (10, .int .i64 (upt n l)), (17, .bool false)], ?_, rfl, rfl, rfl, rfl, rfl⟩
    rw [L]; simp [fn54B0]
  | succ k ih =>
    intro i j h1 h2 h3 h4
    by_cases hij : i < j
    · have hij' : (i : Int) < j := by omega
      obtain ⟨m, hm⟩ : ∃ m, m = (i + j) / 2 := ⟨_, rfl⟩
      have hml : m < l.length := by omega
      have w1 : IntKind.i64.wrap ((i : Int) + j) = ((i + j : Nat) : Int) := by rw [IntKind.wrap_i64]; omega
      have w2 : IntKind.u64.wrap ((i + j : Nat) : Int) = ((i + j : Nat) : Int) := by rw [IntKind.wrap_u64]; omega
      have w3 : binV .shr (.int .u64 ((i + j : Nat) : Int)) (.int .u64 1) = some (.int .u64 (m : Int)) := by
        have h2 : (2 : Int) ^ (min (1 : Int).toNat IntKind.u64.bits) = 2 := by decide
        rw [bin_shr, if_neg (by decide), h2]
        congr 2; omega
      have w4 : IntKind.i64.wrap (m : Int) = m := by rw [IntKind.wrap_i64]; omega
      have w5 : IntKind.i64.wrap ((m : Int) + 1) = m + 1 := by rw [IntKind.wrap_i64]; omega
      obtain ⟨y, hy⟩ : ∃ y, l[m]? = some y := ⟨_, List.getElem?_eq_getElem hml⟩
      have hidx := hA.idx H m (by simp; omega)
      have hb := cl_g (ro := ro) (H := H) (x := y) (n := n)
      unfold srow at hb
      push_cast at w1 w2 w3
      have hsp := upt_split (n := n) hs m y hy
      by_cases hc : y.t ≤ n
      · have hp := hsp.1 hc
        rw [if_pos hc] at hb
        obtain ⟨e', hr, h5⟩ := ih (m + 1) j (by omega) (by omega) h3 h4
        push_cast at hr
        refine ⟨e', ?_, h5⟩
        rw [L]
        simp [-getElem?_pos, fn54B0, hij', hij, w1, w2, w3, w4, hidx, hy, srow, hb, w5, hr]
      · have hp : upt n l ≤ m := by
          rcases Nat.lt_or_ge m (upt n l) with h | h
          · exact absurd (hsp.2 h) hc
          · exact h
        rw [if_neg hc] at hb
        obtain ⟨e', hr, h5⟩ := ih i m (by omega) h2 hp (by omega)
        refine ⟨e', ?_, h5⟩
        rw [L]
        simp [-getElem?_pos, fn54B0, hij', hij, w1, w2, w3, w4, hidx, hy, srow, hb, hr]
    · exact ih i j (by omega) h2 h3 h4

theorem find_g {A : IV} {l : List Sm} {n : Int} (hA : SlA A 3 (l.map srow)) (hl : l.length ≤ 1000) (hs : Inc l) : doCall (callW pg) ro 2 (.fn 54 []) [A, .int .i64 n, .fn 55 []] H = some (.tup [.int .i64 (upt n l), .bool false], H) := by
  have hlen := hA.len
  rw [List.length_map] at hlen
  have hple := upt_le n l
  refine call2 (H2 := H) (args' := [A, .int .i64 n, .fn 55 []]) (by
    have h2 : frzArg H (.fn 55 []) = .fn 55 [] := rfl
    have h3 : frzArg H (.int .i64 n) = .int .i64 n := rfl
    simp [SlA.self hA, h2, h3]) ?_ rfl (.inl rfl)
  obtain ⟨e', hr, g0, g1, g2, g8, g9⟩ := bs_g (ro := H.length) (H := H) (n := n) hA hl hs l.length 0 l.length (by omega) (Nat.zero_le _) hple (Nat.le_refl _)
  simp at hr
  rw [callW_eqO (fn := fn54) rfl rfl]
  by_cases hp : upt n l < l.length
  · obtain ⟨y, hy⟩ : ∃ y, l[upt n l]? = some y := ⟨_, List.getElem?_eq_getElem hp⟩
    have hp' : (upt n l : Int) < l.length := by omega
    have hidx := hA.idx H (upt n l) (by simp; omega)
    have hb := cl_g (ro := H.length) (H := H) (x := y) (n := n)
    have hc : ¬ y.t ≤ n := fun h => Nat.lt_irrefl _ ((upt_split hs _ y hy).1 h)
    rw [if_neg hc] at hb
    unfold srow at hb
    simp [-getElem?_pos, fn54, hlen, hr, g0, g1, g2, g8, g9, hp, hp', hidx, hy, srow, hb]
  · have hp' : ¬ (upt n l : Int) < l.length := by omega
    simp [-getElem?_pos, fn54, hlen, hr, g0, g1, g2, g8, g9, hp, hp']

/-- Samples that are frozen, or lie in the heap. -/
def SmA (H : Hp) (S : IV) (l : List Sm) : Prop := SlA (frzArg H S) 3 (l.map srow)
theorem upto_g {S : IV} {l : List Sm} {n : Int} (hS : SmA H S l) (hl : l.length ≤ 1000) (hs : Inc l) : doCall (callW pg) ro 2 (.fn 30 []) [S, .int .i64 n] H = some (.int .i64 (upt n l), H) := by
  have hb := fun ro => find_g (ro := ro) (H := H) (n := n) hS hl hs
  refine call2 (H2 := H) (args' := [frzArg H S, .int .i64 n]) (by
    have h3 : frzArg H (.int .i64 n) = .int .i64 n := rfl
    simp [h3]) ?_ rfl (.inl rfl)
  rw [callW_eqO (fn := fn30) rfl rfl]
  simp [-getElem?_pos, fn30, hb]

def zeroS : Sm := ⟨0, false, 0⟩
def lastS (n : Int) (l : List Sm) : Sm := if 0 < upt n l then (l[upt n l - 1]?).getD zeroS else zeroS
theorem last_g {S : IV} {l : List Sm} {n : Int} (hS : SmA H S l) (hl : l.length ≤ 1000) (hs : Inc l) : doCall (callW pg) ro 2 (.fn 24 []) [S, .int .i64 n] H = some (.tup [.agg (srow (lastS n l)), .bool (decide (0 < upt n l))], H) := by
  have hb : ∃ H', callW pg H.length 24 [frzArg H S, .int .i64 n] H = some (.tup [.agg (srow (lastS n l)), .bool (decide (0 < upt n l))], H') := by
    obtain ⟨A, hAe⟩ : ∃ A, A = frzArg H S := ⟨_, rfl⟩
    have hA : SlA A 3 (l.map srow) := by rw [hAe]; exact hS
    rw [← hAe]
    have hu := fun ro X => upto_g (ro := ro) (H := H ++ X) (S := A) (l := l) (n := n) (by unfold SmA; rw [SlA.self hA]; exact hA) hl hs
    have hle := upt_le n l
    refine ⟨H ++ [{ rows := [srow (lastS n l)] }], ?_⟩
    rw [callW_eqO (fn := fn24) rfl rfl]
    by_cases h0 : 0 < upt n l
    · obtain ⟨x, hx⟩ : ∃ x, l[upt n l - 1]? = some x := ⟨_, List.getElem?_eq_getElem (by omega)⟩
      have e : lastS n l = x := by unfold lastS; rw [if_pos h0, hx]; rfl
      have hidx := fun H => hA.idx H (upt n l - 1) (by simp; omega)
      have e1 : ((upt n l - 1 : Nat) : Int) = upt n l - 1 := by omega
      rw [e1] at hidx
      have w : IntKind.i64.wrap ((upt n l : Int) - 1) = upt n l - 1 := by rw [IntKind.wrap_i64]; omega
      rw [e]
      unfold srow at hidx ⊢
      simp [-getElem?_pos, fn24, hu, h0, w, hidx, hx, blkAt_eq]
    · have e : lastS n l = zeroS := by unfold lastS; rw [if_neg h0]
      have h0' : ¬ (0 : Int) < upt n l := by omega
      rw [e]
      unfold srow zeroS
      simp [-getElem?_pos, fn24, hu, h0, h0', blkAt_eq]
  obtain ⟨H', hb⟩ := hb
  exact call2 (args' := [frzArg H S, .int .i64 n]) (by
    have h3 : frzArg H (.int .i64 n) = .int .i64 n := rfl
    simp [h3]) hb rfl (.inl rfl)
end Go.Proofs.YtnfddeiegbifhaaDoor
