/- Labels' values, and all of a row of matchers. -/
import Derived.Test.YtpmgmepanbdfpaaDoorTpat6
namespace Go.Proofs.YtpmgmepanbdfpaaDoor
open Go Go.Vs
variable {ro : Nat} {H : Hp}

theorem SlA.self {A : IV} {sz : Nat} {rows : List (List IV)} (h : SlA A sz rows) : frzArg H A = A := by
  rcases h.imm with ⟨rfl, _⟩ | ⟨f, rfl⟩ <;> rfl

abbrev Pr := List UInt8 × List UInt8
def prow (p : Pr) : List IV := [.str (bs p.1), .str (bs p.2)]
abbrev Mt := List UInt8 × Int × List UInt8
def mrow (m : Mt) : List IV := [.str (bs m.1), .int .i64 m.2.1, .str (bs m.2.2)]

/-- A label's value. -/
def getP : List Pr → List UInt8 → List UInt8
  | [], _ => []
  | p :: l, n => if p.1 = n then p.2 else getP l n

theorem getLoop {A : IV} {l : List Pr} (hA : SlA A 2 (l.map prow)) (hl : l.length ≤ 9223372036854775807) {n : List UInt8} : ∀ (d i : Nat) (H : Hp), i + d = l.length → ro ≤ H.length →
    (∃ H', runW pg ro fn23L0 [(1, .str (bs n)), (7, A), (8, .int .i64 l.length), (9, .int .i64 i)] H = some (.ret, [(4, .str (bs (getP (l.drop i) n)))], H')) ∨
    (∃ e' H', runW pg ro fn23L0 [(1, .str (bs n)), (7, A), (8, .int .i64 l.length), (9, .int .i64 i)] H = some (.exit 0, e', H') ∧ getP (l.drop i) n = []) := by
  have L : ∀ e H, runW pg ro fn23L0 e H = seqO pg ro fn23L0 (runW pg ro fn23B0 (keepE [1, 7, 8, 9] e) H) := fun e H => runW_loopO
  intro d
  induction d with
  | zero =>
    intro i H hi _
    have : i = l.length := by omega
    subst this
    refine .inr ⟨[(1, .str (bs n)), (7, A), (8, .int .i64 l.length), (9, .int .i64 l.length), (10, .bool false)], H, ?_, by simp [getP]⟩
    rw [L]; simp [fn23B0]
  | succ d ih =>
    intro i H hi hro
    have h1 : (i : Int) < l.length := by omega
    have h2 : i < l.length := by omega
    have w1 : IntKind.i64.wrap ((i : Int) + 1) = i + 1 := by rw [IntKind.wrap_i64]; omega
    obtain ⟨⟨a, b⟩, hx⟩ : ∃ x, l[i]? = some x := ⟨_, List.getElem?_eq_getElem h2⟩
    have hdr : l.drop i = (a, b) :: l.drop (i + 1) := by
      have := List.drop_eq_getElem_cons h2
      rw [this]; congr 1
      rw [List.getElem?_eq_getElem h2] at hx; exact Option.some.inj hx
    have hrow : (l.map prow)[i]? = some [.str (bs a), .str (bs b)] := by rw [List.getElem?_map, hx]; rfl
    have hidx := fun H => hA.idx H i (by simp; omega)
    rw [hdr]
    by_cases e : a = n
    · subst e
      refine .inl ⟨H ++ [{ rows := [[.str (bs a), .str (bs b)]] }], ?_⟩
      rw [L]; simp [-getElem?_pos, fn23B0, h1, hidx, hrow, hro, getP]
    · have e2 : (a == n) = false := by simpa using e
      rcases ih (i + 1) (H ++ [{ rows := [[.str (bs a), .str (bs b)]] }]) (by omega) (by simp; omega) with ⟨H', hr⟩ | ⟨e', H', hr, hg⟩
      · push_cast at hr
        refine .inl ⟨H', ?_⟩
        rw [L]; simp [-getElem?_pos, fn23B0, h1, hidx, hrow, hro, getP, e, e2, w1, hr]
      · push_cast at hr
        refine .inr ⟨e', H', ?_, by simp [getP, e, hg]⟩
        rw [L]; simp [-getElem?_pos, fn23B0, h1, hidx, hrow, hro, e, e2, w1, hr]

theorem get_2 {A : IV} {l : List Pr} (hA : SlA A 2 (l.map prow)) (hl : l.length ≤ 9223372036854775807) {n : List UInt8} : doCall (callW pg) ro 2 (.fn 23 []) [A, .str (bs n)] H = some (.str (bs (getP l n)), H) := by
  have h : ∃ H', callW pg H.length 23 [A, .str (bs n)] H = some (.str (bs (getP l n)), H') := by
    have hlen := hA.len
    rw [List.length_map] at hlen
    rw [callW_eqO (fn := fn23) rfl rfl]
    rcases getLoop (ro := H.length) hA hl (n := n) l.length 0 H (by omega) (Nat.le_refl _) with ⟨H', hr⟩ | ⟨e', H', hr, hg⟩
    · simp at hr
      refine ⟨H', ?_⟩
      simp [-getElem?_pos, fn23, hlen, hr]
    · simp at hr hg
      refine ⟨H', ?_⟩
      simp [-getElem?_pos, fn23, hlen, hr, hg, bs0]
  obtain ⟨H', h⟩ := h
  exact call2 (args' := [A, .str (bs n)]) (by simp [SlA.self hA]) h rfl (.inl rfl)

/-! all of a row of matchers -/
def allM (l : List Pr) (m : List Mt) : Bool := m.all fun x => oneM x.2.1 x.2.2 (getP l x.1)
theorem getP_len {l : List Pr} {n : List UInt8} {N : Nat} (h : ∀ p ∈ l, p.2.length ≤ N) : (getP l n).length ≤ N := by
  induction l with
  | nil => simp [getP]
  | cons p l ih =>
    rw [getP]
    split
    · exact h p (by simp)
    · exact ih fun q hq => h q (by simp [hq])

theorem allLoop {A M : IV} {l : List Pr} {m : List Mt} (hA : SlA A 2 (l.map prow)) (hM : SlA M 3 (m.map mrow)) (hl : l.length ≤ 9223372036854775807) (hv : ∀ p ∈ l, p.2.length ≤ 9223372036854775807)
    (hm : m.length ≤ 9223372036854775807) (ht : ∀ x ∈ m, x.2.2.length ≤ 9223372036854775807) : ∀ (d i : Nat) (H : Hp), i + d = m.length → ro ≤ H.length →
    (∃ H', runW pg ro fn15L0 [(0, A), (7, M), (8, .int .i64 m.length), (9, .int .i64 i)] H = some (.ret, [(4, .bool false)], H') ∧ allM l (m.drop i) = false) ∨
    (∃ e' H', runW pg ro fn15L0 [(0, A), (7, M), (8, .int .i64 m.length), (9, .int .i64 i)] H = some (.exit 0, e', H') ∧ allM l (m.drop i) = true) := by
  have L : ∀ e H, runW pg ro fn15L0 e H = seqO pg ro fn15L0 (runW pg ro fn15B0 (keepE [0, 7, 8, 9] e) H) := fun e H => runW_loopO
  intro d
  induction d with
  | zero =>
    intro i H hi _
    have : i = m.length := by omega
    subst this
    refine .inr ⟨[(0, A), (7, M), (8, .int .i64 m.length), (9, .int .i64 m.length), (10, .bool false)], H, ?_, by simp [allM]⟩
    rw [L]; simp [fn15B0]
  | succ d ih =>
    intro i H hi hro
    have h1 : (i : Int) < m.length := by omega
    have h2 : i < m.length := by omega
    have w1 : IntKind.i64.wrap ((i : Int) + 1) = i + 1 := by rw [IntKind.wrap_i64]; omega
    obtain ⟨⟨a, k, t⟩, hx⟩ : ∃ x, m[i]? = some x := ⟨_, List.getElem?_eq_getElem h2⟩
    have hmem : (a, k, t) ∈ m := List.mem_of_getElem? hx
    have hdr : m.drop i = (a, k, t) :: m.drop (i + 1) := by
      have := List.drop_eq_getElem_cons h2
      rw [this]; congr 1
      rw [List.getElem?_eq_getElem h2] at hx; exact Option.some.inj hx
    have hrow : (m.map mrow)[i]? = some [.str (bs a), .int .i64 k, .str (bs t)] := by rw [List.getElem?_map, hx]; rfl
    have hidx := fun H => hM.idx H i (by simp; omega)
    have hg := fun ro H => get_2 (ro := ro) (H := H) hA hl (n := a)
    have ho := fun ro H => one_2 (ro := ro) (H := H) (n := bs a) (k := k) (t := t) (s := getP l a) (ht _ hmem) (getP_len hv)
    rw [hdr]
    cases e : oneM k t (getP l a) with
    | false =>
      rw [e] at ho
      refine .inl ⟨H ++ [{ rows := [[.str (bs a), .int .i64 k, .str (bs t)]] }], ?_, by simp [allM, e]⟩
      rw [L]; simp [-getElem?_pos, fn15B0, h1, hidx, hrow, hro, hg, ho]
    | true =>
      rw [e] at ho
      rcases ih (i + 1) (H ++ [{ rows := [[.str (bs a), .int .i64 k, .str (bs t)]] }]) (by omega) (by simp; omega) with ⟨H', hr, hf⟩ | ⟨e', H', hr, hf⟩
      · push_cast at hr
        refine .inl ⟨H', ?_, by simpa [allM, e] using hf⟩
        rw [L]; simp [-getElem?_pos, fn15B0, h1, hidx, hrow, hro, hg, ho, w1, hr]
      · push_cast at hr
        refine .inr ⟨e', H', ?_, by simpa [allM, e] using hf⟩
        rw [L]; simp [-getElem?_pos, fn15B0, h1, hidx, hrow, hro, hg, ho, w1, hr]

theorem all_2 {A M : IV} {l : List Pr} {m : List Mt} (hA : SlA A 2 (l.map prow)) (hM : SlA (frzArg H M) 3 (m.map mrow)) (hl : l.length ≤ 9223372036854775807) (hv : ∀ p ∈ l, p.2.length ≤ 9223372036854775807)
    (hm : m.length ≤ 9223372036854775807) (ht : ∀ x ∈ m, x.2.2.length ≤ 9223372036854775807) : doCall (callW pg) ro 2 (.fn 15 []) [A, M] H = some (.bool (allM l m), H) := by
  have h : ∃ H', callW pg H.length 15 [A, frzArg H M] H = some (.bool (allM l m), H') := by
    have hlen := hM.len
    rw [List.length_map] at hlen
    rw [callW_eqO (fn := fn15) rfl rfl]
    rcases allLoop (ro := H.length) hA hM hl hv hm ht m.length 0 H (by omega) (Nat.le_refl _) with ⟨H', hr, hg⟩ | ⟨e', H', hr, hg⟩
    · simp at hr hg
      refine ⟨H', ?_⟩
      simp [-getElem?_pos, fn15, hlen, hr, hg]
    · simp at hr hg
      refine ⟨H', ?_⟩
      simp [-getElem?_pos, fn15, hlen, hr, hg]
  obtain ⟨H', h⟩ := h
  exact call2 (args' := [A, frzArg H M]) (by simp [SlA.self hA]) h rfl (.inl rfl)
end Go.Proofs.YtpmgmepanbdfpaaDoor
