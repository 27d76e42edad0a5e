/- The law 'PatternTells'. -/
import Derived.Test.YtpmgmepanbdfpaaDoorTpat10
namespace Go.Proofs.YtpmgmepanbdfpaaDoor
open Go Go.Vs
variable {ro : Nat} {H : Hp}

theorem ref_one_2 {n : ByteArray} {k : Int} {t s : List UInt8} (ht : t.length ≤ 9223372036854775807) (hs : s.length ≤ 140737488351232) :
    doCall (callW pg) ro 2 (.fn 12 []) [.agg [.str n, .int .i64 k, .str (bs t)], .str (bs s)] H = some (.bool (oneM k t s), H) := by
  have g := fun ro H => ref_glob_2 (ro := ro) (H := H) (p := t) (s := s) ht hs
  have h : ∃ H', callW pg H.length 12 [.agg [.str n, .int .i64 k, .str (bs t)], .str (bs s)] H = some (.bool (oneM k t s), H') := by
    refine ex_of_map ?_
    rw [callW_eqO (fn := fn12) rfl rfl]
    unfold oneM
    by_cases h1 : k = 1
    · subst h1; simp [fn12]
    by_cases h2 : k = 2
    · subst h2; simp [fn12]
    by_cases h3 : k = 3
    · subst h3
      by_cases hl : t.length ≤ s.length
      · have hl1 : (t.length : Int) ≤ s.length := by omega
        simp [fn12, hl, hl1, begs]
      · have hl1 : ¬ (t.length : Int) ≤ s.length := by omega
        simp [fn12, hl, hl1, begs_long hl]
    by_cases h4 : k = 4
    · subst h4; simp [fn12, g]
    simp [fn12, h1, h2, h3, h4]
  obtain ⟨H', h⟩ := h
  exact call2p h rfl rfl

theorem ref_getLoop {A : IV} {l : List Pr} (hA : SlA A 2 (l.map prow)) (hl : l.length ≤ 9223372036854775807) {n : List UInt8} : ∀ (d i : Nat), i + d = l.length →
    runW pg ro fn24L0 [(0, A), (1, .str (bs n)), (5, .int .i64 i)] H = some (.ret, [(4, .str (bs (getP (l.drop i) n)))], H) ∨
    ((∃ e', runW pg ro fn24L0 [(0, A), (1, .str (bs n)), (5, .int .i64 i)] H = some (.exit 0, e', H)) ∧ getP (l.drop i) n = []) := by
  have L : ∀ e, runW pg ro fn24L0 e H = seqO pg ro fn24L0 (runW pg ro fn24B0 (keepE [0, 1, 5] e) H) := fun e => runW_loopO
  have hlen := hA.len
  rw [List.length_map] at hlen
  intro d
  induction d with
  | zero =>
    intro i hi
    have : i = l.length := by omega
    subst this
    refine .inr ⟨⟨[(0, A), (1, .str (bs n)), (5, .int .i64 l.length), (9, .bool false)], ?_⟩, by simp [getP]⟩
    rw [L]; simp [fn24B0, hlen]
  | succ d ih =>
    intro i hi
    have h1 : (i : Int) < l.length := by omega
    have h2 : i < l.length := by omega
    have w1 : IntKind.i64.wrap ((i : Int) + 1) = i + 1 := by rw [IntKind.wrap_i64]; omega
    obtain ⟨⟨a, b⟩, hx⟩ : ∃ x, l[i]? = some x := ⟨_, List.getElem?_eq_getElem h2⟩
    have hdr : l.drop i = (a, b) :: l.drop (i + 1) := by
      have := List.drop_eq_getElem_cons h2
      rw [this]; congr 1
      rw [List.getElem?_eq_getElem h2] at hx; exact Option.some.inj hx
    have hrow : (l.map prow)[i]? = some [.str (bs a), .str (bs b)] := by rw [List.getElem?_map, hx]; rfl
    have hidx := fun H => hA.idx H i (by simp; omega)
    rw [hdr]
    by_cases e : a = n
    · subst e
      refine .inl ?_
      rw [L]; simp [-getElem?_pos, fn24B0, hlen, h1, hidx, hrow, getP]
    · have e2 : (a == n) = false := by simpa using e
      rcases ih (i + 1) (by omega) with hr | ⟨⟨e', hr⟩, hg⟩
      · push_cast at hr
        refine .inl ?_
        rw [L]; simp [-getElem?_pos, fn24B0, hlen, h1, hidx, hrow, getP, e, e2, w1, hr]
      · push_cast at hr
        refine .inr ⟨⟨e', ?_⟩, by simp [getP, e, hg]⟩
        rw [L]; simp [-getElem?_pos, fn24B0, hlen, h1, hidx, hrow, e, e2, w1, hr]
theorem ref_get_2 {A : IV} {l : List Pr} (hA : SlA A 2 (l.map prow)) (hl : l.length ≤ 9223372036854775807) {n : List UInt8} : doCall (callW pg) ro 2 (.fn 24 []) [A, .str (bs n)] H = some (.str (bs (getP l n)), H) := by
  have h : callW pg H.length 24 [A, .str (bs n)] H = some (.str (bs (getP l n)), H) := by
    rw [callW_eqO (fn := fn24) rfl rfl]
    rcases ref_getLoop (ro := H.length) (H := H) hA hl (n := n) l.length 0 (by omega) with hr | ⟨⟨e', hr⟩, hg⟩
    · simp at hr
      simp [-getElem?_pos, fn24, hr]
    · simp at hr hg
      simp [-getElem?_pos, fn24, hr, hg, bs0]
  exact call2 (args' := [A, .str (bs n)]) (by simp [SlA.self hA]) h rfl (.inl rfl)

theorem ref_allLoop {A M : IV} {l : List Pr} {m : List Mt} (hA : SlA A 2 (l.map prow)) (hM : SlA M 3 (m.map mrow)) (hl : l.length ≤ 9223372036854775807) (hv : ∀ p ∈ l, p.2.length ≤ 140737488351232)
    (hm : m.length ≤ 9223372036854775807) (ht : ∀ x ∈ m, x.2.2.length ≤ 9223372036854775807) : ∀ (d i : Nat), i + d = m.length →
    (runW pg ro fn16L0 [(0, A), (1, M), (5, .int .i64 i)] H = some (.ret, [(4, .bool false)], H) ∧ allM l (m.drop i) = false) ∨
    ((∃ e', runW pg ro fn16L0 [(0, A), (1, M), (5, .int .i64 i)] H = some (.exit 0, e', H)) ∧ allM l (m.drop i) = true) := by
  have L : ∀ e, runW pg ro fn16L0 e H = seqO pg ro fn16L0 (runW pg ro fn16B0 (keepE [0, 1, 5] e) H) := fun e => runW_loopO
  have hlen := hM.len
  rw [List.length_map] at hlen
  intro d
  induction d with
  | zero =>
    intro i hi
    have : i = m.length := by omega
    subst this
    refine .inr ⟨⟨[(0, A), (1, M), (5, .int .i64 m.length), (9, .bool false)], ?_⟩, by simp [allM]⟩
    rw [L]; simp [fn16B0, hlen]
  | succ d ih =>
    intro i hi
    have h1 : (i : Int) < m.length := by omega
    have h2 : i < m.length := by omega
    have w1 : IntKind.i64.wrap ((i : Int) + 1) = i + 1 := by rw [IntKind.wrap_i64]; omega
    obtain ⟨⟨a, k, t⟩, hx⟩ : ∃ x, m[i]? = some x := ⟨_, List.getElem?_eq_getElem h2⟩
    have hmem : (a, k, t) ∈ m := List.mem_of_getElem? hx
    have hdr : m.drop i = (a, k, t) :: m.drop (i + 1) := by
      have := List.drop_eq_getElem_cons h2
      rw [this]; congr 1
      rw [List.getElem?_eq_getElem h2] at hx; exact Option.some.inj hx
    have hrow : (m.map mrow)[i]? = some [.str (bs a), .int .i64 k, .str (bs t)] := by rw [List.getElem?_map, hx]; rfl
    have hidx := fun H => hM.idx H i (by simp; omega)
    have hg := fun ro H => ref_get_2 (ro := ro) (H := H) hA hl (n := a)
    have ho := fun ro H => ref_one_2 (ro := ro) (H := H) (n := bs a) (k := k) (t := t) (s := getP l a) (ht _ hmem) (getP_len hv)
    rw [hdr]
    cases e : oneM k t (getP l a) with
    | false =>
      rw [e] at ho
      refine .inl ⟨?_, by simp [allM, e]⟩
      rw [L]; simp [-getElem?_pos, fn16B0, hlen, h1, hidx, hrow, hg, ho]
    | true =>
      rw [e] at ho
      rcases ih (i + 1) (by omega) with ⟨hr, hf⟩ | ⟨⟨e', hr⟩, hf⟩
      · push_cast at hr
        refine .inl ⟨?_, by simpa [allM, e] using hf⟩
        rw [L]; simp [-getElem?_pos, fn16B0, hlen, h1, hidx, hrow, hg, ho, w1, hr]
      · push_cast at hr
        refine .inr ⟨⟨e', ?_⟩, by simpa [allM, e] using hf⟩
        rw [L]; simp [-getElem?_pos, fn16B0, hlen, h1, hidx, hrow, hg, ho, w1, hr]

theorem ref_all_2 {A M : IV} {l : List Pr} {m : List Mt} (hA : SlA A 2 (l.map prow)) (hM : SlA M 3 (m.map mrow)) (hl : l.length ≤ 9223372036854775807) (hv : ∀ p ∈ l, p.2.length ≤ 140737488351232)
    (hm : m.length ≤ 9223372036854775807) (ht : ∀ x ∈ m, x.2.2.length ≤ 9223372036854775807) : doCall (callW pg) ro 2 (.fn 16 []) [A, M] H = some (.bool (allM l m), H) := by
  have h : callW pg H.length 16 [A, M] H = some (.bool (allM l m), H) := by
    rw [callW_eqO (fn := fn16) rfl rfl]
    rcases ref_allLoop (ro := H.length) (H := H) hA hM hl hv hm ht m.length 0 (by omega) with ⟨hr, hg⟩ | ⟨⟨e', hr⟩, hg⟩
    · simp at hr hg
      simp [-getElem?_pos, fn16, hr, hg]
    · simp at hr hg
      simp [-getElem?_pos, fn16, hr, hg]
  exact call2 (args' := [A, M]) (by simp [SlA.self hA, SlA.self hM]) h rfl (.inl rfl)

namespace Tells

theorem loop {A M : IV} {l : List Pr} {m : List Mt} {p s : List UInt8} (hM : SlA M 3 (m.map mrow)) (hs : s.length ≤ 60) (hm : m.length ≤ 12) (hn : ∀ x ∈ m, x.1.length ≤ 9223372036854775807) : ∀ (d i : Nat), i + d = m.length →
    runW pg 0 fn3L0 [(0, .str (bs p)), (1, .str (bs s)), (2, M), (3, A), (9, .int .i64 i)] H = some (.ret, [(8, .bool true)], H) ∨
    ((∃ e', runW pg 0 fn3L0 [(0, .str (bs p)), (1, .str (bs s)), (2, M), (3, A), (9, .int .i64 i)] H = some (.exit 0, e', H) ∧ get e' 0 = .str (bs p) ∧ get e' 1 = .str (bs s) ∧ get e' 2 = M ∧ get e' 3 = A) ∧ ∀ x ∈ m.drop i, x.2.2.length ≤ 100) := by
  have L : ∀ e, runW pg 0 fn3L0 e H = seqO pg 0 fn3L0 (runW pg 0 fn3B0 (keepE [0, 1, 2, 3, 9] e) H) := fun e => runW_loopO
  have hlen := hM.len
  rw [List.length_map] at hlen
  intro d
  induction d with
  | zero =>
    intro i hi
    have : i = m.length := by omega
    subst this
    refine .inr ⟨⟨[(0, .str (bs p)), (1, .str (bs s)), (2, M), (3, A), (9, .int .i64 m.length), (33, .bool false)], ?_, rfl, rfl, rfl, rfl⟩, by simp⟩
    rw [L]; simp [fn3B0, hlen]
  | succ d ih =>
    intro i hi
    have h1 : (i : Int) < m.length := by omega
    have h2 : i < m.length := by omega
    have w1 : IntKind.i64.wrap ((i : Int) + 1) = i + 1 := by rw [IntKind.wrap_i64]; omega
    obtain ⟨⟨a, k, t⟩, hx⟩ : ∃ x, m[i]? = some x := ⟨_, List.getElem?_eq_getElem h2⟩
    have hmem : (a, k, t) ∈ m := List.mem_of_getElem? hx
    have hdr : m.drop i = (a, k, t) :: m.drop (i + 1) := by
      have := List.drop_eq_getElem_cons h2
      rw [this]; congr 1
      rw [List.getElem?_eq_getElem h2] at hx; exact Option.some.inj hx
    have hrow : (m.map mrow)[i]? = some [.str (bs a), .int .i64 k, .str (bs t)] := by rw [List.getElem?_map, hx]; rfl
    have hidx := fun H => hM.idx H i (by simp; omega)
    by_cases ht : 100 < t.length
    · have ht' : (100 : Int) < t.length := by omega
      refine .inl ?_
      rw [L]; simp [-getElem?_pos, fn3B0, hlen, h1, hidx, hrow, ht, ht']
    · have ht' : ¬ (100 : Int) < t.length := by omega
      have q1 := fun ro H => is_2 (ro := ro) (H := H) (n := a) (t := t) (k := k) (hn _ hmem)
      have q2 := fun ro H => ref_is_2 (ro := ro) (H := H) (n := a) (t := t) (k := k) (hn _ hmem) (by omega)
      have q3 := fun ro H => one_2 (ro := ro) (H := H) (n := bs a) (t := t) (k := k) (s := s) (by omega) (by omega)
      have q4 := fun ro H => ref_one_2 (ro := ro) (H := H) (n := bs a) (t := t) (k := k) (s := s) (by omega) (by omega)
      rcases ih (i + 1) (by omega) with hr | ⟨⟨e', hr, hg⟩, hf⟩
      · push_cast at hr
        refine .inl ?_
        rw [L]; simp [-getElem?_pos, fn3B0, hlen, h1, hidx, hrow, ht, ht', q1, q2, q3, q4, w1, hr]
      · push_cast at hr
        refine .inr ⟨⟨e', ?_, hg⟩, ?_⟩
        · rw [L]; simp [-getElem?_pos, fn3B0, hlen, h1, hidx, hrow, ht, ht', q1, q2, q3, q4, w1, hr]
        · rw [hdr]
          intro x hx
          rcases List.mem_cons.1 hx with rfl | hx
          · simpa using ht
          · exact hf x hx

theorem law {A M : IV} {l : List Pr} {m : List Mt} {p s : List UInt8} (hA : SlA A 2 (l.map prow)) (hM : SlA M 3 (m.map mrow)) (hv : ∀ x ∈ l, x.2.length ≤ 140737488351232) (hn : ∀ x ∈ m, x.1.length ≤ 9223372036854775807) :
    ∃ H', callW pg 0 3 [.str (bs p), .str (bs s), M, A] [] = some (.bool true, H') := by
  have hlA := hA.len
  have hlM := hM.len
  rw [List.length_map] at hlA hlM
  refine ex_of_map ?_
  rw [callW_eqO (fn := fn3) rfl rfl]
  by_cases h1 : 60 < p.length
  · have h1' : (60 : Int) < p.length := by omega
    simp [fn3, known_2, h1, h1']
  have h1' : ¬ (60 : Int) < p.length := by omega
  by_cases h2 : 60 < s.length
  · have h2' : (60 : Int) < s.length := by omega
    simp [fn3, known_2, h1, h1', h2, h2']
  have h2' : ¬ (60 : Int) < s.length := by omega
  by_cases h3 : 12 < m.length
  · have h3' : (12 : Int) < m.length := by omega
    simp [fn3, known_2, h1, h1', h2, h2', hlM, h3, h3']
  have h3' : ¬ (12 : Int) < m.length := by omega
  by_cases h4 : 12 < l.length
  · have h4' : (12 : Int) < l.length := by omega
    simp [fn3, known_2, h1, h1', h2, h2', hlM, hlA, h3, h3', h4, h4']
  have h4' : ¬ (12 : Int) < l.length := by omega
  rcases loop (H := []) (A := A) (l := l) (p := p) (s := s) hM (by omega) (by omega) hn m.length 0 (by omega) with hr | ⟨⟨e', hr, g0, g1, g2, g3⟩, ht⟩
  · simp at hr
    simp [fn3, known_2, h1, h1', h2, h2', hlM, hlA, h3, h3', h4, h4', hr]
  · rw [List.drop_zero] at ht
    have ht9 : ∀ x ∈ m, x.2.2.length ≤ 9223372036854775807 := fun x hx => by have := ht x hx; omega
    have q1 := fun ro H => glob_2 (ro := ro) (H := H) (pat := p) (s := s) (by omega) (by omega)
    have q2 := fun ro H => ref_glob_2 (ro := ro) (H := H) (p := p) (s := s) (by omega) (by omega)
    have q3 := fun ro H => all_2 (ro := ro) (H := H) hA (by rw [SlA.self hM]; exact hM) (by omega) (fun x hx => by have := hv x hx; omega) (by omega) ht9
    have q4 := fun ro H => ref_all_2 (ro := ro) (H := H) hA hM (by omega) hv (by omega) ht9
    simp at hr
    simp [fn3, known_2, h1, h1', h2, h2', hlM, hlA, h3, h3', h4, h4', hr, g0, g1, g2, g3, q1, q2, q3, q4]
end Tells

theorem reach_eq : reachBytes = 140737488351232 := by decide
theorem pairs_argw (x : (Ty.sl TP).den) (h : (Ty.sl TP).okw x) : ∃ l : List Pr, SlA ((Ty.sl TP).arg x) 2 (l.map prow) ∧ ∀ p ∈ l, p.1.length ≤ 140737488351232 ∧ p.2.length ≤ 140737488351232 := by
  obtain ⟨l, hl, hx⟩ := sl_arg x
  refine ⟨l.map toPd, ?_, ?_⟩
  · rw [List.map_map]
    have : l.map TP.enc = l.map (prow ∘ toPd) := List.map_congr_left fun p _ => toP_row p
    rw [← this]; exact hl
  · rcases hx with ⟨_, rfl⟩ | rfl
    · simp
    · intro p hp
      obtain ⟨q, hq, rfl⟩ := List.mem_map.1 hp
      have := h l rfl q hq
      have h3 : ByteArray.size q.1 ≤ reachBytes := this.1
      have h4 : ByteArray.size q.2 ≤ reachBytes := this.2
      rw [reach_eq] at h3 h4
      exact ⟨h3, h4⟩

theorem Tells.wf (x0 x1 : Ty.str.den) (x2 : (Ty.sl TM).den) (x3 : (Ty.sl TP).den) (_ : Ty.str.ok x0) (_ : Ty.str.ok x1) (h2 : (Ty.sl TM).ok x2) (_ : (Ty.sl TP).ok x3) (_ : Ty.str.okw x0) (_ : Ty.str.okw x1) (_ : (Ty.sl TM).okw x2) (w3 : (Ty.sl TP).okw x3) :
    ∃ H', callW pg 0 3 [Ty.str.arg x0, Ty.str.arg x1, (Ty.sl TM).arg x2, (Ty.sl TP).arg x3] [] = some (.bool true, H') := by
  obtain ⟨p, e0⟩ := bs_of x0
  obtain ⟨s, e1⟩ := bs_of x1
  obtain ⟨m, hM, _, hm⟩ := matchers_arg x2 h2
  obtain ⟨l, hA, hl⟩ := pairs_argw x3 w3
  show ∃ H', callW pg 0 3 [.str x0, .str x1, (Ty.sl TM).arg x2, (Ty.sl TP).arg x3] [] = some (.bool true, H')
  rw [e0, e1]
  exact Tells.law hA hM (fun x hx => (hl x hx).2) (fun x hx => (hm x hx).1)
end Go.Proofs.YtpmgmepanbdfpaaDoor
