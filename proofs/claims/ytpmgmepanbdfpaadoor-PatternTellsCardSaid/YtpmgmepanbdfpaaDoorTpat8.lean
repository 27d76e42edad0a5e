/- The law 'PatternAll'. -/
import Derived.Test.YtpmgmepanbdfpaaDoorTpat7
namespace Go.Proofs.YtpmgmepanbdfpaaDoor
open Go Go.Vs
variable {ro : Nat} {H : Hp}

/-- A copy of rows that were handed: append([]E(nil), s...). -/
theorem SlA.copy {A : IV} {sz bytes : Nat} {rows : List (List IV)} (h : SlA A sz rows) (hm : rows.length * bytes ≤ room) :
    ∃ v' Y, appV ro H sz bytes .nsl A = some (v', H ++ Y) ∧ Sl (H ++ Y) v' sz rows ∧ ∀ b ∈ blkS v', H.length ≤ b := by
  have hr := h.rws H
  have hw := szOk_all h.sz
  by_cases h0 : rows = []
  · subst h0
    exact ⟨.nsl, [], by simp [appV, hr], Sl.nil, by simp [blkS]⟩
  · have hp : 0 < rows.length := List.length_pos_iff.2 h0
    refine ⟨.arr H.length 0 0 rows.length rows.length false, [{ rows := rows }], ?_, .inr ⟨H.length, 0, [], [], by simp, by simp, by simpa using hp, by simpa using h.sz⟩, by simp [blkS]⟩
    simp [appV, hr, hw, h0, newArr, hm]

/-- One row in brackets. -/
theorem Sq.one {b : Nat} {r : List IV} {B : Bk} (h : H[b]? = some B) (hb : B = { rows := [r] }) : Sq H (.arr b 0 0 1 1 true) r.length [r] :=
  .inr ⟨b, 0, [], [], 1, true, rfl, by simp, by rw [h, hb]; rfl, by simp⟩

theorem ex_of_map {x : Option (IV × Hp)} {v : IV} (h : x.map (·.1) = some v) : ∃ H', x = some (v, H') := by
  obtain ⟨⟨v', H'⟩, h, e⟩ := Option.map_eq_some_iff.1 h
  exact ⟨H', by rw [h]; simp only at e; rw [e]⟩

namespace Als

theorem mplain {m : List Mt} : ∀ r ∈ m.map mrow, ∀ x ∈ r, plainD 10 x = true := by
  intro r hr x hx
  obtain ⟨y, _, rfl⟩ := List.mem_map.1 hr
  simp [mrow] at hx
  rcases hx with rfl | rfl | rfl <;> rfl

theorem all_one {H : Hp} {A : IV} {l : List Pr} (hA : SlA A 2 (l.map prow)) (hl : l.length ≤ 9223372036854775807) (hv : ∀ p ∈ l, p.2.length ≤ 9223372036854775807) {x : Mt} (ht : x.2.2.length ≤ 9223372036854775807) {b : Nat}
    (hb : H[b]? = some { rows := [mrow x] }) : doCall (callW pg) ro 2 (.fn 15 []) [A, .arr b 0 0 1 1 true] H = some (.bool (oneM x.2.1 x.2.2 (getP l x.1)), H) := by
  have h1 : SlA (frzArg H (.arr b 0 0 1 1 true)) 3 ([x].map mrow) := (Sq.one hb rfl).frzA (mplain (m := [x]))
  rw [all_2 (m := [x]) hA h1 hl hv (by simp) (by simpa using ht)]
  simp [allM]

theorem law {A M : IV} {l : List Pr} {m : List Mt} (hA : SlA A 2 (l.map prow)) (hM : SlA M 3 (m.map mrow)) (hv : ∀ p ∈ l, p.2.length ≤ 9223372036854775807)
    (ht : ∀ x ∈ m, x.2.2.length ≤ 9223372036854775807) {n t : List UInt8} {k : Int} : ∃ H', callW pg 0 6 [A, M, .agg [.str (bs n), .int .i64 k, .str (bs t)]] [] = some (.bool true, H') := by
  have hlA := hA.len
  have hlM := hM.len
  rw [List.length_map] at hlA hlM
  rw [callW_eqO (fn := fn6) rfl rfl]
  by_cases h1 : 12 < l.length
  · refine ⟨[], ?_⟩
    have h1' : (12 : Int) < l.length := by omega
    simp [fn6, known_2, hlA, hlM, h1, h1']
  have h1' : ¬ (12 : Int) < l.length := by omega
  by_cases h2 : 10 < m.length
  · refine ⟨[], ?_⟩
    have h2' : (10 : Int) < m.length := by omega
    simp [fn6, known_2, hlA, hlM, h1, h1', h2, h2']
  have h2' : ¬ (10 : Int) < m.length := by omega
  by_cases h3 : 100 < t.length
  · refine ⟨[], ?_⟩
    have h3' : (100 : Int) < t.length := by omega
    simp [fn6, known_2, hlA, hlM, h1, h1', h2, h2', h3, h3']
  have h3' : ¬ (100 : Int) < t.length := by omega
  have hl9 : l.length ≤ 9223372036854775807 := by omega
  have ha := fun ro H => all_2 (ro := ro) (H := H) hA (by rw [SlA.self hM]; exact hM) hl9 hv (by omega) ht
  obtain ⟨v1, Y, e1, s1, b1⟩ := SlA.copy (ro := 0) (H := []) (bytes := 40) hM (by simp only [List.length_map, room]; omega)
  obtain ⟨b, g, o, nn, c, H2, e2, s2, st⟩ := (s1.app [{ rows := [mrow (n, k, t)] }]).push (r := mrow (n, k, t)) (y := .arr Y.length 0 0 1 1 true) (bytes := 40) (by simp) rfl (by simp only [List.length_map, room]; omega) (ro := 0) (by simp)
  have hb := fun ro => all_2 (ro := ro) (H := H2) (M := .arr b g o nn c false) (m := m ++ [(n, k, t)]) hA (by
    have := s2.frzA (by rw [← List.map_singleton, ← List.map_append]; exact mplain)
    rw [List.map_append]; exact this) hl9 hv (by simp; omega) (by intro x hx; rw [List.mem_append] at hx; rcases hx with hx | hx; exact ht x hx; simp at hx; subst hx; simp; omega)
  have hn := fun ro H => all_2 (ro := ro) (H := H) (M := .nsl) (m := []) hA (by exact slA_nil) hl9 hv (by simp) (by simp)
  have e0 : allM l [] = true := rfl
  rw [e0] at hn
  have eb : allM l (m ++ [(n, k, t)]) = (allM l m && oneM k t (getP l n)) := by simp [allM]
  rw [eb] at hb
  have ho : ∀ (ro : Nat) (k : Int) (H : Hp) (b : Nat), H[b]? = some { rows := [[.str (bs n), .int .i64 k, .str (bs t)]] } → doCall (callW pg) ro 2 (.fn 15 []) [A, .arr b 0 0 1 1 true] H = some (.bool (oneM k t (getP l n)), H) :=
    fun ro k H b hb => all_one (ro := ro) (H := H) (x := (n, k, t)) (b := b) hA hl9 hv (by simp; omega) hb
  have o1 : oneM 1 t (getP l n) = (getP l n == t) := rfl
  have o2 : oneM 2 t (getP l n) = !(getP l n == t) := rfl
  rw [List.nil_append] at e1 e2
  simp only [mrow] at e2
  refine ex_of_map ?_
  cases hc : allM l m
  · rw [hc] at ha hb
    rw [Bool.false_and] at hb
    simp [-getElem?_pos, fn6, known_2, hlA, hlM, h1, h1', h2, h2', h3, h3', ha, e1, e2, hb, hn, ho, o1, o2]
  · rw [hc] at ha hb
    rw [Bool.true_and] at hb
    simp [-getElem?_pos, fn6, known_2, hlA, hlM, h1, h1', h2, h2', h3, h3', ha, e1, e2, hb, hn, ho, o1, o2]
end Als

/-! what is handed -/
theorem bs_self (s : ByteArray) : bs s.data.toList = s := by cases s; rfl
abbrev TP : Ty := .pair .str .str
abbrev TM : Ty := .pair .str (.pair (.int .i64) .str)
def toP (p : ByteArray × ByteArray) : Pr := (p.1.data.toList, p.2.data.toList)
def toM (m : ByteArray × Int × ByteArray) : Mt := (m.1.data.toList, m.2.1, m.2.2.data.toList)
theorem row_p (p : ByteArray × ByteArray) : [IV.str p.1, IV.str p.2] = prow (toP p) := by simp [prow, toP, bs_self]
theorem row_m (m : ByteArray × Int × ByteArray) : [IV.str m.1, IV.int .i64 m.2.1, IV.str m.2.2] = mrow (toM m) := by simp [mrow, toM, bs_self]
def toPd (p : TP.den) : Pr := toP p
def toMd (m : TM.den) : Mt := toM m
theorem toP_row (p : TP.den) : TP.enc p = prow (toPd p) := row_p p
theorem toM_row (m : TM.den) : TM.enc m = mrow (toMd m) := row_m m
theorem maxLen_eq : maxLen = 9223372036854775807 := by decide
theorem pairs_arg (x : (Ty.sl TP).den) (h : (Ty.sl TP).ok x) : ∃ l : List Pr, SlA ((Ty.sl TP).arg x) 2 (l.map prow) ∧ l.length ≤ 9223372036854775807 ∧ ∀ p ∈ l, p.1.length ≤ 9223372036854775807 ∧ p.2.length ≤ 9223372036854775807 := by
  obtain ⟨l, hl, hx⟩ := sl_arg x
  refine ⟨l.map toPd, ?_, ?_⟩
  · rw [List.map_map]
    have : l.map TP.enc = l.map (prow ∘ toPd) := List.map_congr_left fun p _ => toP_row p
    rw [← this]; exact hl
  · rcases hx with ⟨_, rfl⟩ | rfl
    · simp
    · obtain ⟨h1, h2⟩ := h l rfl
      rw [maxLen_eq] at h1
      refine ⟨by simpa using h1, fun p hp => ?_⟩
      obtain ⟨q, hq, rfl⟩ := List.mem_map.1 hp
      have := h2 q hq
      have h3 : ByteArray.size q.1 ≤ maxLen := this.1
      have h4 : ByteArray.size q.2 ≤ maxLen := this.2
      rw [maxLen_eq] at h3 h4
      exact ⟨h3, h4⟩
theorem matchers_arg (x : (Ty.sl TM).den) (h : (Ty.sl TM).ok x) : ∃ l : List Mt, SlA ((Ty.sl TM).arg x) 3 (l.map mrow) ∧ l.length ≤ 9223372036854775807 ∧ ∀ p ∈ l, p.1.length ≤ 9223372036854775807 ∧ p.2.2.length ≤ 9223372036854775807 := by
  obtain ⟨l, hl, hx⟩ := sl_arg x
  refine ⟨l.map toMd, ?_, ?_⟩
  · rw [List.map_map]
    have : l.map TM.enc = l.map (mrow ∘ toMd) := List.map_congr_left fun p _ => toM_row p
    rw [← this]; exact hl
  · rcases hx with ⟨_, rfl⟩ | rfl
    · simp
    · obtain ⟨h1, h2⟩ := h l rfl
      rw [maxLen_eq] at h1
      refine ⟨by simpa using h1, fun p hp => ?_⟩
      obtain ⟨q, hq, rfl⟩ := List.mem_map.1 hp
      have := h2 q hq
      have h3 : ByteArray.size q.1 ≤ maxLen := this.1
      have h4 : ByteArray.size q.2.2 ≤ maxLen := this.2.2
      rw [maxLen_eq] at h3 h4
      exact ⟨h3, h4⟩

theorem Als.wf (x0 : (Ty.sl TP).den) (x1 : (Ty.sl TM).den) (x2 : TM.den) (h0 : (Ty.sl TP).ok x0) (h1 : (Ty.sl TM).ok x1) (_ : TM.ok x2) : ∃ H', callW pg 0 6 [(Ty.sl TP).arg x0, (Ty.sl TM).arg x1, TM.arg x2] [] = some (.bool true, H') := by
  obtain ⟨l, hA, _, hl⟩ := pairs_arg x0 h0
  obtain ⟨m, hM, _, hm⟩ := matchers_arg x1 h1
  have e : TM.arg x2 = .agg [.str (bs (toMd x2).1), .int .i64 (toMd x2).2.1, .str (bs (toMd x2).2.2)] := congrArg IV.agg (toM_row x2)
  rw [e]
  exact Als.law hA hM (fun p hp => (hl p hp).2) (fun x hx => (hm x hx).2)
end Go.Proofs.YtpmgmepanbdfpaaDoor
