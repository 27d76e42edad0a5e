import Derived.Test.YtinmpfflkcnkfaaTl1
import Derived.Test.YtinmpfflkcnkfaaVsLaw
import Derived.Test.YtinmpfflkcnkfaaVsArg
/- Pairs that are too many, or too long; the law 'LabelCmp'. -/
namespace Go.Proofs.Ytinmpfflkcnkfaa
open Go Go.Vs
variable {ro : Nat} {H : Hp}

theorem known_c : ∃ H', callW pg 0 12 [] [] = some (.bool true, H') := callW_of (n := 60) (by kernel_rfl)
theorem known_2 : doCall (callW pg) 0 2 (.fn 12 []) [] [] = some (.bool true, []) := by
  obtain ⟨Hk, hkn⟩ := known_c
  exact call2p hkn rfl rfl
theorem ex_of_map {x : Option (IV × Hp)} {v : IV} (h : x.map (·.1) = some v) : ∃ H', x = some (v, H') := by
  obtain ⟨⟨v', H'⟩, h, e⟩ := Option.map_eq_some_iff.1 h
  exact ⟨H', by rw [h]; simp only at e; rw [e]⟩

def longP (p : Pr) : Bool := decide (100 < p.1.length) || decide (100 < p.2.length)
theorem big_loop {A : IV} {l : List Pr} (hA : SlA A 2 (l.map prow)) (hl : l.length < 9223372036854775807) : ∀ (d i : Nat), i + d = l.length →
    ((l.drop i).any longP = true ∧ runW pg ro fn16L0 [(0, A), (3, .int .i64 i)] H = some (.ret, [(2, .bool true)], H)) ∨
    ((l.drop i).any longP = false ∧ runW pg ro fn16L0 [(0, A), (3, .int .i64 i)] H = some (.exit 0, [(0, A), (3, .int .i64 l.length), (7, .bool false)], H)) := by
  have L : ∀ e, runW pg ro fn16L0 e H = seqO pg ro fn16L0 (runW pg ro fn16B0 (keepE [0, 3] e) H) := fun e => runW_loopO
  have hlen := hA.len
  rw [List.length_map] at hlen
  intro d
  induction d with
  | zero =>
    intro i hi
    have : i = l.length := by omega
    subst this
    refine .inr ⟨by simp, ?_⟩
    rw [L]; simp [fn16B0, hlen]
  | succ d ih =>
    intro i hi
    have h2 : i < l.length := by omega
    have h1 : (i : Int) < l.length := by omega
    have w1 : IntKind.i64.wrap ((i : Int) + 1) = i + 1 := by rw [IntKind.wrap_i64]; omega
    obtain ⟨x, hx⟩ : ∃ x, l[i]? = some x := ⟨_, List.getElem?_eq_getElem h2⟩
    have hdr : l.drop i = x :: l.drop (i + 1) := by
      have := List.drop_eq_getElem_cons h2
      rw [this]; congr 1
      rw [List.getElem?_eq_getElem h2] at hx; exact Option.some.inj hx
    have hidx := hA.idx H i (by simp; omega)
    rw [hdr, List.any_cons]
    by_cases c1 : 100 < x.1.length
    · have c1' : (100 : Int) < x.1.length := by omega
      refine .inl ⟨by simp [longP, c1], ?_⟩
      rw [L]; simp [-getElem?_pos, fn16B0, hlen, h1, hidx, hx, prow, c1, c1']
    · have c1' : ¬ (100 : Int) < x.1.length := by omega
      by_cases c2 : 100 < x.2.length
      · have c2' : (100 : Int) < x.2.length := by omega
        refine .inl ⟨by simp [longP, c2], ?_⟩
        rw [L]; simp [-getElem?_pos, fn16B0, hlen, h1, hidx, hx, prow, c1, c1', c2, c2']
      · have c2' : ¬ (100 : Int) < x.2.length := by omega
        have e0 : longP x = false := by simp [longP]; omega
        rw [e0, Bool.false_or]
        rcases ih (i + 1) (by omega) with ⟨e, hr⟩ | ⟨e, hr⟩
        · push_cast at hr
          refine .inl ⟨e, ?_⟩
          rw [L]; simp [-getElem?_pos, fn16B0, hlen, h1, hidx, hx, prow, c1, c1', c2, c2', w1, hr]
        · push_cast at hr
          refine .inr ⟨e, ?_⟩
          rw [L]; simp [-getElem?_pos, fn16B0, hlen, h1, hidx, hx, prow, c1, c1', c2, c2', w1, hr]

def bigB (l : List Pr) : Bool := l.any longP || decide (20 < l.length)
theorem bigB_false {l : List Pr} (h : bigB l = false) : l.length ≤ 20 ∧ ∀ p ∈ l, p.1.length ≤ 100 ∧ p.2.length ≤ 100 := by
  simp only [bigB, Bool.or_eq_false_iff, decide_eq_false_iff_not, List.any_eq_false] at h
  refine ⟨by omega, fun p hp => ?_⟩
  have := h.1 p hp
  simp [longP] at this
  exact this

/-- Too many, or one too long? -/
theorem big_2 {A : IV} {l : List Pr} (hA : SlA A 2 (l.map prow)) (hl : l.length < 9223372036854775807) : doCall (callW pg) ro 2 (.fn 16 []) [A] H = some (.bool (bigB l), H) := by
  have hlen := hA.len
  rw [List.length_map] at hlen
  refine call2 (H2 := H) (args' := [A]) (by simp [SlA.self hA]) ?_ rfl (.inl rfl)
  rw [callW_eqO (fn := fn16) rfl rfl]
  unfold bigB
  rcases big_loop (ro := H.length) (H := H) hA hl l.length 0 (by omega) with ⟨e, hr⟩ | ⟨e, hr⟩
  · rw [List.drop_zero] at e
    simp at hr
    simp [-getElem?_pos, fn16, hr, hlen, e]
  · rw [List.drop_zero] at e
    simp at hr
    have e2 : decide ((20 : Int) < l.length) = decide (20 < l.length) := by congr 1; exact propext (by omega)
    simp [-getElem?_pos, fn16, hr, hlen, e, e2]

theorem slA_take {A : IV} {sz : Nat} {rows : List (List IV)} (h : SlA A sz rows) {k : Nat} (hk : k ≤ rows.length) : ∃ v, (∀ H, slSl H sz A 0 (some k) none = some v) ∧ SlA v sz (rows.take k) := by
  rcases h.imm with ⟨rfl, rfl⟩ | ⟨f, rfl⟩
  · have : k = 0 := by simpa using hk
    subst this
    exact ⟨.nsl, fun _ => rfl, slA_nil⟩
  · refine ⟨.imm (rows.take k) (f && k == rows.length), fun H => ?_, slA_imm fun r hr => h.sz r (List.mem_of_mem_take hr)⟩
    have hz : szOk sz rows = true := szOk_all h.sz
    simp [hk, hz]

namespace Cmp
theorem law {A B C : IV} {l m n : List Pr} (hA : SlA A 2 (l.map prow)) (hB : SlA B 2 (m.map prow)) (hC : SlA C 2 (n.map prow)) (hl : l.length < 9223372036854775807) (hm : m.length < 9223372036854775807) (hn : n.length < 9223372036854775807) {t : Int} (ht : 0 ≤ t ∧ t < 256) :
    ∃ H', callW pg 0 7 [A, B, C, .int .u8 t] [] = some (.bool true, H') := by
  have hlen := hA.len
  rw [List.length_map] at hlen
  refine ex_of_map ?_
  rw [callW_eqO (fn := fn7) rfl rfl]
  have b1 := big_2 (ro := 0) (H := []) hA hl
  have b2 := big_2 (ro := 0) (H := []) hB hm
  have b3 := big_2 (ro := 0) (H := []) hC hn
  by_cases c1 : bigB l = true
  · simp [fn7, known_2, b1, c1]
  by_cases c2 : bigB m = true
  · simp [fn7, known_2, b1, c1, b2, c2]
  by_cases c3 : bigB n = true
  · simp [fn7, known_2, b1, c1, b2, c2, b3, c3]
  have hl20 := (bigB_false (by simpa using c1)).1
  have w1 : IntKind.i64.wrap ((l.length : Int) + 1) = l.length + 1 := by rw [IntKind.wrap_i64]; omega
  have wt : IntKind.i64.wrap t = t := by rw [IntKind.wrap_i64]; omega
  have hl0 : (l.length : Int) + 1 ≠ 0 := by omega
  obtain ⟨k, hk⟩ : ∃ k : Nat, (k : Int) = t % (l.length + 1) := ⟨(t % ((l.length : Int) + 1)).toNat, by have := Int.emod_nonneg t hl0; omega⟩
  have hkl : k ≤ l.length := by have := Int.emod_lt_of_pos t (show (0 : Int) < (l.length : Int) + 1 by omega); omega
  have hrem : binV .rem (.int .i64 t) (.int .i64 (l.length + 1)) = some (.int .i64 k) := by rw [bin_rem hl0, Int.tmod_eq_emod_of_nonneg ht.1, hk]
  obtain ⟨v, hv, hV⟩ := slA_take hA (k := k) (by simpa using hkl)
  rw [← List.map_take] at hV
  have cc : ∀ {X Y : IV} {p q : List Pr}, SlA X 2 (p.map prow) → SlA Y 2 (q.map prow) → p.length < 9223372036854775807 → doCall (callW pg) 0 2 (.fn 19 []) [X, Y] [] = some (.int .i64 (cmpS p q), []) := fun hX hY hp => cmp_2 (by rw [SlA.self hX]; exact hX) (by rw [SlA.self hY]; exact hY) (by omega)
  have caa := cc hA hA hl
  have cab := cc hA hB hl
  have cba := cc hB hA hm
  have cbc := cc hB hC hm
  have cac := cc hA hC hl
  have cva := cc hV hA (by simp; omega)
  have etk : cmpS (l.take k) l = if k < l.length then -1 else 0 := lex_take cmpPr_3 l k
  rw [etk] at cva
  have e1 : cmpS l l = 0 := lex_self cmpPr_3 l
  rw [e1] at caa
  have anti : cmpS m l = - cmpS l m := by have := cmpS_3.anti m l; omega
  rw [anti] at cba
  have r1 := cmpS_rng l m
  have wn : IntKind.i64.wrap (cmpS l m) = cmpS l m := by rw [IntKind.wrap_i64]; omega
  have tr := cmpS_3.trans l m n
  by_cases hlt : k < l.length
  · have hlt' : (k : Int) < l.length := by omega
    rw [if_pos hlt] at cva
    by_cases q1 : 0 < cmpS l m
    · simp [-getElem?_pos, fn7, known_2, b1, c1, b2, c2, b3, c3, hlen, w1, wt, hrem, hlt, hlt', caa, cab, cba, wn, q1, hv, cva]
    · by_cases q2 : 0 < cmpS m n
      · simp [-getElem?_pos, fn7, known_2, b1, c1, b2, c2, b3, c3, hlen, w1, wt, hrem, hlt, hlt', caa, cab, cba, wn, q1, cbc, q2, hv, cva]
      · have q3 := tr (by omega) (by omega)
        simp [-getElem?_pos, fn7, known_2, b1, c1, b2, c2, b3, c3, hlen, w1, wt, hrem, hlt, hlt', caa, cab, cba, wn, q1, cbc, q2, cac, q3, hv, cva]
  · have hlt' : ¬ (k : Int) < l.length := by omega
    rw [if_neg hlt] at cva
    by_cases q1 : 0 < cmpS l m
    · simp [-getElem?_pos, fn7, known_2, b1, c1, b2, c2, b3, c3, hlen, w1, wt, hrem, hlt, hlt', caa, cab, cba, wn, q1, hv, cva]
    · by_cases q2 : 0 < cmpS m n
      · simp [-getElem?_pos, fn7, known_2, b1, c1, b2, c2, b3, c3, hlen, w1, wt, hrem, hlt, hlt', caa, cab, cba, wn, q1, cbc, q2, hv, cva]
      · have q3 := tr (by omega) (by omega)
        simp [-getElem?_pos, fn7, known_2, b1, c1, b2, c2, b3, c3, hlen, w1, wt, hrem, hlt, hlt', caa, cab, cba, wn, q1, cbc, q2, cac, q3, hv, cva]
end Cmp

/-! what is handed -/
theorem bs_self (s : ByteArray) : bs s.data.toList = s := by cases s; rfl
abbrev TP : Ty := .pair .str .str
def toP (p : ByteArray × ByteArray) : Pr := (p.1.data.toList, p.2.data.toList)
theorem row_p (p : ByteArray × ByteArray) : [IV.str p.1, IV.str p.2] = prow (toP p) := by simp [prow, toP, bs_self]
def toPd (p : TP.den) : Pr := toP p
theorem toP_row (p : TP.den) : TP.enc p = prow (toPd p) := row_p p
theorem reach_eq : reachBytes = 140737488351232 := by decide

theorem pairs_val (x : (Ty.sl TP).den) (h : (Ty.sl TP).okw x) : ∃ l : List Pr, SlA ((Ty.sl TP).arg x) 2 (l.map prow) ∧ l.length * 32 ≤ room := by
  obtain ⟨l, hl, hx⟩ := sl_arg x
  refine ⟨l.map toPd, ?_, ?_⟩
  · rw [List.map_map]
    have : l.map TP.enc = l.map (prow ∘ toPd) := List.map_congr_left fun p _ => toP_row p
    rw [← this]; exact hl
  · rcases hx with ⟨_, rfl⟩ | rfl
    · simp
    · have h1 : l.length * 32 ≤ reachBytes := (h l rfl).1
      rw [reach_eq] at h1
      have e : (l.map toPd).length = l.length := List.length_map ..
      rw [e]
      simp only [room]; omega
theorem room_lt {n : Nat} (h : n * 32 ≤ room) : n < 9223372036854775807 := by simp only [room] at h; omega

theorem Cmp.wf (x0 x1 x2 : (Ty.sl TP).den) (x3 : (Ty.int .u8).den) (_ : (Ty.sl TP).ok x0) (_ : (Ty.sl TP).ok x1) (_ : (Ty.sl TP).ok x2) (h3 : (Ty.int .u8).ok x3) (w0 : (Ty.sl TP).okw x0) (w1 : (Ty.sl TP).okw x1) (w2 : (Ty.sl TP).okw x2) (_ : (Ty.int .u8).okw x3) :
    ∃ H', callW pg 0 7 [(Ty.sl TP).arg x0, (Ty.sl TP).arg x1, (Ty.sl TP).arg x2, (Ty.int .u8).arg x3] [] = some (.bool true, H') := by
  obtain ⟨l, hA, hl⟩ := pairs_val x0 w0
  obtain ⟨m, hB, hm⟩ := pairs_val x1 w1
  obtain ⟨n, hC, hn⟩ := pairs_val x2 w2
  exact Cmp.law hA hB hC (room_lt hl) (room_lt hm) (room_lt hn) (wf_u8 _ h3)
end Go.Proofs.Ytinmpfflkcnkfaa
