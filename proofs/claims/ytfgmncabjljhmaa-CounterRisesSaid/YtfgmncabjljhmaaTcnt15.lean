import Derived.Test.YtfgmncabjljhmaaTcnt14
namespace Go.Proofs.Ytfgmncabjljhmaa
open Go Go.Vs
variable {ro : Nat} {H : Hp}

/-! the law 'CounterRises' -/
namespace Rse

def ir (n : Int) : List IV := [.int .u16 n]
def Giv (l : List Int) : Prop := ∀ x ∈ l, 0 ≤ x ∧ x < 65536
theorem giv {l : List Int} (h : Giv l) (j : Nat) : 0 ≤ l.getD j 0 ∧ l.getD j 0 < 65536 := by
  rw [List.getD_eq_getElem?_getD]
  cases hx : l[j]? with
  | none => simp
  | some x => exact h x (List.mem_of_getElem? hx)
/-- The heights; begun anew at r. -/
def vs (l : List Int) (r : Nat) : Nat → Int
  | 0 => l.getD 0 0
  | i + 1 => if i + 1 = r then l.getD (i + 1) 0 % 7 else vs l r i + l.getD (i + 1) 0
def al (l : List Int) (r : Nat) : Nat → Int
  | 0 => 0
  | i + 1 => al l r i + if vs l r (i + 1) < vs l r i then vs l r (i + 1) else vs l r (i + 1) - vs l r i
theorem vs_le {l : List Int} (h : Giv l) (r : Nat) : ∀ (i : Nat), 0 ≤ vs l r i ∧ vs l r i ≤ 65536 * (i + 1)
  | 0 => by have := giv h 0; simp only [vs]; omega
  | i + 1 => by
    have ih := vs_le h r i
    have := giv h (i + 1)
    simp only [vs]; push_cast; split <;> omega
theorem al_le {l : List Int} (h : Giv l) (r : Nat) : ∀ (i : Nat), i ≤ 60 → 0 ≤ al l r i ∧ al l r i ≤ 4000000 * i
  | 0, _ => by simp [al]
  | i + 1, hi => by
    have ih := al_le h r i (by omega)
    have h1 := vs_le h r i
    have h2 := vs_le h r (i + 1)
    simp only [al]; push_cast at *; split <;> omega
theorem al_tel {l : List Int} (h : Giv l) : ∀ (i : Nat), al l 0 i = vs l 0 i - vs l 0 0
  | 0 => by simp [al]
  | i + 1 => by
    have ih := al_tel h i
    have hg := giv h (i + 1)
    have e : vs l 0 (i + 1) = vs l 0 i + l.getD (i + 1) 0 := by simp [vs]
    simp only [al]
    rw [if_neg (by omega)]
    omega

def sm (l : List Int) (r j : Nat) : Smp := (j, false, vs l r j * 1000000)
def sms (l : List Int) (r i : Nat) : List Smp := (List.range i).map (sm l r)
theorem sms_succ (l r) (i : Nat) : sms l r (i + 1) = sms l r i ++ [sm l r i] := by simp [sms, List.range_succ]
theorem sms_len (l r) (i : Nat) : (sms l r i).length = i := by simp [sms]
theorem sms_at {l r} {i j : Nat} (h : j < i) : (sms l r i)[j]? = some (sm l r j) := by
  unfold sms
  rw [List.getElem?_map, List.getElem?_range h]; rfl
theorem sms_get {l r} {i j : Nat} (h : j < i) : (sms l r i).getD j (0, false, 0) = sm l r j := by
  rw [List.getD_eq_getElem?_getD, sms_at h]; rfl
theorem sms_ok {l : List Int} (h : Giv l) {r i : Nat} (hi : i ≤ 60) : Given (sms l r i) := by
  intro s hs
  obtain ⟨j, hj, rfl⟩ := List.mem_map.1 hs
  have := List.mem_range.1 hj
  have := vs_le h r j
  simp only [sm, NumOk]; omega

theorem rs_tot {l : List Int} (h : Giv l) {r i : Nat} (hi : i ≤ 60) : ∀ (n : Nat), n + 1 ≤ i → anyOv (rs (sms l r i) n) = false ∧ totN (rs (sms l r i) n) = al l r n * 1000000
  | 0, _ => by simp [rs, anyOv, totN, al]
  | n + 1, hn => by
    have ih := rs_tot h hi n (by omega) (r := r)
    have h1 := vs_le h r n
    have h2 := vs_le h r (n + 1)
    have hr : riseN (sm l r n).2 (sm l r (n + 1)).2 = (false, if vs l r (n + 1) < vs l r n then vs l r (n + 1) * 1000000 else (vs l r (n + 1) - vs l r n) * 1000000) := by
      simp only [sm]
      rw [rise_num (by omega) (by push_cast at *; omega)]
      congr 1
      split <;> split <;> omega
    rw [rs_succ, sms_get (by omega), sms_get (by omega), hr]
    have app : ∀ (x y : List Num), anyOv (x ++ y) = (anyOv x || anyOv y) ∧ totN (x ++ y) = totN x + totN y := fun x y => by
      refine ⟨by simp [anyOv], ?_⟩
      induction x with
      | nil => simp [totN]
      | cons a x ih => simp only [List.cons_append, totN, ih]; omega
    rw [(app _ _).1, (app _ _).2, ih.1, ih.2]
    push_cast at h2
    refine ⟨?_, ?_⟩
    · have : ¬ ((if vs l r (n + 1) < vs l r n then vs l r (n + 1) * 1000000 else (vs l r (n + 1) - vs l r n) * 1000000) = -9223372036854775808) := by split <;> omega
      simp [anyOv, ovN, this]
    · simp only [totN, al]; split <;> omega

theorem inc_eq {l : List Int} (h : Giv l) {r : Nat} {p : Nat} (hp : l.length = p + 1) (hl : l.length ≤ 60) (h2 : 1 ≤ p) : incL (sms l r l.length) = ((false, al l r p * 1000000), true) := by
  obtain ⟨h3, h4⟩ := rs_tot h hl p (by omega) (r := r)
  have hb := al_le h r p (by omega)
  unfold incL
  rw [sms_len, if_neg (by omega), show l.length - 1 = p by omega]
  unfold sumL
  rw [h3, h4]
  simp only [Bool.false_eq_true, if_false]
  unfold fitN
  rw [if_pos (by omega)]

/-- Ahead of round i: the height, what it rose by. -/
def nb (l : List Int) (r : Nat) : Nat → Int
  | 0 => 0
  | i + 1 => vs l r i
def ab (l : List Int) (r : Nat) : Nat → Int
  | 0 => 0
  | i + 1 => al l r i

theorem L0_eq {e : Env} : runW pg 0 fn4L0 e H = seqO pg 0 fn4L0 (runW pg 0 fn4B0 (keepE [0, 5, 6, 7, 8, 9, 10] e) H) := runW_loopO

theorem loop {A : IV} {l : List Int} (hA : SlA A 1 (l.map ir)) (hG : Giv l) {r : Nat} {f : IV} (hl : l.length ≤ 60) (hr : r < l.length) : ∀ (n i : Nat) (H : Hp) (p : IV), i + n = l.length → Sl H p 3 ((sms l r i).map srow) →
    ∃ e' p' H', get e' 5 = p' ∧ get e' 6 = .int .i64 (nb l r l.length) ∧ get e' 7 = .int .i64 (ab l r l.length) ∧ get e' 8 = .int .i64 r ∧ get e' 9 = f ∧ runW pg 0 fn4L0 [(0, A), (5, p), (6, .int .i64 (nb l r i)), (7, .int .i64 (ab l r i)), (8, .int .i64 r), (9, f), (10, .int .i64 i)] H = some (.exit 0, e', H') ∧ Sl H' p' 3 ((sms l r l.length).map srow)
  | 0, i, H, p, hi, hp => by
    have hlen := hA.len
    rw [List.length_map] at hlen
    have e : i = l.length := by omega
    subst e
    refine ⟨[(0, A), (5, p), (6, .int .i64 (nb l r l.length)), (7, .int .i64 (ab l r l.length)), (8, .int .i64 r), (9, f), (10, .int .i64 l.length), (36, .bool false)], p, H, rfl, rfl, rfl, rfl, rfl, ?_, hp⟩
    rw [L0_eq]; simp [fn4B0, hlen]
  | n + 1, i, H, p, hi, hp => by
    have hlen := hA.len
    rw [List.length_map] at hlen
    obtain ⟨x, hx⟩ : ∃ x, l[i]? = some x := ⟨_, List.getElem?_eq_getElem (by omega)⟩
    have hD : l.getD i 0 = x := by rw [List.getD_eq_getElem?_getD, hx]; rfl
    have hg := giv hG i
    rw [hD] at hg
    have hrow : (l.map ir)[i]? = some [.int .u16 x] := by rw [List.getElem?_map, hx]; rfl
    have hidx := fun H => hA.idx H i (by simp; omega)
    have hlt : (i : Int) < l.length := by omega
    have w1 : IntKind.i64.wrap ((i : Int) + 1) = i + 1 := by rw [IntKind.wrap_i64]; omega
    have w2 : IntKind.i64.wrap x = x := by rw [IntKind.wrap_i64]; omega
    have hv := vs_le hG r i
    have o1 := fun ro H => of_2 (ro := ro) (H := H) (n := vs l r i) (by omega) (by omega)
    have s1 : srow (sm l r i) = [.int .i64 i, .bool false, .int .i64 (vs l r i * 1000000)] := by simp [srow, sm]
    obtain ⟨b1, g1, f1, n1, c1, H1, happ1, hp1, st1⟩ := (hp.app [{ rows := [srow (sm l r i)] }]).push (r := srow (sm l r i)) (y := .arr H.length 0 0 1 1 true) (bytes := 24) (ro := 0) (by simp) rfl
      (by rw [List.length_map, sms_len]; unfold room; omega) (fun b _ => Nat.zero_le _)
    have ih := loop hA hG (f := f) hl hr n (i + 1) H1 _ (by omega) (by rw [sms_succ, List.map_append]; exact hp1)
    obtain ⟨e', p', H', q5, q6, q7, q8, q9, hrun, r1⟩ := ih
    push_cast at hrun
    refine ⟨e', p', H', q5, q6, q7, q8, q9, ?_, r1⟩
    rw [L0_eq]
    rw [s1] at happ1
    cases i with
    | zero =>
      have e0 : vs l r 0 = x := by simp only [vs, hD]
      simp only [nb, ab, al, e0, Int.natCast_zero, Int.zero_add] at hlt hidx happ1 hrun o1 ⊢
      have hlt0 : 0 < l.length := by omega
      have hne : ¬ l = [] := fun e => by rw [e] at hlt0; simp at hlt0
      by_cases hr0 : (r : Int) = 0
      · have hr0' : r = 0 := by omega
        simp [-getElem?_pos, fn4B0, hlen, hlt, hlt0, hne, hidx, hx, ir, w2, o1, happ1, hr0, hr0']
        rw [hr0] at hrun
        exact hrun
      · have hr0' : ¬ (0 : Int) = r := by omega
        have hr1 : ¬ r = 0 := by omega
        simp [-getElem?_pos, fn4B0, hlen, hlt, hlt0, hne, hidx, hx, ir, w2, o1, happ1, hr0, hr0', hr1]
        exact hrun
    | succ j =>
      have hvj := vs_le hG r j
      have haj := al_le hG r j (by omega)
      obtain ⟨b, B, jj, hb, hidxp, hB, _, hrowp⟩ := hp.idx (i := j) (row := [.int .i64 j, .bool false, .int .i64 (vs l r j * 1000000)]) (by rw [List.getElem?_map, sms_at (by omega)]; simp [srow, sm])
      have wq : binV .quo (.int .i64 (vs l r j * 1000000)) (.int .i64 1000000) = some (.int .i64 (vs l r j)) := by
        rw [bin_quo (by decide), Int.mul_tdiv_cancel _ (by decide), IntKind.wrap_i64]; congr 2; omega
      have w3 : IntKind.i64.wrap (vs l r j + x) = vs l r j + x := by rw [IntKind.wrap_i64]; omega
      have w4 : IntKind.i64.wrap ((j : Int) + 1 - 1) = j := by rw [IntKind.wrap_i64]; omega
      have w4' : IntKind.i64.wrap (j : Int) = j := by rw [IntKind.wrap_i64]; omega
      have w5 : IntKind.i64.wrap (al l r j + vs l r (j + 1)) = al l r j + vs l r (j + 1) := by push_cast at hv; rw [IntKind.wrap_i64]; omega
      have w6 : IntKind.i64.wrap (al l r j + vs l r (j + 1) - vs l r j) = al l r j + vs l r (j + 1) - vs l r j := by push_cast at hv; rw [IntKind.wrap_i64]; omega
      have hpos : (0 : Int) < (j : Int) + 1 := by omega
      have hrem : binV .rem (.int .u16 x) (.int .u16 7) = some (.int .u16 (x % 7)) := by rw [bin_rem (by decide), Int.tmod_eq_emod_of_nonneg hg.1]
      have w7 : IntKind.i64.wrap (x % 7) = x % 7 := by rw [IntKind.wrap_i64]; omega
      simp only [nb, ab] at hrun ⊢
      push_cast at hlt hidx happ1 hrun w1 ⊢
      by_cases hrj : (j : Int) + 1 = r
      · have ev : vs l r (j + 1) = x % 7 := by simp only [vs]; rw [if_pos (by omega), hD]
        by_cases hlt2 : vs l r (j + 1) < vs l r j
        · have ea : al l r (j + 1) = al l r j + vs l r (j + 1) := by simp only [al]; rw [if_pos hlt2]
          rw [ev] at hlt2 ea w5 happ1 o1 hrun
          rw [ea] at hrun
          simp [-getElem?_pos, fn4B0, hlen, hlt, hidx, hrow, w2, w3, hrj.symm, hpos, hrem, w7, w4, w4', hidxp, hB, hrowp, wq, hlt2, w5, o1, happ1, w1]
          simpa [hrj.symm] using hrun
        · have ea : al l r (j + 1) = al l r j + vs l r (j + 1) - vs l r j := by simp only [al]; rw [if_neg hlt2]; omega
          rw [ev] at hlt2 ea w5 w6 happ1 o1 hrun
          rw [ea] at hrun
          simp [-getElem?_pos, fn4B0, hlen, hlt, hidx, hrow, w2, w3, hrj.symm, hpos, hrem, w7, w4, w4', hidxp, hB, hrowp, wq, hlt2, w5, w6, o1, happ1, w1]
          simpa [hrj.symm] using hrun
      · have ev : vs l r (j + 1) = vs l r j + x := by simp only [vs]; rw [if_neg (by omega), hD]
        have hlt2 : ¬ vs l r (j + 1) < vs l r j := by omega
        have ea : al l r (j + 1) = al l r j + vs l r (j + 1) - vs l r j := by simp only [al]; rw [if_neg hlt2]; omega
        rw [ev] at hlt2 ea w5 w6 happ1 o1 hrun
        rw [ea] at hrun
        simp [-getElem?_pos, fn4B0, hlen, hlt, hidx, hrow, w2, w3, hrj, hpos, w4, w4', hidxp, hB, hrowp, wq, hlt2, w5, w6, o1, happ1, w1]
        exact hrun

theorem law {A : IV} {l : List Int} (hA : SlA A 1 (l.map ir)) (hG : Giv l) {a : Int} (ha : 0 ≤ a ∧ a < 256) : ∃ H', callW pg 0 4 [A, .int .u8 a] [] = some (.bool true, H') := by
  obtain ⟨Hk, hkn⟩ := known_c
  have hk2 : doCall (callW pg) 0 2 (.fn 8 []) [] [] = some (.bool true, []) := call2p hkn rfl rfl
  have hlen := hA.len
  rw [List.length_map] at hlen
  rw [callW_eqO (fn := fn4) rfl rfl]
  by_cases h2 : (l.length : Int) < 2
  · refine ⟨[], ?_⟩
    simp [-getElem?_pos, fn4, hk2, hlen, h2]
  by_cases hl : (60 : Int) < l.length
  · refine ⟨[], ?_⟩
    simp [-getElem?_pos, fn4, hk2, hlen, h2, hl]
  have hL0 : (l.length : Int) ≠ 0 := by omega
  obtain ⟨r, hr⟩ : ∃ r : Nat, (r : Int) = a % l.length := ⟨(a % l.length).toNat, by have := Int.emod_nonneg a hL0; omega⟩
  have hrl : r < l.length := by have := Int.emod_lt_of_pos a (show (0 : Int) < l.length by omega); omega
  obtain ⟨x, hx⟩ : ∃ x, l[0]? = some x := ⟨_, List.getElem?_eq_getElem (by omega)⟩
  have hD : l.getD 0 0 = x := by rw [List.getD_eq_getElem?_getD, hx]; rfl
  have hg := giv hG 0
  rw [hD] at hg
  have hidx := fun H => hA.idx H 0 (by simp; omega)
  simp only [Int.natCast_zero] at hidx
  obtain ⟨p, hp⟩ : ∃ p, l.length = p + 1 := ⟨l.length - 1, by omega⟩
  obtain ⟨e', p', H', q5, q6, q7, q8, q9, hrun, r1⟩ := loop hA hG (f := .int .i64 x) (by omega) hrl l.length 0 [] .nsl (by omega) (by simp [sms]; exact Sl.nil)
  have f1 := fun ro => of_g (ro := ro) (H := H') (A := p') (l := sms l r l.length) (r1.frzA plain_srow) (sms_ok hG (by omega)) (by rw [sms_len]; omega)
  rw [inc_eq hG hp (by omega) (by omega)] at f1
  simp only [nval] at f1
  have hal := al_le hG r p (by omega)
  have hvp := vs_le hG r p
  have en : nb l r l.length = vs l r p := by rw [hp]; rfl
  have ea : ab l r l.length = al l r p := by rw [hp]; rfl
  rw [en] at q6
  rw [ea] at q7
  simp [nb, ab] at hrun
  have w1 : IntKind.i64.wrap a = a := by rw [IntKind.wrap_i64]; omega
  have w2 : IntKind.i64.wrap x = x := by rw [IntKind.wrap_i64]; omega
  have w3 : IntKind.i64.wrap (vs l r p - x) = vs l r p - x := by rw [IntKind.wrap_i64]; omega
  have hrem : binV .rem (.int .i64 a) (.int .i64 l.length) = some (.int .i64 r) := by rw [bin_rem hL0, Int.tmod_eq_emod_of_nonneg ha.1, hr]
  have o1 := fun ro H => of_2 (ro := ro) (H := H) (n := al l r p) (by omega) (by omega)
  have o2 := fun ro H => of_2 (ro := ro) (H := H) (n := vs l r p - x) (by omega) (by omega)
  have hne : ¬ l = [] := fun e => by rw [e] at hp; simp at hp
  have hlt0 : 0 < l.length := by omega
  refine ⟨H' ++ [{ rows := [[.bool false, .int .i64 (al l r p * 1000000)]] }], ?_⟩
  by_cases hr0 : (0 : Int) < r
  · have hr0n : 0 < r := by omega
    simp [-getElem?_pos, fn4, hk2, hlen, h2, hl, w1, hrem, hidx, hx, ir, w2, hne, hlt0, hrun, q5, q6, q7, q8, q9, f1, o1, hr0, hr0n]
  · have hr0n : ¬ 0 < r := by omega
    have ht : vs l r p - x = al l r p := by
      have hr1 : r = 0 := by omega
      rw [hr1, al_tel hG p]; simp only [vs, hD]
    rw [ht] at w3
    have hr1 : ¬ r ≠ 0 := by omega
    have hr2 : r = 0 := by omega
    simp only [hr2] at hrun q5 q6 q7 q8 q9 f1 o1 w3 hrem ht ⊢
    simp [-getElem?_pos, fn4, hk2, hlen, h2, hl, w1, hrem, hidx, hx, ir, w2, hne, hlt0]
    simp at hrun q8
    simp [-getElem?_pos, hrun, q5, q6, q7, q8, q9, f1, o1, ht, w3]

abbrev TL : Ty := .sl (.int .u16)
theorem wf (x0 : TL.den) (x1 : (Ty.int .u8).den) (ok0 : TL.ok x0) (ok1 : (Ty.int .u8).ok x1) : ∃ H', callW pg 0 4 [TL.arg x0, (Ty.int .u8).arg x1] [] = some (.bool true, H') := by
  obtain ⟨l, hA, hl⟩ := sl_arg (e := .int .u16) x0
  refine law (l := l) hA ?_ (wf_u8 x1 ok1)
  rcases hl with ⟨_, rfl⟩ | h
  · intro y hy; cases hy
  · intro y hy
    exact wf_u16 _ ((ok0 l h).2 y hy)

end Rse
end Go.Proofs.Ytfgmncabjljhmaa
