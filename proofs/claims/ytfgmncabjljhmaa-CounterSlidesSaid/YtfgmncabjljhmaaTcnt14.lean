import Derived.Test.YtfgmncabjljhmaaTcnt13
namespace Go.Proofs.Ytfgmncabjljhmaa
open Go Go.Vs
variable {ro : Nat} {H : Hp}

theorem plain_srow {l : List Smp} : ∀ r ∈ l.map srow, ∀ x ∈ r, plainD 10 x = true := by
  intro r hr x hx
  obtain ⟨s, _, rfl⟩ := List.mem_map.1 hr
  simp [srow] at hx
  rcases hx with rfl | rfl | rfl <;> rfl

/-- Plain numbers. -/
theorem cmp_num {n m : Int} (hn : n ≠ -9223372036854775808) (hm : m ≠ -9223372036854775808) : cmpN false n false m = if n < m then -1 else if m < n then 1 else 0 := by
  unfold cmpN ovN; simp [hn, hm]
theorem sub_num {n m : Int} (hn : -1000000000000000000 ≤ n ∧ n ≤ 1000000000000000000) (hm : -1000000000000000000 ≤ m ∧ m ≤ 1000000000000000000) : subN (false, n) (false, m) = (false, n - m) := by
  rw [subN_eq]
  have n1 : ¬ n = -9223372036854775808 := by omega
  have n2 : ¬ m = -9223372036854775808 := by omega
  have w : IntKind.i64.wrap (-m) = -m := by rw [IntKind.wrap_i64]; omega
  have n3 : ¬ -m = -9223372036854775808 := by omega
  have e : negN (false, m) = (false, -m) := by unfold negN ovN; simp [n2, w]
  rw [e]
  unfold add2 ovN fitN
  simp only [n1, n3, decide_false, Bool.or_self, Bool.false_eq_true, if_false]
  rw [if_pos (by omega)]
  congr 1
theorem rise_num {n m : Int} (hn : 0 ≤ n ∧ n ≤ 1000000000000000000) (hm : 0 ≤ m ∧ m ≤ 1000000000000000000) : riseN (false, n) (false, m) = (false, if m < n then m else m - n) := by
  unfold riseN
  rw [cmp_num (by omega) (by omega)]
  by_cases h : m < n
  · simp only [h, if_true]
    rw [if_pos (by omega)]
    unfold normN okNum
    have : ¬ m = -9223372036854775808 := by omega
    simp [this]
  · simp only [h, if_false]
    rw [if_neg (by split <;> omega), sub_num (by omega) (by omega)]

/-! the law 'CounterShifts' -/
namespace Shf

def ir (n : Int) : List IV := [.int .u8 n]
def Giv (l : List Int) : Prop := ∀ x ∈ l, 0 ≤ x ∧ x < 256
theorem giv {l : List Int} (h : Giv l) (j : Nat) : 0 ≤ l.getD j 0 ∧ l.getD j 0 < 256 := by
  rw [List.getD_eq_getElem?_getD]
  cases hx : l[j]? with
  | none => simp
  | some x => exact h x (List.mem_of_getElem? hx)
/-- The heights. -/
def pre (l : List Int) : Nat → Int
  | 0 => 0
  | i + 1 => pre l i + l.getD i 0
theorem pre_le {l : List Int} (h : Giv l) : ∀ (i : Nat), 0 ≤ pre l i ∧ pre l i ≤ 256 * i
  | 0 => by simp [pre]
  | i + 1 => by
    have ih := pre_le h i
    have := giv h i
    simp only [pre]; push_cast; omega
/-- The samples: k ticks apart, moved up by u. -/
def sm (l : List Int) (k u : Int) (j : Nat) : Smp := (j * k, false, (pre l (j + 1) + u) * 1000000)
def sms (l : List Int) (k u : Int) (i : Nat) : List Smp := (List.range i).map (sm l k u)
theorem sms_succ (l k u) (i : Nat) : sms l k u (i + 1) = sms l k u i ++ [sm l k u i] := by simp [sms, List.range_succ]
theorem sms_len (l k u) (i : Nat) : (sms l k u i).length = i := by simp [sms]
theorem sms_get {l k u} {i j : Nat} (h : j < i) : (sms l k u i).getD j (0, false, 0) = sm l k u j := by
  rw [List.getD_eq_getElem?_getD]
  unfold sms
  rw [List.getElem?_map, List.getElem?_range h]; rfl

theorem rs_eq {l : List Int} (h : Giv l) {k u : Int} {i : Nat} (hu : 0 ≤ u ∧ u < 65536) (hi : i ≤ 60) : ∀ (n : Nat), n + 1 ≤ i → rs (sms l k u i) n = (List.range n).map fun (j : Nat) => (false, l.getD (j + 1) 0 * 1000000)
  | 0, _ => rfl
  | n + 1, hn => by
    rw [rs_succ, rs_eq h hu hi n (by omega), sms_get (by omega), sms_get (by omega), List.range_succ, List.map_append]
    congr 1
    have h1 := pre_le h (n + 1)
    have h2 := giv h (n + 1)
    have e : pre l (n + 1 + 1) = pre l (n + 1) + l.getD (n + 1) 0 := rfl
    simp only [sm]
    rw [rise_num (by omega) (by rw [e]; omega), e, if_neg (by omega)]
    simp
    omega

theorem L0_eq {e : Env} : runW pg 0 fn5L0 e H = seqO pg 0 fn5L0 (runW pg 0 fn5B0 (keepE [0, 1, 5, 6, 7, 8] e) H) := runW_loopO

theorem loop {A : IV} {l : List Int} (hA : SlA A 1 (l.map ir)) (hG : Giv l) {u : Int} (hu : 0 ≤ u ∧ u < 65536) (hl : l.length ≤ 60) : ∀ (n i : Nat) (H : Hp) (p q : IV), i + n = l.length → Sl H p 3 ((sms l 1 0 i).map srow) → Sl H q 3 ((sms l 3 u i).map srow) → (∀ b ∈ blkS p, b ∉ blkS q) →
    ∃ e' p' q' H', get e' 5 = p' ∧ get e' 6 = q' ∧ runW pg 0 fn5L0 [(0, A), (1, .int .u16 u), (5, p), (6, q), (7, .int .i64 (pre l i)), (8, .int .i64 i)] H = some (.exit 0, e', H') ∧ Sl H' p' 3 ((sms l 1 0 l.length).map srow) ∧ Sl H' q' 3 ((sms l 3 u l.length).map srow)
  | 0, i, H, p, q, hi, hp, hq, hd => by
    have hlen := hA.len
    rw [List.length_map] at hlen
    have e : i = l.length := by omega
    subst e
    refine ⟨[(0, A), (1, .int .u16 u), (5, p), (6, q), (7, .int .i64 (pre l l.length)), (8, .int .i64 l.length), (26, .bool false)], p, q, H, rfl, rfl, ?_, hp, hq⟩
    rw [L0_eq]; simp [fn5B0, hlen]
  | n + 1, i, H, p, q, hi, hp, hq, hd => by
    have hlen := hA.len
    rw [List.length_map] at hlen
    obtain ⟨x, hx⟩ : ∃ x, l[i]? = some x := ⟨_, List.getElem?_eq_getElem (by omega)⟩
    have hD : l.getD i 0 = x := by rw [List.getD_eq_getElem?_getD, hx]; rfl
    have hg := giv hG i
    have hpl := pre_le hG i
    rw [hD] at hg
    have hrow : (l.map ir)[i]? = some [.int .u8 x] := by rw [List.getElem?_map, hx]; rfl
    have hidx := fun H => hA.idx H i (by simp; omega)
    have hlt : (i : Int) < l.length := by omega
    have w1 : IntKind.i64.wrap ((i : Int) + 1) = i + 1 := by rw [IntKind.wrap_i64]; omega
    have w2 : IntKind.i64.wrap x = x := by rw [IntKind.wrap_i64]; omega
    have ep : pre l (i + 1) = pre l i + x := by simp only [pre, hD]
    have w3 : IntKind.i64.wrap (pre l i + x) = pre l (i + 1) := by rw [IntKind.wrap_i64, ep]; omega
    have w4 : IntKind.i64.wrap ((i : Int) * 3) = i * 3 := by rw [IntKind.wrap_i64]; omega
    have w5 : IntKind.i64.wrap u = u := by rw [IntKind.wrap_i64]; omega
    have w6 : IntKind.i64.wrap (pre l (i + 1) + u) = pre l (i + 1) + u := by rw [IntKind.wrap_i64, ep]; omega
    have o1 := fun ro H => of_2 (ro := ro) (H := H) (n := pre l (i + 1)) (by omega) (by omega)
    have o2 := fun ro H => of_2 (ro := ro) (H := H) (n := pre l (i + 1) + u) (by omega) (by omega)
    have s1 : srow (sm l 1 0 i) = [.int .i64 i, .bool false, .int .i64 (pre l (i + 1) * 1000000)] := by simp [srow, sm]
    have s2 : srow (sm l 3 u i) = [.int .i64 (i * 3), .bool false, .int .i64 ((pre l (i + 1) + u) * 1000000)] := by simp [srow, sm]
    obtain ⟨b1, g1, f1, n1, c1, H1, happ1, hp1, st1⟩ := (hp.app [{ rows := [srow (sm l 1 0 i)] }]).push (r := srow (sm l 1 0 i)) (y := .arr H.length 0 0 1 1 true) (bytes := 24) (ro := 0) (by simp) rfl
      (by rw [List.length_map, sms_len]; unfold room; omega) (fun b _ => Nat.zero_le _)
    have hq1 : Sl H1 q 3 ((sms l 3 u i).map srow) := (hq.app [{ rows := [srow (sm l 1 0 i)] }]).fr fun b hb => st1.same b (by have := hq.lt b hb; simp; omega) (fun h => hd b h hb)
    obtain ⟨b2, g2, f2, n2, c2, H2, happ2, hq2, st2⟩ := (hq1.app [{ rows := [srow (sm l 3 u i)] }]).push (r := srow (sm l 3 u i)) (y := .arr H1.length 0 0 1 1 true) (bytes := 24) (ro := 0) (by simp) rfl
      (by rw [List.length_map, sms_len]; unfold room; omega) (fun b _ => Nat.zero_le _)
    have hd1 : ∀ b ∈ blkS (.arr b1 g1 f1 n1 c1 false), b ∉ blkS q := fun b hb hb' => by
      rcases st1.new b hb with h | h
      · exact hd b h hb'
      · have := hq.lt b hb'; simp at h; omega
    have hp2 : Sl H2 (.arr b1 g1 f1 n1 c1 false) 3 ((sms l 1 0 i).map srow ++ [srow (sm l 1 0 i)]) := (hp1.app [{ rows := [srow (sm l 3 u i)] }]).fr fun b hb => st2.same b (by have := hp1.lt b hb; simp; omega) (hd1 b hb)
    have hd2 : ∀ b ∈ blkS (.arr b1 g1 f1 n1 c1 false), b ∉ blkS (.arr b2 g2 f2 n2 c2 false) := fun b hb hb' => by
      rcases st2.new b hb' with h | h
      · exact hd1 b hb h
      · have := hp1.lt b hb; simp at h; omega
    have ih := loop hA hG hu hl n (i + 1) H2 _ _ (by omega) (by rw [sms_succ, List.map_append]; exact hp2) (by rw [sms_succ, List.map_append]; exact hq2) hd2
    obtain ⟨e', p', q', H', q5, q6, hrun, r1, r2⟩ := ih
    push_cast at hrun
    refine ⟨e', p', q', H', q5, q6, ?_, r1, r2⟩
    rw [L0_eq]
    rw [s1] at happ1
    rw [s2] at happ2
    simp [-getElem?_pos, fn5B0, hlen, hlt, hidx, hrow, w1, w2, w3, w4, w5, w6, o1, o2, happ1, happ2, hrun]

theorem sms_ok {l : List Int} (h : Giv l) {k u : Int} {i : Nat} (hu : 0 ≤ u ∧ u < 65536) (hi : i ≤ 60) : Given (sms l k u i) := by
  intro s hs
  obtain ⟨j, hj, rfl⟩ := List.mem_map.1 hs
  have := List.mem_range.1 hj
  have := pre_le h (j + 1)
  simp only [sm, NumOk]; omega

theorem inc_eq {l : List Int} (h : Giv l) {u : Int} (hu : 0 ≤ u ∧ u < 65536) (hl : l.length ≤ 60) (h2 : 2 ≤ l.length) : ∃ s, incL (sms l 1 0 l.length) = (s, true) ∧ incL (sms l 3 u l.length) = (s, true) := by
  unfold incL
  rw [sms_len, sms_len, if_neg (by omega), if_neg (by omega), rs_eq h (by omega) hl _ (by omega), rs_eq h hu hl _ (by omega)]
  exact ⟨_, rfl, rfl⟩

theorem law {A : IV} {l : List Int} (hA : SlA A 1 (l.map ir)) (hG : Giv l) {u : Int} (hu : 0 ≤ u ∧ u < 65536) : ∃ H', callW pg 0 5 [A, .int .u16 u] [] = some (.bool true, H') := by
  obtain ⟨Hk, hkn⟩ := known_c
  have hk2 : doCall (callW pg) 0 2 (.fn 8 []) [] [] = some (.bool true, []) := call2p hkn rfl rfl
  have hlen := hA.len
  rw [List.length_map] at hlen
  rw [callW_eqO (fn := fn5) rfl rfl]
  by_cases h2 : (l.length : Int) < 2
  · refine ⟨[], ?_⟩
    simp [-getElem?_pos, fn5, hk2, hlen, h2]
  by_cases hl : (60 : Int) < l.length
  · refine ⟨[], ?_⟩
    simp [-getElem?_pos, fn5, hk2, hlen, h2, hl]
  obtain ⟨e', p', q', H', q5, q6, hrun, r1, r2⟩ := loop hA hG hu (by omega) l.length 0 [] .nsl .nsl (by omega) (by simp [sms]; exact Sl.nil) (by simp [sms]; exact Sl.nil) (by simp [blkS])
  obtain ⟨⟨so, sn⟩, i1, i2⟩ := inc_eq hG hu (by omega) (by omega)
  have f1 := fun ro => of_g (ro := ro) (H := H') (A := p') (l := sms l 1 0 l.length) (r1.frzA plain_srow) (sms_ok hG (by omega) (by omega)) (by rw [sms_len]; omega)
  have f2 := fun ro Y => of_g (ro := ro) (H := H' ++ Y) (A := q') (l := sms l 3 u l.length) ((r2.app Y).frzA plain_srow) (sms_ok hG hu (by omega)) (by rw [sms_len]; omega)
  rw [i1] at f1
  rw [i2] at f2
  simp only [nval] at f1 f2
  simp [pre] at hrun
  refine ⟨H' ++ [{ rows := [[.bool so, .int .i64 sn]] }, { rows := [[.bool so, .int .i64 sn]] }], ?_⟩
  simp [-getElem?_pos, fn5, hk2, hlen, h2, hl, hrun, q5, q6, f1, f2]

abbrev TL : Ty := .sl (.int .u8)
theorem wf (x0 : TL.den) (x1 : (Ty.int .u16).den) (ok0 : TL.ok x0) (ok1 : (Ty.int .u16).ok x1) : ∃ H', callW pg 0 5 [TL.arg x0, (Ty.int .u16).arg x1] [] = some (.bool true, H') := by
  obtain ⟨l, hA, hl⟩ := sl_arg (e := .int .u8) x0
  refine law (l := l) hA ?_ (wf_u16 x1 ok1)
  rcases hl with ⟨_, rfl⟩ | h
  · intro y hy; cases hy
  · intro y hy
    exact wf_u8 _ ((ok0 l h).2 y hy)

end Shf
end Go.Proofs.Ytfgmncabjljhmaa
