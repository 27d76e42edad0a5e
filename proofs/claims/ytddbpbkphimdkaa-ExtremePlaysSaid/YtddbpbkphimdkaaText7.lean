import Derived.Test.YtddbpbkphimdkaaText6
import Derived.Test.YtddbpbkphimdkaaVsArg
namespace Go.Proofs.Ytddbpbkphimdkaa
open Go Go.Vs
variable {ro : Nat} {H : Hp}

/-! the law 'ExtremeBoth' -/
namespace Both

def nr (x : Bool × Int) : List IV := [.bool x.1, .int .i64 x.2]
/-- A number as it is held. -/
def hn (x : Bool × Int) : Bool × Int := if okNum x.1 x.2 then x else (true, 0)
def f (l : List (Bool × Int)) (j : Nat) : Smp := (j, hn (l.getD j (true, 0)))
def fg (l : List (Bool × Int)) (j : Nat) : Smp := (j, negN (hn (l.getD j (true, 0))).1 (hn (l.getD j (true, 0))).2)

/-- What is held. -/
def Held (x : Bool × Int) : Prop := (x.1 = true ∧ x.2 = 0) ∨ (x.1 = false ∧ -9223372036854775808 < x.2 ∧ x.2 < 9223372036854775808)

theorem hn_held {x : Bool × Int} (h : NumOk x.2) : Held (hn x) := by
  obtain ⟨h1, h2⟩ := h
  obtain ⟨o, n⟩ := x
  unfold hn okNum Held
  cases o
  · by_cases e : n = -9223372036854775808
    · simp [e]
    · simp only [e]; simp at *; omega
  · by_cases e : n = 0
    · simp [e]
    · simp [e]
theorem held_ok {x : Bool × Int} (h : Held x) : okNum x.1 x.2 = true ∧ NumOk x.2 := by
  unfold okNum NumOk
  rcases h with ⟨h1, h2⟩ | ⟨h1, h2, h3⟩
  · rw [h1, h2]; decide
  · have : ¬ x.2 = -9223372036854775808 := by omega
    rw [h1]; simp [this]; omega
theorem neg_held {x : Bool × Int} (h : Held x) : Held (negN x.1 x.2) := by
  unfold Held negN ovN
  rcases h with ⟨h1, h2⟩ | ⟨h1, h2, h3⟩
  · rw [h1]; simp
  · have : ¬ x.2 = -9223372036854775808 := by omega
    have w : IntKind.i64.wrap (-x.2) = -x.2 := by rw [IntKind.wrap_i64]; omega
    rw [h1]; simp [this, w]; omega
theorem held_key {x : Bool × Int} (h : Held x) : nkey x.1 x.2 = if x.1 = true then 9223372036854775808 else x.2 := by
  unfold nkey ovN
  rcases h with ⟨h1, h2⟩ | ⟨h1, h2, h3⟩
  · rw [h1]; simp
  · have : ¬ x.2 = -9223372036854775808 := by omega
    rw [h1]; simp [this]

theorem L0_eq {e : Env} : runW pg 0 fn5L0 e H = seqO pg 0 fn5L0 (runW pg 0 fn5B0 (keepE [0, 5, 6, 7, 8, 9, 10, 12] e) H) := runW_loopO

def ovs (l : List (Bool × Int)) : Nat → Nat → Int
  | _, 0 => 0
  | a, n + 1 => (if (hn (l.getD a (true, 0))).1 = true then 1 else 0) + ovs l (a + 1) n
theorem ovs_le (l : List (Bool × Int)) : ∀ (n a : Nat), 0 ≤ ovs l a n ∧ ovs l a n ≤ n
  | 0, _ => by simp [ovs]
  | n + 1, a => by have := ovs_le l n (a + 1); simp only [ovs]; split <;> omega

theorem is_ov {o : Bool} {n : Int} : (hn (o, n)).1 = (o || !okNum o n) := by
  unfold hn
  cases h : okNum o n <;> simp

theorem inner {A : IV} {l : List (Bool × Int)} (hA : SlA A 2 (l.map nr)) {k p q r : IV} {i : Nat} (hi : i < l.length) (hl : l.length ≤ 80) : ∀ (n j : Nat) (s : Int), j + n = i + 1 → 0 ≤ s → s + n ≤ 1000 →
    ∃ e', get e' 0 = A ∧ get e' 5 = k ∧ get e' 6 = p ∧ get e' 7 = q ∧ get e' 8 = r ∧ get e' 9 = .int .i64 (s + ovs l j n) ∧ get e' 10 = .int .i64 i ∧
    runW pg 0 fn5L0 [(0, A), (5, k), (6, p), (7, q), (8, r), (9, .int .i64 s), (10, .int .i64 i), (12, .int .i64 j)] H = some (.exit 2, e', H)
  | 0, j, s, h1, h2, h3 => by
    have e : j = i + 1 := by omega
    subst e
    have hf : ¬ ((i : Int) + 1 ≤ (i : Int)) := by omega
    refine ⟨[(0, A), (5, k), (6, p), (7, q), (8, r), (9, .int .i64 s), (10, .int .i64 i), (12, .int .i64 ((i : Int) + 1)), (88, .bool false)], rfl, rfl, rfl, rfl, rfl, by simp [ovs], rfl, ?_⟩
    rw [L0_eq]
    simp [fn5B0, hf]
  | n + 1, j, s, h1, h2, h3 => by
    have hle : (j : Int) ≤ i := by omega
    have hj : j < l.length := by omega
    have hidx := hA.idx H j (by simpa using hj)
    obtain ⟨o, m, hx⟩ : ∃ o m, l[j]? = some (o, m) := ⟨_, _, List.getElem?_eq_getElem hj⟩
    have hrow : (l.map nr)[j]? = some [.bool o, .int .i64 m] := by rw [List.getElem?_map, hx]; rfl
    have hD : l.getD j (true, 0) = (o, m) := by rw [List.getD_eq_getElem?_getD, hx]; rfl
    have w2 : IntKind.i64.wrap ((j : Int) + 1) = (j : Int) + 1 := by rw [IntKind.wrap_i64]; omega
    have w1 : IntKind.i64.wrap (s + 1) = s + 1 := by rw [IntKind.wrap_i64]; omega
    have hov : (hn (l.getD j (true, 0))).1 = (o || !okNum o m) := by rw [hD]; exact is_ov
    by_cases hc : (o || !okNum o m) = true
    · obtain ⟨e', g0, g5, g6, g7, g8, g9, g10, ih⟩ := inner hA (k := k) (p := p) (q := q) (r := r) hi hl n (j + 1) (s + 1) (by omega) (by omega) (by omega)
      refine ⟨e', g0, g5, g6, g7, g8, ?_, g10, ?_⟩
      · rw [g9]; simp only [ovs, hov, hc, if_true]; congr 1; omega
      · push_cast at ih
        rw [L0_eq]
        cases o with
        | true => simp [-getElem?_pos, fn5B0, hle, hidx, hrow, w1, w2, ih]
        | false =>
          have hk : okNum false m = false := by simpa using hc
          simp [-getElem?_pos, fn5B0, hle, hidx, hrow, is_2, hk, w1, w2, ih]
    · obtain ⟨e', g0, g5, g6, g7, g8, g9, g10, ih⟩ := inner hA (k := k) (p := p) (q := q) (r := r) hi hl n (j + 1) s (by omega) (by omega) (by omega)
      refine ⟨e', g0, g5, g6, g7, g8, ?_, g10, ?_⟩
      · rw [g9]; simp only [ovs, hov, hc]; congr 1; simp
      · push_cast at ih
        have ho : o = false := by cases o <;> simp_all
        subst ho
        have hk : okNum false m = true := by simpa using hc
        rw [L0_eq]
        simp [-getElem?_pos, fn5B0, hle, hidx, hrow, is_2, hk, w2, ih]

theorem f_t (l) (j : Nat) : (f l j).1 = j := rfl
theorem fg_t (l) (j : Nat) : (fg l j).1 = j := rfl

/-- What is given. -/
def Given (l : List (Bool × Int)) : Prop := ∀ x ∈ l, NumOk x.2
theorem given_hn {l : List (Bool × Int)} (h : Given l) (j : Nat) : Held (hn (l.getD j (true, 0))) := by
  apply hn_held
  rw [List.getD_eq_getElem?_getD]
  cases hx : l[j]? with
  | none => simp [NumOk]
  | some x => exact h x (List.mem_of_getElem? hx)
theorem f_num {l} (h : Given l) (j : Nat) : NumOk (f l j).2.2 := (held_ok (given_hn h j)).2
theorem fg_num {l} (h : Given l) (j : Nat) : NumOk (fg l j).2.2 := (held_ok (neg_held (given_hn h j))).2
theorem f_held {l} (h : Given l) (j : Nat) : heldS (f l j) = f l j := by
  unfold heldS; rw [if_pos]; exact (held_ok (given_hn h j)).1
theorem fg_held {l} (h : Given l) (j : Nat) : heldS (fg l j) = fg l j := by
  unfold heldS; rw [if_pos]; exact (held_ok (neg_held (given_hn h j))).1

/-- The three objects ahead of round i. -/
def St (l : List (Bool × Int)) (k i lo hi ng : Nat) : Asn := (E lo (ext false (wn (f l) k i))).star ((E hi (ext true (wn (f l) k i))).star (E ng (ext true (wn (fg l) k i))))

theorem steps {l : List (Bool × Int)} (hG : Given l) {k i lo hi ng : Nat} {x : Bool × Int} (hk : 1 ≤ k) (hk2 : k ≤ 40) (hi1 : i ≤ 1000) (h : Hold H (St l k i lo hi ng)) (hx : x = hn (l.getD i (true, 0))) :
    ∃ H1 H2 H3 H4 H5 H6, callW pg 0 8 [.ptr lo 0 0 0, .int .i64 i] (H ++ [{ rows := [[.bool x.1, .int .i64 x.2]] }]) = some (.tup [], H1) ∧
      callW pg 0 8 [.ptr hi 0 0 0, .int .i64 i] H1 = some (.tup [], H2) ∧ callW pg 0 8 [.ptr ng 0 0 0, .int .i64 i] H2 = some (.tup [], H3) ∧ H3[H.length]? = some { rows := [[.bool x.1, .int .i64 x.2]] } ∧
      callW pg 0 10 [.ptr lo 0 0 0, .agg [.int .i64 i, .bool x.1, .int .i64 x.2]] H3 = some (.int .i64 0, H4) ∧ H4[H.length]? = some { rows := [[.bool x.1, .int .i64 x.2]] } ∧
      callW pg 0 10 [.ptr hi 0 0 0, .agg [.int .i64 i, .bool x.1, .int .i64 x.2]] H4 = some (.int .i64 0, H5) ∧ H5[H.length]? = some { rows := [[.bool x.1, .int .i64 x.2]] } ∧
      callW pg 0 10 [.ptr ng 0 0 0, .agg [.int .i64 i, .bool (negN x.1 x.2).1, .int .i64 (negN x.1 x.2).2]] H5 = some (.int .i64 0, H6) ∧ Hold H6 (St l k (i + 1) lo hi ng) := by
  have okn : ∀ g, ExtOk (ext g (wn (f l) k i)) := fun g => ext_ok (wn_ok (f_t l) hk (by omega) (by omega) fun j _ => f_num hG j) (by simp [wn, len_seg]; omega)
  have okm : ∀ g, ExtOk (ext g (wm (f l) k i)) := fun g => ext_ok (wm_ok (f_t l) hk (by omega) (by omega) fun j _ => f_num hG j) (by simp [wm, len_seg]; omega)
  have oknn : ∀ g, ExtOk (ext g (wn (fg l) k i)) := fun g => ext_ok (wn_ok (fg_t l) hk (by omega) (by omega) fun j _ => fg_num hG j) (by simp [wn, len_seg]; omega)
  have okmn : ∀ g, ExtOk (ext g (wm (fg l) k i)) := fun g => ext_ok (wm_ok (fg_t l) hk (by omega) (by omega) fun j _ => fg_num hG j) (by simp [wm, len_seg]; omega)
  have ea : ∀ g, (ext g (wn (f l) k i)).adv i = ext g (wm (f l) k i) := fun g => by rw [ext_adv (wn_ok (f_t l) hk (by omega) (by omega) fun j _ => f_num hG j), wn_adv (f_t l) hk (by omega)]
  have ean : ∀ g, (ext g (wn (fg l) k i)).adv i = ext g (wm (fg l) k i) := fun g => by rw [ext_adv (wn_ok (fg_t l) hk (by omega) (by omega) fun j _ => fg_num hG j), wn_adv (fg_t l) hk (by omega)]
  have ed : ∀ g, (ext g (wm (f l) k i)).add (f l i) = ext g (wn (f l) k (i + 1)) := fun g => by rw [ext_add (wm_ok (f_t l) hk (by omega) (by omega) fun j _ => f_num hG j) (f_num hG i), wm_add (f_held hG i) rfl hk (by omega) (by omega)]
  have edn : ∀ g, (ext g (wm (fg l) k i)).add (fg l i) = ext g (wn (fg l) k (i + 1)) := fun g => by rw [ext_add (wm_ok (fg_t l) hk (by omega) (by omega) fun j _ => fg_num hG j) (fg_num hG i), wm_add (fg_held hG i) rfl hk (by omega) (by omega)]
  have ht : ∀ g, takes (ext g (wm (f l) k i)).w (ext g (wm (f l) k i)).now (ext g (wm (f l) k i)).last i = 0 := fun g => wm_takes (f := f l) hk (by omega) (by omega)
  have htn : ∀ g, takes (ext g (wm (fg l) k i)).w (ext g (wm (fg l) k i)).now (ext g (wm (fg l) k i)).last i = 0 := fun g => wm_takes (f := fg l) hk (by omega) (by omega)
  have e1 : ((i : Int), x.1, x.2) = f l i := by rw [hx]; rfl
  have e2 : ((i : Int), (negN x.1 x.2).1, (negN x.1 x.2).2) = fg l i := by rw [hx]; rfl
  have h0 := ((Hold.newCell (B := { rows := [[.bool x.1, .int .i64 x.2]] }) h).assoc.imp_r Asn.assoc)
  obtain ⟨H1, c1, h1⟩ := (adv_t (n := i) (okn false)).frame.use0 h0
  rw [ea] at h1
  obtain ⟨H2, c2, h2⟩ := (adv_t (n := i) (okn true)).frame.use0 h1.rot4
  rw [ea] at h2
  obtain ⟨H3, c3, h3⟩ := (adv_t (n := i) (oknn true)).frame.use0 h2.rot4
  rw [ean] at h3
  have h3 := h3.rot4
  have k3 := h3.fst.cell
  obtain ⟨H4, c4, h4⟩ := (add_t (t := i) (o := x.1) (n := x.2) (okm false)).frame.use0 h3.rot4
  rw [ht] at c4
  rw [e1, ed] at h4
  have k4 := h4.snd.snd.snd.cell
  obtain ⟨H5, c5, h5⟩ := (add_t (t := i) (o := x.1) (n := x.2) (okm true)).frame.use0 h4.rot4
  rw [ht] at c5
  rw [e1, ed] at h5
  have k5 := h5.snd.snd.fst.cell
  obtain ⟨H6, c6, h6⟩ := (add_t (t := i) (o := (negN x.1 x.2).1) (n := (negN x.1 x.2).2) (okmn true)).frame.use0 h5.rot4
  rw [htn] at c6
  rw [e2, edn] at h6
  exact ⟨H1, H2, H3, H4, H5, H6, c1, c2, c3, k3, c4, k4, c5, k5, c6, h6.rot4.snd⟩

theorem ovs_pos {l : List (Bool × Int)} : ∀ (n a : Nat), 0 < ovs l a n ↔ ∃ j, a ≤ j ∧ j < a + n ∧ (f l j).2.1 = true
  | 0, a => by simp [ovs]; omega
  | n + 1, a => by
    have ih := ovs_pos (l := l) n (a + 1)
    have := (ovs_le l n (a + 1)).1
    simp only [ovs]
    by_cases h : (hn (l.getD a (true, 0))).1 = true
    · rw [if_pos h]
      exact ⟨fun _ => ⟨a, by omega, by omega, h⟩, fun _ => by omega⟩
    · rw [if_neg h, Int.zero_add, ih]
      constructor
      · rintro ⟨j, h1, h2, h3⟩; exact ⟨j, by omega, by omega, h3⟩
      · rintro ⟨j, h1, h2, h3⟩
        by_cases e : j = a
        · subst e; exact absurd h3 h
        · exact ⟨j, by omega, by omega, h3⟩
theorem ovs_all {l : List (Bool × Int)} : ∀ (n a : Nat), ovs l a n = n ↔ ∀ j, a ≤ j → j < a + n → (f l j).2.1 = true
  | 0, a => by simp [ovs]; omega
  | n + 1, a => by
    have ih := ovs_all (l := l) n (a + 1)
    have := (ovs_le l n (a + 1)).2
    simp only [ovs]
    by_cases h : (hn (l.getD a (true, 0))).1 = true
    · rw [if_pos h]
      constructor
      · intro e j h1 h2
        by_cases e2 : j = a
        · subst e2; exact h
        · exact ih.1 (by omega) j (by omega) (by omega)
      · intro e
        have := ih.2 fun j h1 h2 => e j (by omega) (by omega)
        omega
    · rw [if_neg h]
      exact ⟨fun e => by omega, fun e => absurd (e a (by omega) (by omega)) h⟩

/-- What they tell. -/
theorem told {l : List (Bool × Int)} (hG : Given l) {k i m : Nat} (hm : min (i + 1) k = m + 1) :
    ∃ oa na ob nb oc nc, (ext false (wn (f l) k (i + 1))).best = (oa, na, true) ∧ (ext true (wn (f l) k (i + 1))).best = (ob, nb, true) ∧ (ext true (wn (fg l) k (i + 1))).best = (oc, nc, true) ∧
      ob = decide (0 < ovs l (i + 1 - k) (m + 1)) ∧ oa = decide (ovs l (i + 1 - k) (m + 1) = ((m + 1 : Nat) : Int)) ∧ cmpN oa na ob nb ≤ 0 ∧ (ovs l (i + 1 - k) (m + 1) = 0 → negN oc nc = (oa, na)) := by
  have hne : seg (f l) (i + 1 - k) (m + 1) ≠ [] := by simp [seg]
  have hnn : seg (fg l) (i + 1 - k) (m + 1) ≠ [] := by simp [seg]
  obtain ⟨sa, qa, ha1, ha2, ha3⟩ := kq_head (k := key false) hne
  obtain ⟨sb, qb, hb1, hb2, hb3⟩ := kq_head (k := key true) hne
  obtain ⟨sc, qc, hc1, hc2, hc3⟩ := kq_head (k := key true) hnn
  obtain ⟨ja, ja1, ja2, rfl⟩ := (mem_seg _ _).1 ha2
  obtain ⟨jb, jb1, jb2, rfl⟩ := (mem_seg _ _).1 hb2
  obtain ⟨jc, jc1, jc2, rfl⟩ := (mem_seg _ _).1 hc2
  have K : ∀ j, Held (f l j).2 := given_hn hG
  have KN : ∀ j, Held (fg l j).2 := fun j => neg_held (given_hn hG j)
  have A3 : ∀ j, i + 1 - k ≤ j → j < i + 1 - k + (m + 1) → nkey (f l ja).2.1 (f l ja).2.2 ≤ nkey (f l j).2.1 (f l j).2.2 := fun j h1 h2 => by
    have := ha3 (f l j) ((mem_seg _ _).2 ⟨j, h1, h2, rfl⟩)
    simp only [key] at this; simp at this; omega
  have B3 : ∀ j, i + 1 - k ≤ j → j < i + 1 - k + (m + 1) → nkey (f l j).2.1 (f l j).2.2 ≤ nkey (f l jb).2.1 (f l jb).2.2 := fun j h1 h2 => by
    have := hb3 (f l j) ((mem_seg _ _).2 ⟨j, h1, h2, rfl⟩)
    simpa only [key, if_true] using this
  have C3 : ∀ j, i + 1 - k ≤ j → j < i + 1 - k + (m + 1) → nkey (fg l j).2.1 (fg l j).2.2 ≤ nkey (fg l jc).2.1 (fg l jc).2.2 := fun j h1 h2 => by
    have := hc3 (fg l j) ((mem_seg _ _).2 ⟨j, h1, h2, rfl⟩)
    simpa only [key, if_true] using this
  have top : ∀ x : Bool × Int, Held x → (x.1 = true ↔ 9223372036854775808 ≤ nkey x.1 x.2) := fun x hx => by
    rw [held_key hx]; rcases hx with ⟨h1, _⟩ | ⟨h1, h2, h3⟩ <;> simp [h1]; omega
  refine ⟨(f l ja).2.1, (f l ja).2.2, (f l jb).2.1, (f l jb).2.2, (fg l jc).2.1, (fg l jc).2.2, ?_, ?_, ?_, ?_, ?_, ?_, ?_⟩
  · simp [ext, wn, hm, Ext.best, ha1]
  · simp [ext, wn, hm, Ext.best, hb1]
  · simp [ext, wn, hm, Ext.best, hc1]
  · rw [Bool.eq_iff_iff, decide_eq_true_iff, ovs_pos]
    constructor
    · intro h; exact ⟨jb, jb1, jb2, h⟩
    · rintro ⟨j, h1, h2, h3⟩
      have := B3 j h1 h2
      rw [top _ (K j)] at h3
      rw [top _ (K jb)]; omega
  · rw [Bool.eq_iff_iff, decide_eq_true_iff, ovs_all]
    constructor
    · intro h j h1 h2
      have := A3 j h1 h2
      rw [top _ (K ja)] at h
      rw [top _ (K j)]; omega
    · intro h; exact h ja ja1 ja2
  · rw [cmp_key (held_ok (K ja)).2 (held_ok (K jb)).2]
    have := A3 jb jb1 jb2
    split
    · omega
    · rw [if_neg (by omega)]; omega
  · intro h0
    have no : ∀ j, i + 1 - k ≤ j → j < i + 1 - k + (m + 1) → (f l j).2.1 = false := fun j h1 h2 => by
      cases e : (f l j).2.1 with
      | false => rfl
      | true => have := (ovs_pos (l := l) (m + 1) (i + 1 - k)).2 ⟨j, h1, h2, e⟩; omega
    have val : ∀ j, i + 1 - k ≤ j → j < i + 1 - k + (m + 1) → -9223372036854775808 < (f l j).2.2 ∧ (f l j).2.2 < 9223372036854775808 ∧ nkey (f l j).2.1 (f l j).2.2 = (f l j).2.2 ∧ (fg l j).2 = (false, -(f l j).2.2) ∧ nkey (fg l j).2.1 (fg l j).2.2 = -(f l j).2.2 := fun j h1 h2 => by
      have e := no j h1 h2
      have b : -9223372036854775808 < (f l j).2.2 ∧ (f l j).2.2 < 9223372036854775808 := by
        rcases K j with ⟨h, _⟩ | ⟨_, h⟩
        · rw [e] at h; cases h
        · exact h
      have w : IntKind.i64.wrap (-(f l j).2.2) = -(f l j).2.2 := by rw [IntKind.wrap_i64]; omega
      have eg : (fg l j).2 = negN (f l j).2.1 (f l j).2.2 := rfl
      have n1 : ¬ (f l j).2.2 = -9223372036854775808 := by omega
      have eg2 : (fg l j).2 = (false, -(f l j).2.2) := by rw [eg, e]; simp [negN, ovN, n1, w]
      refine ⟨b.1, b.2, ?_, eg2, ?_⟩
      · rw [held_key (K j), e]; simp
      · rw [held_key (KN j), eg2]; simp
    obtain ⟨a1, a2, a3, a4, a5⟩ := val ja ja1 ja2
    obtain ⟨b1, b2, b3, b4, b5⟩ := val jc jc1 jc2
    have h1 := A3 jc jc1 jc2
    have h2 := C3 ja ja1 ja2
    rw [a3, b3] at h1
    rw [a5, b5] at h2
    have e : (f l ja).2.2 = (f l jc).2.2 := by omega
    have w : IntKind.i64.wrap (-(-(f l jc).2.2)) = (f l jc).2.2 := by rw [IntKind.wrap_i64]; omega
    have n1 : ¬ (-(f l jc).2.2 = -9223372036854775808) := by omega
    rw [b4, no ja ja1 ja2, e]
    simp only [negN, ovN]
    simp [n1]
    simpa using w


theorem L1_eq {e : Env} : runW pg 0 fn5L1 e H = seqO pg 0 fn5L1 (runW pg 0 fn5B1 (keepE [0, 5, 6, 7, 8, 10] e) H) := runW_loopO

theorem body {A : IV} {l : List (Bool × Int)} (hA : SlA A 2 (l.map nr)) (hG : Given l) {k i lo hi ng : Nat} (hk : 1 ≤ k) (hk2 : k ≤ 40) (hi1 : i < l.length) (hl : l.length ≤ 80) (h : Hold H (St l k i lo hi ng)) :
    ∃ H', Hold H' (St l k (i + 1) lo hi ng) ∧ runW pg 0 fn5B1 [(0, A), (5, .int .i64 k), (6, .ptr lo 0 0 0), (7, .ptr hi 0 0 0), (8, .ptr ng 0 0 0), (10, .int .i64 i)] H =
      some (.nrm, [(0, A), (5, .int .i64 k), (6, .ptr lo 0 0 0), (7, .ptr hi 0 0 0), (8, .ptr ng 0 0 0), (10, .int .i64 ((i : Int) + 1))], H') := by
  obtain ⟨o, n, hx⟩ : ∃ o n, l[i]? = some (o, n) := ⟨_, _, List.getElem?_eq_getElem hi1⟩
  have hrow : (l.map nr)[i]? = some [.bool o, .int .i64 n] := by rw [List.getElem?_map, hx]; rfl
  have hD : l.getD i (true, 0) = (o, n) := by rw [List.getD_eq_getElem?_getD, hx]; rfl
  have hidx := fun H => hA.idx H i (by simpa using hi1)
  have hlen := hA.len
  rw [List.length_map] at hlen
  obtain ⟨xo, xn, hxx⟩ : ∃ xo xn, hn (o, n) = (xo, xn) := ⟨_, _, rfl⟩
  obtain ⟨H1, H2, H3, H4, H5, H6, c1, c2, c3, k3, c4, k4, c5, k5, c6, h6⟩ := steps hG (x := (xo, xn)) hk hk2 (by omega) h (by rw [hD, hxx])
  obtain ⟨m, hm⟩ : ∃ m, min (i + 1) k = m + 1 := ⟨min (i + 1) k - 1, by omega⟩
  obtain ⟨oa, na, ob, nb, oc, nc, B1, B2, B3, F1, F2, F3, F4⟩ := told hG hm
  have g1 := fun ro => get_h (ro := ro) h6.fst
  have g2 := fun ro Y => get_h (ro := ro) (h6.snd.fst.app Y)
  have g3 := fun ro Y => get_h (ro := ro) (h6.snd.snd.app Y)
  rw [B1] at g1
  rw [B2] at g2
  rw [B3] at g3
  have w1 : IntKind.i64.wrap ((i : Int) + 1) = i + 1 := by rw [IntKind.wrap_i64]; omega
  have w2 : IntKind.i64.wrap ((i : Int) - k) = i - k := by rw [IntKind.wrap_i64]; omega
  have w3 : IntKind.i64.wrap ((i : Int) - k + 1) = i - k + 1 := by rw [IntKind.wrap_i64]; omega
  have hmx : max 0 ((i : Int) - k + 1) = ((i + 1 - k : Nat) : Int) := by omega
  have hmn : min ((i : Int) + 1) k = ((m + 1 : Nat) : Int) := by omega
  have hlt : (i : Int) < l.length := by omega
  obtain ⟨e', q0, q5, q6, q7, q8, q9, q10, hin⟩ := inner (H := H6) hA (k := .int .i64 k) (p := .ptr lo 0 0 0) (q := .ptr hi 0 0 0) (r := .ptr ng 0 0 0) hi1 hl (m + 1) (i + 1 - k) 0 (by omega) (by omega) (by omega)
  rw [Int.zero_add] at q9
  generalize ovs l (i + 1 - k) (m + 1) = v at F1 F2 F4 q9
  have hneg := fun (ro : Nat) (H : Hp) => neg_2 (ro := ro) (H := H) (o := xo) (n := xn)
  have hnegc := fun (ro : Nat) (H : Hp) => neg_2 (ro := ro) (H := H) (o := oc) (n := nc)
  have hcmp := fun (ro : Nat) (H : Hp) => cmp_2 (ro := ro) (H := H) (o := oa) (n := na) (p := ob) (m := nb)
  have hF3 : ¬ 0 < cmpN oa na ob nb := by omega
  refine ⟨_, Hold.app h6 [{ rows := [[.bool oa, .int .i64 na]] }, { rows := [[.bool ob, .int .i64 nb]] }, { rows := [[.bool oc, .int .i64 nc]] }], ?_⟩
  simp only at c1 c2 c3 k3 c4 k4 c5 k5 c6 hneg
  have hkx : okNum o n = true ∧ xo = o ∧ xn = n ∨ okNum o n = false ∧ xo = true ∧ xn = 0 := by
    unfold hn at hxx
    cases hk : okNum o n with
    | true => rw [hk] at hxx; simp at hxx; exact .inl ⟨rfl, hxx.1.symm, hxx.2.symm⟩
    | false => rw [hk] at hxx; simp at hxx; exact .inr ⟨rfl, hxx.1, hxx.2.symm⟩
  have D1 : decide (0 < v) = ob := F1.symm
  have D2 : decide (v = (m : Int) + 1) = oa := by rw [F2]; push_cast; rfl
  by_cases hv : v = 0
  · have F4 := F4 hv
    rw [F4] at hnegc
    have D3 : decide (v = 0) = true := by simp [hv]
    rcases hkx with ⟨hkn, rfl, rfl⟩ | ⟨hkn, rfl, rfl⟩
    · simp [-getElem?_pos, fn5B1, hlen, hlt, hidx, hrow, is_2, hkn, c1, c2, c3, k3, c4, k4, c5, k5, hneg, c6, w1, w2, w3, hmx, hmn, hin, q0, q5, q6, q7, q8, q9, q10, g1, g2, g3, D1, D2, D3, hcmp, hF3, hnegc]
    · simp [-getElem?_pos, fn5B1, hlen, hlt, hidx, hrow, is_2, hkn, c1, c2, c3, k3, c4, k4, c5, k5, hneg, c6, w1, w2, w3, hmx, hmn, hin, q0, q5, q6, q7, q8, q9, q10, g1, g2, g3, D1, D2, D3, hcmp, hF3, hnegc]
  · have D3 : decide (v = 0) = false := by simp [hv]
    rcases hkx with ⟨hkn, rfl, rfl⟩ | ⟨hkn, rfl, rfl⟩
    · simp [-getElem?_pos, fn5B1, hlen, hlt, hidx, hrow, is_2, hkn, c1, c2, c3, k3, c4, k4, c5, k5, hneg, c6, w1, w2, w3, hmx, hmn, hin, q0, q5, q6, q7, q8, q9, q10, g1, g2, g3, D1, D2, D3, hcmp, hF3]
    · simp [-getElem?_pos, fn5B1, hlen, hlt, hidx, hrow, is_2, hkn, c1, c2, c3, k3, c4, k4, c5, k5, hneg, c6, w1, w2, w3, hmx, hmn, hin, q0, q5, q6, q7, q8, q9, q10, g1, g2, g3, D1, D2, D3, hcmp, hF3]

theorem outer {A : IV} {l : List (Bool × Int)} (hA : SlA A 2 (l.map nr)) (hG : Given l) {k lo hi ng : Nat} (hk : 1 ≤ k) (hk2 : k ≤ 40) (hl : l.length ≤ 80) : ∀ (d i : Nat) (H : Hp), i + d = l.length → Hold H (St l k i lo hi ng) →
    ∃ e' H', runW pg 0 fn5L1 [(0, A), (5, .int .i64 k), (6, .ptr lo 0 0 0), (7, .ptr hi 0 0 0), (8, .ptr ng 0 0 0), (10, .int .i64 i)] H = some (.exit 0, e', H')
  | 0, i, H, hd, h => by
    have hlen := hA.len
    rw [List.length_map] at hlen
    have hf : ¬ ((i : Int) < l.length) := by omega
    refine ⟨[(0, A), (5, .int .i64 k), (6, .ptr lo 0 0 0), (7, .ptr hi 0 0 0), (8, .ptr ng 0 0 0), (10, .int .i64 i), (38, .bool false)], H, ?_⟩
    rw [L1_eq]
    simp [fn5B1, hlen, hf]
  | d + 1, i, H, hd, h => by
    obtain ⟨H1, h1, hb⟩ := body hA hG hk hk2 (i := i) (by omega) hl h
    obtain ⟨e', H2, hr⟩ := outer hA hG hk hk2 hl d (i + 1) H1 (by omega) h1
    push_cast at hr
    refine ⟨e', H2, ?_⟩
    rw [L1_eq]
    simp [hb, hr]

theorem start (g : Bool) (f : Nat → Smp) (k : Nat) : Ext.row ⟨(k : Int), 0, -1, g, []⟩ .nsl = Ext.row (ext g (wn f k 0)) .nsl := by simp [ext, wn, Ext.row, seg]

theorem new_hold {g : Bool} {f : Nat → Smp} {k : Nat} : ∃ F, (E H.length (ext g (wn f k 0))).p (H ++ [{ rows := [Ext.row ⟨(k : Int), 0, -1, g, []⟩ .nsl] }]) F ∧ ∀ b ∈ F, H.length ≤ b := by
  refine ⟨_, ⟨.nsl, ⟨?_, .inl ⟨rfl, ?_⟩, by simp [blkV]⟩, rfl⟩, ?_⟩
  · rw [start g f k]; simp
  · simp [ext, wn, kq, seg]
  · simp [blkV]

theorem law {A : IV} {l : List (Bool × Int)} (hA : SlA A 2 (l.map nr)) (hG : Given l) {a : Int} (ha0 : 0 ≤ a) (ha : a < 256) : ∃ H', callW pg 0 5 [A, .int .u8 a] [] = some (.bool true, H') := by
  obtain ⟨Hk, hkn⟩ := known_c
  have hk2 : doCall (callW pg) 0 2 (.fn 6 []) [] [] = some (.bool true, []) := call2p hkn rfl rfl
  have hlen := hA.len
  rw [List.length_map] at hlen
  rw [callW_eqO (fn := fn5) rfl rfl]
  by_cases hl : (80 : Int) < l.length
  · refine ⟨[], ?_⟩
    simp [-getElem?_pos, fn5, hk2, hlen, hl]
  obtain ⟨k, hk⟩ : ∃ k : Nat, (k : Int) = a % 40 + 1 := ⟨(a % 40 + 1).toNat, by omega⟩
  have hmin : min (max (k : Int) 1) 100 = k := by omega
  have new1 := new_c (ro := 0) (H := []) (n := (k : Int)) (g := false) (Nat.le_refl _)
  have new2 := new_c (ro := 0) (H := [{ rows := [Ext.row ⟨(k : Int), 0, -1, false, []⟩ .nsl] }]) (n := (k : Int)) (g := true) (by simp)
  have new3 := new_c (ro := 0) (H := [{ rows := [Ext.row ⟨(k : Int), 0, -1, false, []⟩ .nsl] }, { rows := [Ext.row ⟨(k : Int), 0, -1, true, []⟩ .nsl] }]) (n := (k : Int)) (g := true) (by simp)
  rw [hmin] at new1 new2 new3
  have hat : Hold ([{ rows := [Ext.row ⟨(k : Int), 0, -1, false, []⟩ .nsl] }, { rows := [Ext.row ⟨(k : Int), 0, -1, true, []⟩ .nsl] }, { rows := [Ext.row ⟨(k : Int), 0, -1, true, []⟩ .nsl] }] : Hp) (St l k 0 0 1 2) := by
    have a1 : Hold ([] ++ [{ rows := [Ext.row ⟨(k : Int), 0, -1, false, []⟩ .nsl] }]) (E 0 (ext false (wn (f l) k 0))) := let ⟨F, h, _⟩ := new_hold (H := []) (g := false) (f := f l) (k := k); ⟨F, h⟩
    have a2 := a1.new (new_hold (g := true) (f := f l) (k := k))
    have a3 := a2.new (new_hold (g := true) (f := fg l) (k := k))
    exact a3.assoc
  obtain ⟨e', H', hr⟩ := outer hA hG (k := k) (lo := 0) (hi := 1) (ng := 2) (by omega) (by omega) (by omega) l.length 0 _ (by omega) hat
  have t1 : binV .rem (.int .u8 a) (.int .u8 40) = some (.int .u8 (a % 40)) := by rw [bin_rem (by decide), Int.tmod_eq_emod_of_nonneg ha0]
  have w0 : IntKind.i64.wrap (a % 40) = a % 40 := by rw [IntKind.wrap_i64]; omega
  have w1 : IntKind.i64.wrap (a % 40 + 1) = k := by rw [IntKind.wrap_i64]; omega
  refine ⟨H', ?_⟩
  simp [Ext.row] at new1 new2 new3 hr
  simp [-getElem?_pos, fn5, hk2, hlen, hl, t1, w0, w1, new1, new2, new3, hr]

abbrev TL : Ty := .sl (.pair .bool (.int .i64))
theorem wf (x0 : TL.den) (x1 : (Ty.int .u8).den) (ok0 : TL.ok x0) (ok1 : (Ty.int .u8).ok x1) : ∃ H', callW pg 0 5 [TL.arg x0, (Ty.int .u8).arg x1] [] = some (.bool true, H') := by
  obtain ⟨l, hA, hl⟩ := sl_arg (e := .pair .bool (.int .i64)) x0
  have e : l.map (Ty.pair .bool (.int .i64)).enc = l.map nr := rfl
  rw [e] at hA
  have hG : Given l := by
    rcases hl with ⟨_, rfl⟩ | h
    · intro x hx; cases hx
    · intro x hx
      exact wf_i64 _ ((ok0 l h).2 x hx).2
  obtain ⟨h1, h2⟩ := wf_u8 x1 ok1
  exact law hA hG h1 h2

end Both
end Go.Proofs.Ytddbpbkphimdkaa
