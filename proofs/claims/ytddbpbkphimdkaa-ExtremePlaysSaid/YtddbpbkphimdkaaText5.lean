import Derived.Test.YtddbpbkphimdkaaText4
import Derived.Test.YtddbpbkphimdkaaVsSep
namespace Go.Proofs.Ytddbpbkphimdkaa
open Go Go.Vs
variable {ro : Nat} {H : Hp}

/-! an extreme as an object -/
def E (R : Nat) (x : Ext) : Asn where
  p H F := ∃ v, ExtAt H R v x ∧ F = R :: (blkV v).toList
  lt := by
    rintro H F ⟨v, h, rfl⟩ b hb
    rcases List.mem_cons.1 hb with rfl | hb
    · exact (List.getElem?_eq_some_iff.1 h.at_).1
    · rcases h.sl with ⟨rfl, _⟩ | ⟨b', g, pre, post, rfl, hB, _⟩
      · simp [blkV] at hb
      · simp [blkV] at hb; subst hb; exact (List.getElem?_eq_some_iff.1 hB).1
  fr := by
    rintro H H' F ⟨v, h, rfl⟩ hf
    refine ⟨v, ⟨by rw [hf R (List.mem_cons_self ..)]; exact h.at_, ?_, h.ne⟩, rfl⟩
    rcases h.sl with h | ⟨b', g, pre, post, rfl, hB, h⟩
    · exact .inl h
    · exact .inr ⟨b', g, pre, post, rfl, by rw [hf b' (by simp [blkV])]; exact hB, h⟩

theorem adv_t {R : Nat} {x : Ext} {n : Int} (ho : ExtOk x) : Trip (E R x) (callW pg 0 8 [.ptr R 0 0 0, .int .i64 n]) (.tup []) (E R (x.adv n)) := by
  rintro H F ⟨v, h, rfl⟩
  obtain ⟨H', v', hc, hat, hk, hb⟩ := adv_c (n := n) h ho
  refine ⟨H', _, hc, ⟨v', hat, rfl⟩, ⟨hk.len, fun b hb hF => hk.same b hb (fun e => hF (by simp [e])) (by simp [blkV]), fun b hb' => .inl (by rw [hb] at hb'; exact hb')⟩⟩

theorem add_t {R : Nat} {x : Ext} {t n : Int} {o : Bool} (ho : ExtOk x) : Trip (E R x) (callW pg 0 10 [.ptr R 0 0 0, .agg [.int .i64 t, .bool o, .int .i64 n]]) (.int .i64 (takes x.w x.now x.last t)) (E R (x.add (t, o, n))) := by
  rintro H F ⟨v, h, rfl⟩
  by_cases ht : takes x.w x.now x.last t = 0
  · obtain ⟨H', v', hc, hat, hk, hb⟩ := add_yes (n := n) (o := o) h ho ht
    rw [ht]
    refine ⟨H', _, hc, ⟨v', hat, rfl⟩, ⟨hk.len, fun b hb hF => hk.same b hb (fun e => hF (by simp [e])) (fun e => hF (by simp [e])), fun b hb' => ?_⟩⟩
    rcases hb with hb | ⟨_, c, hb, hc⟩
    · exact .inl (by rw [hb] at hb'; exact hb')
    · rw [hb] at hb'
      rcases List.mem_cons.1 hb' with rfl | h
      · exact .inl (by simp)
      · simp at h; subst h; exact .inr hc
  · have e : x.add (t, o, n) = x := by simp [Ext.add, ht]
    rw [e]
    exact ⟨_, _, add_no h ht, ⟨v, h.app _, rfl⟩, Stp.app⟩

theorem get_h {R : Nat} {x : Ext} (h : Hold H (E R x)) : doCall (callW pg) ro 2 (.fn 11 []) [.ptr R 0 0 0] H = some (.tup [.agg [.bool x.best.1, .int .i64 x.best.2.1], .bool x.best.2.2], H) :=
  let ⟨_, _, h, _⟩ := h; get_2 h
theorem kept_h {R : Nat} {x : Ext} (h : Hold H (E R x)) : doCall (callW pg) ro 2 (.fn 14 []) [.ptr R 0 0 0] H = some (.int .i64 x.l.length, H) :=
  let ⟨_, _, h, _⟩ := h; kept_2 h

/-! what is kept -/
theorem dw_nil {p : Smp → Bool} : ∀ {l : List Smp}, l.dropWhile p = [] ↔ ∀ x ∈ l, p x = true
  | [] => by simp
  | a :: l => by
    rw [List.dropWhile_cons]
    by_cases h : p a = true
    · simp [h, dw_nil (l := l)]
    · simp [h]

theorem rdrop_cons {p : Smp → Bool} {s : Smp} {l : List Smp} : rdrop p (s :: l) = if (s :: l).all p = true then [] else s :: rdrop p l := by
  unfold rdrop
  rw [List.reverse_cons, List.dropWhile_append]
  by_cases h : l.all p = true
  · have e : l.reverse.dropWhile p = [] := by
      rw [← List.reverse_reverse l] at h; rw [List.all_reverse] at h
      rw [dw_nil]; intro x hx; exact List.all_eq_true.1 h x hx
    rw [e]
    by_cases h2 : p s = true
    · simp [h2, h]
    · simp [h2]
  · have e : l.reverse.dropWhile p ≠ [] := by
      intro e
      rw [dw_nil] at e
      exact h (List.all_eq_true.2 fun x hx => e x (List.mem_reverse.2 hx))
    have e2 : (l.reverse.dropWhile p).isEmpty = false := by cases hh : l.reverse.dropWhile p <;> simp_all
    simp [e2, h]

/-- Those that no later one beats. -/
def kq (k : Smp → Int) : List Smp → List Smp
  | [] => []
  | s :: m => if m.any (fun x => decide (k s ≤ k x)) = true then kq k m else s :: kq k m

theorem kq_sub {k : Smp → Int} : ∀ {m : List Smp} {s}, s ∈ kq k m → s ∈ m
  | [], _, h => h
  | a :: m, s, h => by
    simp only [kq] at h
    split at h
    · exact List.mem_cons_of_mem _ (kq_sub h)
    · rcases List.mem_cons.1 h with rfl | h
      · exact List.mem_cons_self ..
      · exact List.mem_cons_of_mem _ (kq_sub h)
theorem kq_len {k : Smp → Int} : ∀ {m : List Smp}, (kq k m).length ≤ m.length
  | [] => Nat.le_refl _
  | a :: m => by
    have := kq_len (k := k) (m := m)
    simp only [kq]; split <;> simp <;> omega

theorem kq_snoc {k : Smp → Int} {s : Smp} : ∀ (m : List Smp), kq k (m ++ [s]) = rdrop (fun e => decide (k e ≤ k s)) (kq k m) ++ [s]
  | [] => rfl
  | a :: m => by
    have ih := kq_snoc (k := k) (s := s) m
    simp only [List.cons_append, kq, List.any_append, List.any_cons, List.any_nil, Bool.or_false]
    by_cases h : m.any (fun x => decide (k a ≤ k x)) = true
    · simp [h, ih]
    · have hlt : ∀ x ∈ m, k x < k a := by
        intro x hx
        have : ¬ k a ≤ k x := fun e => h (List.any_eq_true.2 ⟨x, hx, by simpa using e⟩)
        omega
      by_cases h2 : k a ≤ k s
      · have hall : (kq k m).all (fun e => decide (k e ≤ k s)) = true := List.all_eq_true.2 fun x hx => by
          have := hlt x (kq_sub hx); simp; omega
        have e1 : rdrop (fun e => decide (k e ≤ k s)) (kq k m) = [] := by
          cases hq : kq k m with
          | nil => rfl
          | cons b q => rw [rdrop_cons, if_pos (by rw [← hq]; exact hall)]
        have e2 : rdrop (fun e => decide (k e ≤ k s)) (a :: kq k m) = [] := by
          rw [rdrop_cons, if_pos (by rw [List.all_cons, hall]; simpa using h2)]
        simp [h, h2, ih, e1, e2]
      · have e2 : rdrop (fun e => decide (k e ≤ k s)) (a :: kq k m) = a :: rdrop (fun e => decide (k e ≤ k s)) (kq k m) := by
          rw [rdrop_cons, if_neg (by simp [h2])]
        simp [h, h2, ih, e2]

/-- Ascending times. -/
def Asc : List Smp → Prop
  | [] => True
  | s :: l => (∀ x ∈ l, s.1 < x.1) ∧ Asc l

theorem strip_id {c : Int} {l : List Smp} (h : ∀ x ∈ l, c < x.1) : strip c l = l := by
  cases l with
  | nil => rfl
  | cons s l => rw [strip, if_neg (by have := h s (List.mem_cons_self ..); omega)]
theorem strip_sub {c : Int} : ∀ {l : List Smp} {s}, s ∈ strip c l → s ∈ l
  | [], _, h => h
  | a :: l, s, h => by
    simp only [strip] at h
    split at h
    · exact List.mem_cons_of_mem _ (strip_sub h)
    · exact h
theorem strip_asc {c : Int} : ∀ {l : List Smp}, Asc l → Asc (strip c l)
  | [], h => h
  | a :: l, h => by
    simp only [strip]; split
    · exact strip_asc h.2
    · exact h
theorem strip_len {c : Int} : ∀ {l : List Smp}, (strip c l).length ≤ l.length
  | [] => Nat.le_refl _
  | a :: l => by
    have := strip_len (c := c) (l := l)
    simp only [strip]; split <;> simp <;> omega
theorem kq_strip {k : Smp → Int} {c : Int} : ∀ {m : List Smp}, Asc m → strip c (kq k m) = kq k (strip c m)
  | [], _ => rfl
  | s :: m, h => by
    have ih := kq_strip (k := k) (c := c) h.2
    by_cases hs : s.1 ≤ c
    · rw [strip, if_pos hs, kq]
      split
      · exact ih
      · rw [strip, if_pos hs]; exact ih
    · rw [show strip c (s :: m) = s :: m by rw [strip, if_neg hs]]
      refine strip_id fun x hx => ?_
      rcases List.mem_cons.1 (kq_sub hx) with rfl | hx
      · omega
      · have := h.1 x hx; omega
theorem asc_snoc {s : Smp} : ∀ {l : List Smp}, Asc l → (∀ x ∈ l, x.1 < s.1) → Asc (l ++ [s])
  | [], _, _ => ⟨by simp, trivial⟩
  | a :: l, h, hs => ⟨fun x hx => by
      rcases List.mem_append.1 hx with hx | hx
      · exact h.1 x hx
      · simp at hx; subst hx; exact hs a (List.mem_cons_self ..), asc_snoc h.2 fun x hx => hs x (List.mem_cons_of_mem _ hx)⟩

theorem kq_head {k : Smp → Int} : ∀ {m : List Smp}, m ≠ [] → ∃ s q, kq k m = s :: q ∧ s ∈ m ∧ ∀ x ∈ m, k x ≤ k s
  | [], h => absurd rfl h
  | a :: m, _ => by
    by_cases h : m.any (fun x => decide (k a ≤ k x)) = true
    · obtain ⟨y, hy, hay⟩ := List.any_eq_true.1 h
      obtain ⟨s, q, h1, h2, h3⟩ := kq_head (k := k) (m := m) (by intro e; subst e; cases hy)
      refine ⟨s, q, by rw [kq, if_pos h]; exact h1, List.mem_cons_of_mem _ h2, fun x hx => ?_⟩
      rcases List.mem_cons.1 hx with rfl | hx
      · have := h3 y hy; simp at hay; omega
      · exact h3 x hx
    · refine ⟨a, kq k m, by rw [kq, if_neg h], List.mem_cons_self .., fun x hx => ?_⟩
      rcases List.mem_cons.1 hx with rfl | hx
      · omega
      · have : ¬ k a ≤ k x := fun e => h (List.any_eq_true.2 ⟨x, hx, by simpa using e⟩)
        omega

/-- The key of a number: an overflow is above all. -/
def nkey (o : Bool) (n : Int) : Int := if ovN o n then 9223372036854775808 else n
def key (g : Bool) (s : Smp) : Int := if g then nkey s.2.1 s.2.2 else - nkey s.2.1 s.2.2
def NumOk (n : Int) : Prop := -9223372036854775808 ≤ n ∧ n < 9223372036854775808

theorem cmp_key {o p : Bool} {n m : Int} (hn : NumOk n) (hm : NumOk m) : cmpN o n p m = if nkey o n < nkey p m then -1 else if nkey p m < nkey o n then 1 else 0 := by
  obtain ⟨h1, h2⟩ := hn
  obtain ⟨h3, h4⟩ := hm
  unfold cmpN nkey
  cases ovN o n <;> cases ovN p m <;> simp <;> repeat' split
  all_goals omega

theorem beats_key {g : Bool} {s x : Smp} (hn : NumOk s.2.2) (hm : NumOk x.2.2) : pb g s.2.1 s.2.2 x = decide (key g x ≤ key g s) := by
  unfold pb beats key
  rw [cmp_key hn hm]
  cases g <;> simp <;> repeat' split
  all_goals omega

/-! the window behind an extreme -/
structure Win where
  w : Int
  now : Int
  last : Int
  l : List Smp

def Win.adv (r : Win) (n : Int) : Win := ⟨r.w, max r.now (min n 1000000), r.last, strip (max r.now (min n 1000000) - r.w) r.l⟩
def Win.add (r : Win) (s : Smp) : Win := if takes r.w r.now r.last s.1 = 0 then ⟨r.w, r.now, s.1, r.l ++ [heldS s]⟩ else r

structure WinOk (r : Win) : Prop where
  w1 : 1 ≤ r.w
  w2 : r.w ≤ 100
  n1 : 0 ≤ r.now
  n2 : r.now ≤ 1000000
  asc : Asc r.l
  le : ∀ s ∈ r.l, s.1 ≤ r.last
  num : ∀ s ∈ r.l, NumOk s.2.2

def ext (g : Bool) (r : Win) : Ext := ⟨r.w, r.now, r.last, g, kq (key g) r.l⟩

theorem ext_ok {g : Bool} {r : Win} (h : WinOk r) (hl : r.l.length ≤ 1000000) : ExtOk (ext g r) := ⟨h.w1, h.w2, h.n1, h.n2, by have := kq_len (k := key g) (m := r.l); simp only [ext]; omega⟩
theorem ext_adv {g : Bool} {r : Win} {n : Int} (h : WinOk r) : (ext g r).adv n = ext g (r.adv n) := by
  simp only [Ext.adv, ext, Win.adv, kq_strip h.asc]

theorem rdrop_congr {p q : Smp → Bool} : ∀ {l : List Smp}, (∀ x ∈ l, p x = q x) → rdrop p l = rdrop q l
  | [], _ => rfl
  | a :: l, h => by
    rw [rdrop_cons, rdrop_cons, rdrop_congr (l := l) fun x hx => h x (List.mem_cons_of_mem _ hx)]
    have : (a :: l).all p = (a :: l).all q := by
      rw [Bool.eq_iff_iff, List.all_eq_true, List.all_eq_true]
      exact ⟨fun hh x hx => by rw [← h x hx]; exact hh x hx, fun hh x hx => by rw [h x hx]; exact hh x hx⟩
    rw [this]

theorem heldS_num {s : Smp} (h : NumOk s.2.2) : NumOk (heldS s).2.2 := by
  unfold heldS; split
  · exact h
  · simp [NumOk]

theorem ext_add {g : Bool} {r : Win} {s : Smp} (h : WinOk r) (hs : NumOk s.2.2) : (ext g r).add s = ext g (r.add s) := by
  simp only [Ext.add, Win.add, ext]
  by_cases ht : takes r.w r.now r.last s.1 = 0
  · simp only [ht, if_true]
    rw [kq_snoc, rdrop_congr fun x hx => beats_key (g := g) (s := heldS s) (x := x) (heldS_num hs) (h.num x (kq_sub hx))]
  · simp [ht]

theorem win_adv {r : Win} {n : Int} (h : WinOk r) : WinOk (r.adv n) := by
  refine ⟨h.w1, h.w2, ?_, ?_, strip_asc h.asc, fun s hs => h.le s (strip_sub hs), fun s hs => h.num s (strip_sub hs)⟩
  · have := h.n1; simp only [Win.adv]; omega
  · have := h.n2; simp only [Win.adv]; omega

theorem takes_0 {w now last t : Int} (h : takes w now last t = 0) : 0 ≤ t ∧ t ≤ now ∧ last < t := by
  unfold takes at h
  split at h
  · cases h
  · split at h
    · cases h
    · omega

theorem win_add {r : Win} {s : Smp} (h : WinOk r) (hs : NumOk s.2.2) : WinOk (r.add s) := by
  unfold Win.add
  split
  · rename_i ht
    obtain ⟨t1, t2, t3⟩ := takes_0 ht
    refine ⟨h.w1, h.w2, h.n1, h.n2, asc_snoc h.asc fun x hx => ?_, fun x hx => ?_, fun x hx => ?_⟩
    · have := h.le x hx; rw [heldS_t]; omega
    · rcases List.mem_append.1 hx with hx | hx
      · have := h.le x hx; simp only; omega
      · simp at hx; subst hx; simp only [heldS_t]; omega
    · rcases List.mem_append.1 hx with hx | hx
      · exact h.num x hx
      · simp at hx; subst hx; exact heldS_num hs
  · exact h

end Go.Proofs.Ytddbpbkphimdkaa
