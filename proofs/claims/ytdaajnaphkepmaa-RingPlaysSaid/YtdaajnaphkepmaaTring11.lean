import Derived.Test.YtdaajnaphkepmaaTring10
namespace Go.Proofs.Ytdaajnaphkepmaa
open Go Go.Vs
variable {ro : Nat} {H : Hp}

abbrev Smp := Int × Bool × Int

theorem slA_frz {A : IV} {sz : Nat} {rows : List (List IV)} (h : SlA A sz rows) : frzArg H A = A := by
  rcases h.imm with ⟨rfl, _⟩ | ⟨f, rfl⟩ <;> rfl

theorem M0_eq {e : Env} : runW pg ro fn17L0 e H = seqO pg ro fn17L0 (runW pg ro fn17B0 (keepE [0, 1, 5] e) H) := runW_loopO

theorem samel {A B : IV} {l : List Smp} (hA : SlA A 3 (l.map srow)) (hB : SlA B 3 (l.map srow)) (hl : l.length ≤ 1000000) : ∀ (n i : Nat), i + n = l.length →
    ∃ e', runW pg ro fn17L0 [(0, A), (1, B), (5, .int .i64 i)] H = some (.exit 0, e', H)
  | 0, i, hi' => by
    have hlen := hA.len
    rw [List.length_map] at hlen
    have hf : ¬ ((i : Int) < l.length) := by omega
    refine ⟨[(0, A), (1, B), (5, .int .i64 i), (14, .bool false)], ?_⟩
    rw [M0_eq]; simp [fn17B0, hlen, hf]
  | n + 1, i, hi' => by
    have hlen := hA.len
    rw [List.length_map] at hlen
    obtain ⟨x, hx⟩ : ∃ x, l[i]? = some x := ⟨_, List.getElem?_eq_getElem (by omega)⟩
    obtain ⟨t, o, m⟩ := x
    have hrow : (l.map srow)[i]? = some [.int .i64 t, .bool o, .int .i64 m] := by rw [List.getElem?_map, hx]; rfl
    have hia := fun H => hA.idx H i (by simp; omega)
    have hib := fun H => hB.idx H i (by simp; omega)
    have hlt : (i : Int) < l.length := by omega
    have w1 : IntKind.i64.wrap ((i : Int) + 1) = i + 1 := by rw [IntKind.wrap_i64]; omega
    obtain ⟨e', hrun⟩ := samel hA hB hl n (i + 1) (by omega)
    push_cast at hrun
    refine ⟨e', ?_⟩
    rw [M0_eq]
    simp [-getElem?_pos, fn17B0, hlen, hlt, hia, hib, hrow, w1, hrun]

theorem same_2 {A B : IV} {l : List Smp} (hA : SlA A 3 (l.map srow)) (hB : SlA B 3 (l.map srow)) (hl : l.length ≤ 1000000) : doCall (callW pg) ro 2 (.fn 17 []) [A, B] H = some (.bool true, H) := by
  have hc : callW pg H.length 17 [A, B] H = some (.bool true, H) := by
    have hlen := hA.len
    have hlen2 := hB.len
    rw [List.length_map] at hlen hlen2
    obtain ⟨e', hrun⟩ := samel (ro := H.length) (H := H) hA hB hl l.length 0 (by omega)
    rw [callW_eqO (fn := fn17) rfl rfl]
    simp at hrun
    simp [-getElem?_pos, fn17, hlen, hlen2, hrun]
  exact call2 (args' := [A, B]) (by simp [slA_frz hA, slA_frz hB]) hc rfl (.inl rfl)

/-! a ring as an object -/
def RO (R : Nat) (r : Ring) : Asn where
  p H F := ∃ v, RingAt H R v r ∧ F = R :: (blkV v).toList
  lt := by
    rintro H F ⟨v, h, rfl⟩ b hb
    rcases List.mem_cons.1 hb with rfl | hb
    · exact (List.getElem?_eq_some_iff.1 h.at_).1
    · rcases h.sl with ⟨rfl, _⟩ | ⟨b', g, pre, rfl, hB, _⟩
      · simp [blkV] at hb
      · simp [blkV] at hb; subst hb; exact (List.getElem?_eq_some_iff.1 hB).1
  fr := by
    rintro H H' F ⟨v, h, rfl⟩ hf
    refine ⟨v, ⟨by rw [hf R (List.mem_cons_self ..)]; exact h.at_, ?_, h.ne⟩, rfl⟩
    rcases h.sl with h | ⟨b', g, pre, rfl, hB, h⟩
    · exact .inl h
    · exact .inr ⟨b', g, pre, rfl, by rw [hf b' (by simp [blkV])]; exact hB, h⟩

theorem adv_t {R : Nat} {x : Ring} {n : Int} (ho : RingOk x) : Trip (RO R x) (callW pg 0 11 [.ptr R 0 0 0, .int .i64 n]) (.tup []) (RO R (x.adv n)) := by
  rintro H F ⟨v, h, rfl⟩
  obtain ⟨H', v', hc, hat, hk, hb⟩ := adv_c (n := n) h ho
  refine ⟨H', _, hc, ⟨v', hat, rfl⟩, ⟨hk.len, fun b hb hF => hk.same b hb (fun e => hF (by simp [e])) (by simp [blkV]), fun b hb' => .inl (by rw [hb] at hb'; exact hb')⟩⟩

theorem add_t {R : Nat} {x : Ring} {t n : Int} {o : Bool} (ho : RingOk x) (hn : NumOk n) : Trip (RO R x) (callW pg 0 12 [.ptr R 0 0 0, .agg [.int .i64 t, .bool o, .int .i64 n]]) (.int .i64 (takes x.w x.now x.last t)) (RO R (x.add (t, o, n))) := by
  rintro H F ⟨v, h, rfl⟩
  by_cases ht : takes x.w x.now x.last t = 0
  · obtain ⟨H', v', hc, hat, hk, hb⟩ := add_yes (s := (t, o, n)) h ho ht hn.1 hn.2
    rw [ht]
    refine ⟨H', _, hc, ⟨v', hat, rfl⟩, ⟨hk.len, fun b hb hF => hk.same b hb (fun e => hF (by simp [e])) (fun e => hF (by simp [e])), fun b hb' => ?_⟩⟩
    rcases hb with hb | ⟨_, c, hb, hc⟩
    · exact .inl (by rw [hb] at hb'; exact hb')
    · rw [hb] at hb'
      rcases List.mem_cons.1 hb' with rfl | h
      · exact .inl (by simp)
      · simp at h; subst h; exact .inr hc
  · have e : x.add (t, o, n) = x := by simp [Ring.add, ht]
    rw [e]
    exact ⟨_, _, add_no (s := (t, o, n)) h ht, ⟨v, h.app _, rfl⟩, Stp.app⟩

theorem new_hold {k : Int} : ∃ F, (RO H.length ⟨k, 0, -1, []⟩).p (H ++ [{ rows := [Ring.row ⟨k, 0, -1, []⟩ .nsl] }]) F ∧ ∀ b ∈ F, H.length ≤ b := by
  refine ⟨_, ⟨.nsl, ⟨?_, .inl ⟨rfl, rfl⟩, by simp [blkV]⟩, rfl⟩, ?_⟩
  · simp
  · simp [blkV]

theorem all_h {R : Nat} {r : Ring} (h : Hold H (RO R r)) (ho : RingOk r) : ∃ A, (∀ ro, doCall (callW pg) ro 2 (.fn 18 []) [.ptr R 0 0 0] H = some (A, H)) ∧ SlA A 3 (r.l.map srow) := let ⟨_, _, h, _⟩ := h; all_2 h ho
theorem avg_h {R : Nat} {r : Ring} (h : Hold H (RO R r)) (ho : RingOk r) : doCall (callW pg) ro 2 (.fn 16 []) [.ptr R 0 0 0] H = some (.tup [nval (avgR r.l).1, .bool (avgR r.l).2], H) := let ⟨_, _, h, _⟩ := h; avg_2 h ho
theorem sum_h {R : Nat} {r : Ring} (h : Hold H (RO R r)) (ho : RingOk r) : doCall (callW pg) ro 2 (.fn 13 []) [.ptr R 0 0 0] H = some (nval (sumNN (sumS r.l) (cntO r.l)), H) := by
  obtain ⟨_, _, h, _⟩ := h
  have := sum_2 (ro := ro) h ho
  rwa [sumNN_eq] at this
theorem len_h {R : Nat} {r : Ring} (h : Hold H (RO R r)) : doCall (callW pg) ro 2 (.fn 14 []) [.ptr R 0 0 0] H = some (.int .i64 r.l.length, H) := let ⟨_, _, h, _⟩ := h; len_2 h

/-! windows in time's order -/
def Asc : List Smp → Prop
  | [] => True
  | s :: l => (∀ x ∈ l, s.1 < x.1) ∧ Asc l
theorem strip_id {c : Int} {l : List Smp} (h : ∀ x ∈ l, c < x.1) : strip c l = l := by
  cases l with
  | nil => rfl
  | cons s l => rw [strip, if_neg (by have := h s (List.mem_cons_self ..); omega)]
theorem strip_sub {c : Int} : ∀ {l : List Smp} {s}, s ∈ strip c l → s ∈ l
  | [], _, h => h
  | a :: l, s, h => by
    simp only [strip] at h
    split at h
    · exact List.mem_cons_of_mem _ (strip_sub h)
    · exact h
theorem strip_gt {c : Int} : ∀ {l : List Smp}, Asc l → ∀ s ∈ strip c l, c < s.1
  | [], _, s, hs => by cases hs
  | a :: l, h, s, hs => by
    simp only [strip] at hs
    split at hs
    · exact strip_gt h.2 s hs
    · rcases List.mem_cons.1 hs with rfl | hs
      · omega
      · have := h.1 s hs; omega
theorem strip_asc {c : Int} : ∀ {l : List Smp}, Asc l → Asc (strip c l)
  | [], h => h
  | a :: l, h => by
    simp only [strip]; split
    · exact strip_asc h.2
    · exact h
theorem strip_len {c : Int} : ∀ {l : List Smp}, (strip c l).length ≤ l.length
  | [] => Nat.le_refl _
  | a :: l => by
    have := strip_len (c := c) (l := l)
    simp only [strip]; split <;> simp <;> omega
theorem strip_strip {c d : Int} (hcd : c ≤ d) : ∀ {l : List Smp}, strip d (strip c l) = strip d l
  | [] => rfl
  | a :: l => by
    simp only [strip]
    by_cases h : a.1 ≤ c
    · rw [if_pos h, strip_strip hcd, if_pos (by omega)]
    · rw [if_neg h]; rfl
theorem strip_none {c : Int} : ∀ {l : List Smp}, (∀ s ∈ l, s.1 ≤ c) → strip c l = []
  | [], _ => rfl
  | a :: l, h => by rw [strip, if_pos (h a (List.mem_cons_self ..)), strip_none fun s hs => h s (List.mem_cons_of_mem _ hs)]
theorem asc_snoc {s : Smp} : ∀ {l : List Smp}, Asc l → (∀ x ∈ l, x.1 < s.1) → Asc (l ++ [s])
  | [], _, _ => ⟨by simp, trivial⟩
  | a :: l, h, hs => ⟨fun x hx => by
      rcases List.mem_append.1 hx with hx | hx
      · exact h.1 x hx
      · simp at hx; subst hx; exact hs a (List.mem_cons_self ..), asc_snoc h.2 fun x hx => hs x (List.mem_cons_of_mem _ hx)⟩
theorem asc_len {hi : Int} : ∀ {l : List Smp} {lo : Int}, Asc l → (∀ s ∈ l, lo < s.1 ∧ s.1 ≤ hi) → (l.length : Int) ≤ max 0 (hi - lo)
  | [], _, _, _ => by simp; omega
  | a :: l, lo, h, hb => by
    have ha := hb a (List.mem_cons_self ..)
    have := asc_len (lo := a.1) h.2 fun s hs => ⟨h.1 s hs, (hb s (List.mem_cons_of_mem _ hs)).2⟩
    simp only [List.length_cons]; push_cast; omega
theorem takes_0 {w now last t : Int} (h : takes w now last t = 0) : 0 ≤ t ∧ t ≤ now ∧ last < t := by
  unfold takes at h
  split at h
  · cases h
  · split at h
    · cases h
    · omega

/-- A ring that came to be by its own calls. -/
structure Good (r : Ring) : Prop where
  w1 : 1 ≤ r.w
  w2 : r.w ≤ 100
  n1 : 0 ≤ r.now
  n2 : r.now ≤ 1000000
  asc : Asc r.l
  le : ∀ s ∈ r.l, s.1 ≤ r.last
  nums : ∀ s ∈ r.l, SmpOk s
theorem Good.ok {r : Ring} (h : Good r) (hl : r.l.length ≤ 1000000) : RingOk r := ⟨h.w1, h.w2, h.n1, h.n2, hl, h.nums⟩
theorem Good.adv {r : Ring} {n : Int} (h : Good r) : Good (r.adv n) := by
  refine ⟨h.w1, h.w2, ?_, ?_, strip_asc h.asc, fun s hs => h.le s (strip_sub hs), fun s hs => h.nums s (strip_sub hs)⟩
  · have := h.n1; simp only [Ring.adv]; omega
  · have := h.n2; simp only [Ring.adv]; omega
theorem Good.add {r : Ring} {s : Smp} (h : Good r) (hs : NumOk s.2.2) : Good (r.add s) := by
  unfold Ring.add
  split
  · rename_i ht
    obtain ⟨t1, t2, t3⟩ := takes_0 ht
    refine ⟨h.w1, h.w2, h.n1, h.n2, asc_snoc h.asc fun x hx => ?_, fun x hx => ?_, fun x hx => ?_⟩
    · have := h.le x hx; rw [heldS_t]; omega
    · rcases List.mem_append.1 hx with hx | hx
      · have := h.le x hx; simp only; omega
      · simp at hx; subst hx; simp only [heldS_t]; omega
    · rcases List.mem_append.1 hx with hx | hx
      · exact h.nums x hx
      · simp at hx; subst hx; exact heldS_ok hs.1 hs.2
  · exact h

end Go.Proofs.Ytdaajnaphkepmaa
