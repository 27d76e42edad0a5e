import Derived.Test.YtfgmncabjljhmaaTcnt16
namespace Go.Proofs.Ytfgmncabjljhmaa
open Go Go.Vs
variable {ro : Nat} {H : Hp}

/-- What a clock says to a time. -/
def takes (w now last t : Int) : Int := if t < 0 ∨ now < t ∨ t ≤ IntKind.i64.wrap (now - w) then 152 else if t ≤ last then 150 else 0

/-- The samples that are left when those up to a time have gone. -/
def strip (c : Int) : List (Int × Bool × Int) → List (Int × Bool × Int)
  | [] => []
  | s :: l => if s.1 ≤ c then strip c l else s :: l

/-! windows in time's order -/
def Asc : List Smp → Prop
  | [] => True
  | s :: l => (∀ x ∈ l, s.1 < x.1) ∧ Asc l
theorem strip_id {c : Int} {l : List Smp} (h : ∀ x ∈ l, c < x.1) : strip c l = l := by
  cases l with
  | nil => rfl
  | cons s l => rw [strip, if_neg (by have := h s (List.mem_cons_self ..); omega)]
theorem strip_sub {c : Int} : ∀ {l : List Smp} {s}, s ∈ strip c l → s ∈ l
  | [], _, h => h
  | a :: l, s, h => by
    simp only [strip] at h
    split at h
    · exact List.mem_cons_of_mem _ (strip_sub h)
    · exact h
theorem strip_gt {c : Int} : ∀ {l : List Smp}, Asc l → ∀ s ∈ strip c l, c < s.1
  | [], _, s, hs => by cases hs
  | a :: l, h, s, hs => by
    simp only [strip] at hs
    split at hs
    · exact strip_gt h.2 s hs
    · rcases List.mem_cons.1 hs with rfl | hs
      · omega
      · have := h.1 s hs; omega
theorem strip_asc {c : Int} : ∀ {l : List Smp}, Asc l → Asc (strip c l)
  | [], h => h
  | a :: l, h => by
    simp only [strip]; split
    · exact strip_asc h.2
    · exact h
theorem strip_len {c : Int} : ∀ {l : List Smp}, (strip c l).length ≤ l.length
  | [] => Nat.le_refl _
  | a :: l => by
    have := strip_len (c := c) (l := l)
    simp only [strip]; split <;> simp <;> omega
theorem strip_strip {c d : Int} (hcd : c ≤ d) : ∀ {l : List Smp}, strip d (strip c l) = strip d l
  | [] => rfl
  | a :: l => by
    simp only [strip]
    by_cases h : a.1 ≤ c
    · rw [if_pos h, strip_strip hcd, if_pos (by omega)]
    · rw [if_neg h]; rfl
theorem strip_none {c : Int} : ∀ {l : List Smp}, (∀ s ∈ l, s.1 ≤ c) → strip c l = []
  | [], _ => rfl
  | a :: l, h => by rw [strip, if_pos (h a (List.mem_cons_self ..)), strip_none fun s hs => h s (List.mem_cons_of_mem _ hs)]
theorem asc_snoc {s : Smp} : ∀ {l : List Smp}, Asc l → (∀ x ∈ l, x.1 < s.1) → Asc (l ++ [s])
  | [], _, _ => ⟨by simp, trivial⟩
  | a :: l, h, hs => ⟨fun x hx => by
      rcases List.mem_append.1 hx with hx | hx
      · exact h.1 x hx
      · simp at hx; subst hx; exact hs a (List.mem_cons_self ..), asc_snoc h.2 fun x hx => hs x (List.mem_cons_of_mem _ hx)⟩
theorem asc_len {hi : Int} : ∀ {l : List Smp} {lo : Int}, Asc l → (∀ s ∈ l, lo < s.1 ∧ s.1 ≤ hi) → (l.length : Int) ≤ max 0 (hi - lo)
  | [], _, _, _ => by simp; omega
  | a :: l, lo, h, hb => by
    have ha := hb a (List.mem_cons_self ..)
    have := asc_len (lo := a.1) h.2 fun s hs => ⟨h.1 s hs, (hb s (List.mem_cons_of_mem _ hs)).2⟩
    simp only [List.length_cons]; push_cast; omega
theorem takes_0 {w now last t : Int} (h : takes w now last t = 0) : 0 ≤ t ∧ t ≤ now ∧ last < t := by
  unfold takes at h
  split at h
  · cases h
  · split at h
    · cases h
    · omega


/-- A counter: its window, its time, its last time, its samples. -/
structure Cnt where
  w : Int
  now : Int
  last : Int
  l : List Smp
def Cnt.row (r : Cnt) (v : IV) : List IV := [.int .i64 r.w, .int .i64 r.now, .int .i64 r.last, v]
structure CntAt (H : Hp) (R : Nat) (v : IV) (r : Cnt) : Prop where
  at_ : H[R]? = some { rows := [r.row v] }
  sl : Sl H v 3 (r.l.map srow)
  ne : R ∉ blkS v

def CO (R : Nat) (r : Cnt) : Asn where
  p H F := ∃ v, CntAt H R v r ∧ F = R :: blkS v
  lt := by
    rintro H F ⟨v, h, rfl⟩ b hb
    rcases List.mem_cons.1 hb with rfl | hb
    · exact (List.getElem?_eq_some_iff.1 h.at_).1
    · exact h.sl.lt b hb
  fr := by
    rintro H H' F ⟨v, h, rfl⟩ hf
    exact ⟨v, ⟨by rw [hf R (List.mem_cons_self ..)]; exact h.at_, h.sl.fr fun b hb => hf b (List.mem_cons_of_mem _ hb), h.ne⟩, rfl⟩

theorem new_c {n : Int} (hr : ro ≤ H.length) : callW pg ro 12 [.int .i64 n] H = some (.ptr H.length 0 0 0, H ++ [{ rows := [Cnt.row ⟨min (max n 1) 100, 0, -1, []⟩ .nsl] }]) := by
  rw [callW_eqO (fn := fn12) rfl rfl]
  simp [fn12, Cnt.row]
theorem new_hold {k : Int} : ∃ F, (CO H.length ⟨k, 0, -1, []⟩).p (H ++ [{ rows := [Cnt.row ⟨k, 0, -1, []⟩ .nsl] }]) F ∧ ∀ b ∈ F, H.length ≤ b :=
  ⟨_, ⟨.nsl, ⟨by simp, Sl.nil, by simp [blkS]⟩, rfl⟩, by simp [blkS]⟩

structure CntOk (r : Cnt) : Prop where
  w1 : 1 ≤ r.w
  w2 : r.w ≤ 100
  n1 : 0 ≤ r.now
  n2 : r.now ≤ 1000000
  len : r.l.length ≤ 100000
  num : Given r.l

/-! time goes on -/
theorem A0_eq {e : Env} : runW pg 0 fn13L0 e H = seqO pg 0 fn13L0 (runW pg 0 fn13B0 (keepE [0] e) H) := runW_loopO

theorem aloop {R : Nat} {w now last : Int} (hw : IntKind.i64.wrap (now - w) = now - w) : ∀ (l : List Smp) (H : Hp) (v : IV), CntAt H R v ⟨w, now, last, l⟩ →
    ∃ H' v', (∃ e', runW pg 0 fn13L0 [(0, .ptr R 0 0 0)] H = some (.exit 0, e', H')) ∧ CntAt H' R v' ⟨w, now, last, strip (now - w) l⟩ ∧ Stp H H' [R] [R] ∧ blkS v' = blkS v := by
  intro l
  induction l with
  | nil =>
    intro H v h
    have hR := h.at_
    have hlen := h.sl.len
    simp at hlen
    refine ⟨H, v, ⟨[(0, .ptr R 0 0 0), (38, .bool false)], ?_⟩, h, Stp.refl, rfl⟩
    rw [A0_eq]
    simp [-getElem?_pos, fn13B0, hR, Cnt.row, hlen]
  | cons s l ih =>
    intro H v h
    have hR := h.at_
    have hlt : R < H.length := (List.getElem?_eq_some_iff.1 hR).1
    obtain ⟨t, o, n⟩ := s
    have hlen := h.sl.len
    obtain ⟨b, B, j, hb, hidx, hB, hfz, hrow⟩ := h.sl.idx (i := 0) (row := [.int .i64 t, .bool o, .int .i64 n]) rfl
    simp at hlen hidx
    have h0 : (0 : Int) < (l.length : Int) + 1 := by omega
    rw [A0_eq]
    by_cases hg : t ≤ now - w
    · obtain ⟨v1, hs1, hv1, hb1⟩ := Sl.tail (r := srow (t, o, n)) (rows := l.map srow) (by simpa using h.sl)
      have hat : CntAt (H.set R { rows := [Cnt.row ⟨w, now, last, l⟩ v1] }) R v1 ⟨w, now, last, l⟩ := ⟨by rw [List.getElem?_set_self hlt], hv1.set (by rw [hb1]; exact h.ne), by rw [hb1]; exact h.ne⟩
      obtain ⟨H', v', ⟨e', hrun⟩, h1, h2, h3⟩ := ih _ _ hat
      refine ⟨H', v', ⟨e', ?_⟩, by rw [strip, if_pos hg]; exact h1, ⟨by have := h2.len; simpa using this, fun c hc hne => ?_, fun c hc => .inl hc⟩, by rw [h3, hb1]⟩
      · have hc1 := hv1.cells
        have hc2 := hv1.cok
        have hbody : runW pg 0 fn13B0 [(0, .ptr R 0 0 0)] H = some (.nrm, [(0, .ptr R 0 0 0)], H.set R { rows := [Cnt.row ⟨w, now, last, l⟩ v1] }) := by
          simp [-getElem?_pos, fn13B0, hR, hlt, Cnt.row, hlen, h0, hidx, hB, hrow, hw, hg, hs1, hc1]
        simp [hbody, hrun]
      · rw [h2.same c (by simpa using hc) hne, List.getElem?_set_ne (fun e => hne (by rw [e]; simp))]
    · refine ⟨H, v, ⟨[(0, .ptr R 0 0 0), (38, .bool false)], ?_⟩, by rw [strip, if_neg hg]; exact h, Stp.refl, rfl⟩
      simp [-getElem?_pos, fn13B0, hR, Cnt.row, hlen, h0, hidx, hB, hrow, hw, hg]

def Cnt.adv (r : Cnt) (n : Int) : Cnt := ⟨r.w, max r.now (min n 1000000), r.last, strip (max r.now (min n 1000000) - r.w) r.l⟩

theorem adv_t {R : Nat} {r : Cnt} {n : Int} (ho : CntOk r) : Trip (CO R r) (callW pg 0 13 [.ptr R 0 0 0, .int .i64 n]) (.tup []) (CO R (r.adv n)) := by
  rintro H F ⟨v, h, rfl⟩
  have hR := h.at_
  have hlt : R < H.length := (List.getElem?_eq_some_iff.1 hR).1
  have hat : CntAt (H.set R { rows := [Cnt.row ⟨r.w, max r.now (min n 1000000), r.last, r.l⟩ v] }) R v ⟨r.w, max r.now (min n 1000000), r.last, r.l⟩ := ⟨by rw [List.getElem?_set_self hlt], h.sl.set h.ne, h.ne⟩
  have hw : IntKind.i64.wrap (max r.now (min n 1000000) - r.w) = max r.now (min n 1000000) - r.w := by
    have := ho.w1; have := ho.w2; have := ho.n1; have := ho.n2
    rw [IntKind.wrap_i64]; omega
  obtain ⟨H', v', ⟨e', hrun⟩, h1, h2, h3⟩ := aloop hw r.l _ v hat
  refine ⟨H', _, ?_, ⟨v', h1, rfl⟩, ⟨by have := h2.len; simpa using this, fun b hb hF => ?_, fun b hb => ?_⟩⟩
  · rw [callW_eqO (fn := fn13) rfl rfl]
    simp only [Cnt.row] at hrun
    simp [-getElem?_pos, fn13, hR, Cnt.row, hrun]
  · have hne : b ≠ R := fun e => hF (by simp [e])
    rw [h2.same b (by simpa using hb) (by simpa using hne), List.getElem?_set_ne (Ne.symm hne)]
  · rw [h3] at hb; exact .inl hb

/-! adding -/
def heldS (s : Smp) : Smp := (s.1, normN s.2)
def Cnt.add (r : Cnt) (s : Smp) : Cnt := if takes r.w r.now r.last s.1 = 0 then ⟨r.w, r.now, s.1, r.l ++ [heldS s]⟩ else r

theorem add_t {R : Nat} {r : Cnt} {t n : Int} {o : Bool} (ho : CntOk r) : Trip (CO R r) (callW pg 0 15 [.ptr R 0 0 0, .agg [.int .i64 t, .bool o, .int .i64 n]]) (.int .i64 (takes r.w r.now r.last t)) (CO R (r.add (t, o, n))) := by
  rintro H F ⟨v, h, rfl⟩
  have hR := h.at_
  have hlt : R < H.length := (List.getElem?_eq_some_iff.1 hR).1
  have hR' : (H ++ [{ rows := [[.int .i64 t, .bool o, .int .i64 n]] }])[R]? = some { rows := [r.row v] } := by rw [List.getElem?_append_left hlt]; exact hR
  by_cases ht : takes r.w r.now r.last t = 0
  · have hd : ¬ t < 0 ∧ ¬ r.now < t ∧ ¬ t ≤ IntKind.i64.wrap (r.now - r.w) ∧ ¬ t ≤ r.last := by
      unfold takes at ht
      split at ht
      · cases ht
      · split at ht
        · cases ht
        · rename_i h1 h2; exact ⟨by omega, by omega, by omega, h2⟩
    obtain ⟨d1, d2, d3, d4⟩ := hd
    obtain ⟨ho', hn', hh⟩ : ∃ ho hn, normN (o, n) = (ho, hn) := ⟨_, _, rfl⟩
    have hadd : r.add (t, o, n) = ⟨r.w, r.now, t, r.l ++ [(t, ho', hn')]⟩ := by unfold Cnt.add heldS; dsimp only; rw [if_pos ht, hh]
    -- the heap ahead of appending
    have hsl1 : Sl (H.set R { rows := [[.int .i64 r.w, .int .i64 r.now, .int .i64 t, v]] } ++ [{ rows := [[.int .i64 t, .bool ho', .int .i64 hn']] }, { rows := [[.int .i64 t, .bool ho', .int .i64 hn']] }]) v 3 (r.l.map srow) := (h.sl.set h.ne).app _
    obtain ⟨b, g, f, n2, c, H2, happ, hsl2, hst⟩ := hsl1.push (r := [.int .i64 t, .bool ho', .int .i64 hn']) (y := .arr (H.length + 1) 0 0 1 1 true) (bytes := 24) (ro := 0) (by simp) rfl
      (by have := ho.len; rw [List.length_map]; unfold room; omega) (fun _ _ => Nat.zero_le _)
    have hlH : H.length + 2 ≤ H2.length := by have := hst.len; simpa using this
    have hR2 : H2[R]? = some { rows := [[.int .i64 r.w, .int .i64 r.now, .int .i64 t, v]] } := by
      rw [hst.same R (by simp; omega) h.ne, List.getElem?_append_left (by simpa using hlt), List.getElem?_set_self hlt]
    have hRlt := (List.getElem?_eq_some_iff.1 hR2).1
    have hbne : R ∉ blkS (.arr b g f n2 c false) := fun hb => by
      rcases hst.new R hb with h1 | h1
      · exact h.ne h1
      · simp at h1; omega
    rw [ht]
    refine ⟨H2.set R { rows := [(r.add (t, o, n)).row (.arr b g f n2 c false)] }, _, ?_, ⟨.arr b g f n2 c false, ⟨by rw [List.getElem?_set_self hRlt], ?_, hbne⟩, rfl⟩, ⟨by simp; omega, fun x hx hF => ?_, fun x hx => ?_⟩⟩
    · rw [callW_eqO (fn := fn15) rfl rfl]
      have hk : okNum o n = true ∧ ho' = o ∧ hn' = n ∨ okNum o n = false ∧ ho' = true ∧ hn' = 0 := by
        unfold normN at hh
        cases hk : okNum o n with
        | true => rw [hk] at hh; simp at hh; exact .inl ⟨rfl, hh.1.symm, hh.2.symm⟩
        | false => rw [hk] at hh; simp at hh; exact .inr ⟨rfl, hh.1, hh.2.symm⟩
      rcases hk with ⟨hk, rfl, rfl⟩ | ⟨hk, rfl, rfl⟩
      · simp [-getElem?_pos, fn15, hR', hlt, Cnt.row, d1, d2, d3, d4, hR, is_2, hk, happ, hR2, hadd, List.getElem?_append_left, List.set_append_left]
      · simp [-getElem?_pos, fn15, hR', hlt, Cnt.row, d1, d2, d3, d4, hR, is_2, hk, happ, hR2, hadd, List.getElem?_append_left, List.set_append_left]
    · rw [hadd]; dsimp only; rw [List.map_append]; exact hsl2.set hbne
    · have hne : x ≠ R := fun e => hF (by simp [e])
      have hnv : x ∉ blkS v := fun e => hF (by simp [e])
      rw [List.getElem?_set_ne (Ne.symm hne), hst.same x (by simp; omega) hnv, List.getElem?_append_left (by simpa using hx), List.getElem?_set_ne (Ne.symm hne)]
    · rcases List.mem_cons.1 hx with rfl | hx
      · exact .inl (by simp)
      · rcases hst.new x hx with h1 | h1
        · exact .inl (by simp [h1])
        · simp at h1; exact .inr (by omega)
  · have e : r.add (t, o, n) = r := by unfold Cnt.add; rw [if_neg ht]
    rw [e]
    refine ⟨H ++ [{ rows := [[.int .i64 t, .bool o, .int .i64 n]] }], _, ?_, ⟨v, ⟨hR', h.sl.app _, h.ne⟩, rfl⟩, Stp.app⟩
    rw [callW_eqO (fn := fn15) rfl rfl]
    unfold takes at ht ⊢
    by_cases d1 : t < 0
    · simp [-getElem?_pos, fn15, d1]
    by_cases d2 : r.now < t
    · simp [-getElem?_pos, fn15, hR', hR, hlt, Cnt.row, d1, d2, List.getElem?_append_left]
    by_cases d3 : t ≤ IntKind.i64.wrap (r.now - r.w)
    · simp [-getElem?_pos, fn15, hR', hR, hlt, Cnt.row, d1, d2, d3, List.getElem?_append_left]
    by_cases d4 : t ≤ r.last
    · simp [-getElem?_pos, fn15, hR', hR, hlt, Cnt.row, d1, d2, d3, d4, List.getElem?_append_left]
    · simp [d1, d2, d3, d4] at ht

end Go.Proofs.Ytfgmncabjljhmaa
