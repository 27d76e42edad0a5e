import Derived.Test.YtdaajnaphkepmaaTring16
namespace Go.Proofs.Ytdaajnaphkepmaa
open Go Go.Vs
variable {ro : Nat} {H : Hp}

/-! the law's own window -/
def mrow (r : Ring) (v : IV) : List IV := [.int .i64 r.w, .int .i64 r.now, .int .i64 r.last, v]
structure MdAt (H : Hp) (R : Nat) (v : IV) (r : Ring) : Prop where
  at_ : H[R]? = some { rows := [mrow r v] }
  sl : Sl H v 3 (r.l.map srow)
  ne : R ∉ blkS v

def MO (R : Nat) (r : Ring) : Asn where
  p H F := ∃ v, MdAt H R v r ∧ F = R :: blkS v
  lt := by
    rintro H F ⟨v, h, rfl⟩ b hb
    rcases List.mem_cons.1 hb with rfl | hb
    · exact (List.getElem?_eq_some_iff.1 h.at_).1
    · exact h.sl.lt b hb
  fr := by
    rintro H H' F ⟨v, h, rfl⟩ hf
    exact ⟨v, ⟨by rw [hf R (List.mem_cons_self ..)]; exact h.at_, h.sl.fr fun b hb => hf b (List.mem_cons_of_mem _ hb), h.ne⟩, rfl⟩

/-! time goes on -/
theorem MA0_eq {e : Env} : runW pg 0 fn21L0 e H = seqO pg 0 fn21L0 (runW pg 0 fn21B0 (keepE [0] e) H) := runW_loopO

theorem maloop {R : Nat} {w now last : Int} (hw : IntKind.i64.wrap (now - w) = now - w) : ∀ (l : List Smp) (H : Hp) (v : IV), MdAt H R v ⟨w, now, last, l⟩ →
    ∃ H' v', (∃ e', runW pg 0 fn21L0 [(0, .ptr R 0 0 0)] H = some (.exit 0, e', H')) ∧ MdAt H' R v' ⟨w, now, last, strip (now - w) l⟩ ∧ Stp H H' [R] [R] ∧ blkS v' = blkS v := by
  intro l
  induction l with
  | nil =>
    intro H v h
    have hR := h.at_
    have hlen := h.sl.len
    simp at hlen
    refine ⟨H, v, ⟨[(0, .ptr R 0 0 0), (38, .bool false)], ?_⟩, h, Stp.refl, rfl⟩
    rw [MA0_eq]
    simp [-getElem?_pos, fn21B0, hR, mrow, hlen]
  | cons s l ih =>
    intro H v h
    have hR := h.at_
    have hlt : R < H.length := (List.getElem?_eq_some_iff.1 hR).1
    obtain ⟨t, o, n⟩ := s
    have hlen := h.sl.len
    obtain ⟨b, B, j, hb, hidx, hB, hfz, hrow⟩ := h.sl.idx (i := 0) (row := [.int .i64 t, .bool o, .int .i64 n]) rfl
    simp at hlen hidx
    have h0 : (0 : Int) < (l.length : Int) + 1 := by omega
    rw [MA0_eq]
    by_cases hg : t ≤ now - w
    · obtain ⟨v1, hs1, hv1, hb1⟩ := Sl.tail (r := srow (t, o, n)) (rows := l.map srow) (by simpa using h.sl)
      have hat : MdAt (H.set R { rows := [mrow ⟨w, now, last, l⟩ v1] }) R v1 ⟨w, now, last, l⟩ := ⟨by rw [List.getElem?_set_self hlt], hv1.set (by rw [hb1]; exact h.ne), by rw [hb1]; exact h.ne⟩
      obtain ⟨H', v', ⟨e', hrun⟩, h1, h2, h3⟩ := ih _ _ hat
      refine ⟨H', v', ⟨e', ?_⟩, by rw [strip, if_pos hg]; exact h1, ⟨by have := h2.len; simpa using this, fun c hc hne => ?_, fun c hc => .inl hc⟩, by rw [h3, hb1]⟩
      · have hc1 := hv1.cells
        have hc2 := hv1.cok
        have hbody : runW pg 0 fn21B0 [(0, .ptr R 0 0 0)] H = some (.nrm, [(0, .ptr R 0 0 0)], H.set R { rows := [mrow ⟨w, now, last, l⟩ v1] }) := by
          simp [-getElem?_pos, fn21B0, hR, hlt, mrow, hlen, h0, hidx, hB, hrow, hw, hg, hs1, hc1]
        simp [hbody, hrun]
      · rw [h2.same c (by simpa using hc) hne, List.getElem?_set_ne (fun e => hne (by rw [e]; simp))]
    · refine ⟨H, v, ⟨[(0, .ptr R 0 0 0), (38, .bool false)], ?_⟩, by rw [strip, if_neg hg]; exact h, Stp.refl, rfl⟩
      simp [-getElem?_pos, fn21B0, hR, mrow, hlen, h0, hidx, hB, hrow, hw, hg]

theorem madv_t {R : Nat} {r : Ring} {n : Int} (ho : RingOk r) : Trip (MO R r) (callW pg 0 21 [.ptr R 0 0 0, .int .i64 n]) (.tup []) (MO R (r.adv n)) := by
  rintro H F ⟨v, h, rfl⟩
  have hR := h.at_
  have hlt : R < H.length := (List.getElem?_eq_some_iff.1 hR).1
  have hat : MdAt (H.set R { rows := [mrow ⟨r.w, max r.now (min n 1000000), r.last, r.l⟩ v] }) R v ⟨r.w, max r.now (min n 1000000), r.last, r.l⟩ := ⟨by rw [List.getElem?_set_self hlt], h.sl.set h.ne, h.ne⟩
  have hw : IntKind.i64.wrap (max r.now (min n 1000000) - r.w) = max r.now (min n 1000000) - r.w := by
    have := ho.w1; have := ho.w2; have := ho.n1; have := ho.n2
    rw [IntKind.wrap_i64]; omega
  obtain ⟨H', v', ⟨e', hrun⟩, h1, h2, h3⟩ := maloop hw r.l _ v hat
  refine ⟨H', _, ?_, ⟨v', h1, rfl⟩, ⟨by have := h2.len; simpa using this, fun b hb hF => ?_, fun b hb => ?_⟩⟩
  · rw [callW_eqO (fn := fn21) rfl rfl]
    simp only [mrow] at hrun
    simp [-getElem?_pos, fn21, hR, mrow, hrun]
  · have hne : b ≠ R := fun e => hF (by simp [e])
    rw [h2.same b (by simpa using hb) (by simpa using hne), List.getElem?_set_ne (Ne.symm hne)]
  · rw [h3] at hb; exact .inl hb


theorem madd_t {R : Nat} {r : Ring} {t n : Int} {o : Bool} (ho : RingOk r) (hl : r.l.length ≤ 1000) : Trip (MO R r) (callW pg 0 22 [.ptr R 0 0 0, .agg [.int .i64 t, .bool o, .int .i64 n]]) (.int .i64 (takes r.w r.now r.last t)) (MO R (r.add (t, o, n))) := by
  rintro H F ⟨v, h, rfl⟩
  have hR := h.at_
  have hlt : R < H.length := (List.getElem?_eq_some_iff.1 hR).1
  have hR' : (H ++ [{ rows := [[.int .i64 t, .bool o, .int .i64 n]] }])[R]? = some { rows := [mrow r v] } := by rw [List.getElem?_append_left hlt]; exact hR
  by_cases ht : takes r.w r.now r.last t = 0
  · have hd : ¬ t < 0 ∧ ¬ r.now < t ∧ ¬ t ≤ IntKind.i64.wrap (r.now - r.w) ∧ ¬ t ≤ r.last := by
      unfold takes at ht
      split at ht
      · cases ht
      · split at ht
        · cases ht
        · rename_i h1 h2; exact ⟨by omega, by omega, by omega, h2⟩
    obtain ⟨d1, d2, d3, d4⟩ := hd
    obtain ⟨ho', hn', hh⟩ : ∃ ho hn, normN (o, n) = (ho, hn) := ⟨_, _, rfl⟩
    have hadd : r.add (t, o, n) = ⟨r.w, r.now, t, r.l ++ [(t, ho', hn')]⟩ := by unfold Ring.add; dsimp only; rw [if_pos ht, heldS_norm, hh]
    have hsl1 : Sl (H.set R { rows := [[.int .i64 r.w, .int .i64 r.now, .int .i64 t, v]] } ++ [{ rows := [[.int .i64 t, .bool ho', .int .i64 hn']] }]) v 3 (r.l.map srow) := (h.sl.set h.ne).app _
    have hvl := hsl1.len
    obtain ⟨m1, hclip, happ⟩ := hsl1.clip (r := [.int .i64 t, .bool ho', .int .i64 hn']) (bytes := 24) rfl (by rw [List.length_map]; unfold room; omega)
    rw [List.length_map] at hclip hvl
    obtain ⟨m2, happ, em2, hm2⟩ := happ [{ rows := [[.int .i64 t, .bool ho', .int .i64 hn']] }] (.arr (H.length + 1) 0 0 1 1 true) (by simp) 0
    have hc := hm2.cells
    obtain ⟨G, hGe⟩ : ∃ G : Hp, G = ((H.set R { rows := [[.int .i64 r.w, .int .i64 r.now, .int .i64 t, v]] } ++ [{ rows := [[.int .i64 t, .bool ho', .int .i64 hn']] }]) ++ [{ rows := [[.int .i64 t, .bool ho', .int .i64 hn']] }] ++ [{ rows := r.l.map srow ++ [[.int .i64 t, .bool ho', .int .i64 hn']] }]) := ⟨_, rfl⟩
    have hR2 : G[R]? = some { rows := [[.int .i64 r.w, .int .i64 r.now, .int .i64 t, v]] } := by
      rw [hGe]; simp [-getElem?_pos, hlt, List.getElem?_append_left]
    rw [← hGe] at hm2 happ
    have hGl : H.length + 3 = G.length := by rw [hGe]; simp
    have hbne : R ∉ blkS m2 := fun hb => by rw [em2] at hb; simp [blkS] at hb; omega
    rw [ht]
    refine ⟨G.set R { rows := [mrow (r.add (t, o, n)) m2] }, _, ?_, ⟨m2, ⟨by rw [List.getElem?_set_self (List.getElem?_eq_some_iff.1 hR2).1], ?_, hbne⟩, rfl⟩, ⟨by simp; omega, fun x hx hF => ?_, fun x hx => ?_⟩⟩
    · rw [callW_eqO (fn := fn22) rfl rfl]
      simp only [List.append_assoc, List.cons_append, List.nil_append] at happ ⊢
      simp [-getElem?_pos, fn22, hR', hlt, mrow, d1, d2, d3, d4, hR, norm_2, hh, hvl, hclip, happ, hc, hR2, hadd, List.getElem?_append_left, List.set_append_left]
    · rw [hadd]; dsimp only; rw [List.map_append]; exact hm2.set hbne
    · have hne : x ≠ R := fun e => hF (by simp [e])
      rw [List.getElem?_set_ne (Ne.symm hne), hGe, List.getElem?_append_left (by simp; omega), List.getElem?_append_left (by simp; omega), List.getElem?_append_left (by simpa using hx), List.getElem?_set_ne (Ne.symm hne)]
    · rcases List.mem_cons.1 hx with rfl | hx
      · exact .inl (by simp)
      · rw [em2] at hx; simp [blkS] at hx; exact .inr (by omega)
  · have e : r.add (t, o, n) = r := by unfold Ring.add; rw [if_neg ht]
    rw [e]
    refine ⟨H ++ [{ rows := [[.int .i64 t, .bool o, .int .i64 n]] }], _, ?_, ⟨v, ⟨hR', h.sl.app _, h.ne⟩, rfl⟩, Stp.app⟩
    rw [callW_eqO (fn := fn22) rfl rfl]
    unfold takes at ht ⊢
    by_cases d1 : t < 0
    · simp [-getElem?_pos, fn22, d1]
    by_cases d2 : r.now < t
    · simp [-getElem?_pos, fn22, hR', hR, hlt, mrow, d1, d2, List.getElem?_append_left]
    by_cases d3 : t ≤ IntKind.i64.wrap (r.now - r.w)
    · simp [-getElem?_pos, fn22, hR', hR, hlt, mrow, d1, d2, d3, List.getElem?_append_left]
    by_cases d4 : t ≤ r.last
    · simp [-getElem?_pos, fn22, hR', hR, hlt, mrow, d1, d2, d3, d4, List.getElem?_append_left]
    · simp [d1, d2, d3, d4] at ht

/-! the law 'RingPlays' -/
namespace Pl

theorem load_im {cf : CallF} {e : Env} {ag : Bool} {n : Nat} {a : Opd} {rows : List (List IV)} {i j : Nat} (h : ev e a = .eptr rows i j) : doIns cf ro e H (.load ag n a true) = (rd H n (.eptr rows i j)).bind fun cs => (val1 ag cs).bind fun v => some (v, H) := by
  simp [doIns, h, doIns.isE]
@[simp] theorem isE_eptr {rows : List (List IV)} {i j : Nat} : doIns.isE (.eptr rows i j) = true := rfl
@[simp] theorem doIns_loadim {cf : CallF} {e : Env} {ag : Bool} {n : Nat} {a : Opd} : doIns cf ro e H (.load ag n a true) = if doIns.isE (ev e a) = true then (rd H n (ev e a)).bind fun cs => (val1 ag cs).bind fun v => some (v, H) else none := by
  cases h : doIns.isE (ev e a) <;> simp [doIns, h]

abbrev Step := Bool × Int × Bool × Int
def strow (s : Step) : List IV := [.bool s.1, .int .i64 s.2.1, .bool s.2.2.1, .int .i64 s.2.2.2]

theorem L0_eq {e : Env} : runW pg 0 fn7L0 e H = seqO pg 0 fn7L0 (runW pg 0 fn7B0 (keepE [1, 5, 6, 7] e) H) := runW_loopO

theorem ask {R Q : Nat} {r : Ring} (hG : Good r) (hl : r.l.length ≤ 1000) (hh : HeldL r.l) (h : Hold H ((RO R r).star (MO Q r))) : ∃ v, H[Q]? = some { rows := [[.int .i64 r.w, .int .i64 r.now, .int .i64 r.last, v]] } ∧ ∀ ro, doCall (callW pg) ro 2 (.fn 23 []) [.ptr R 0 0 0, v] H = some (.bool true, H) := by
  obtain ⟨F, F1, F2, rfl, ⟨v1, h1, _⟩, ⟨v2, h2, _⟩, _⟩ := h
  refine ⟨v2, h2.at_, fun ro => alike_2 h1 (hG.ok (by omega)) hl hh (h2.sl.frzA ?_)⟩
  intro r' hr x hx
  obtain ⟨s, _, rfl⟩ := List.mem_map.1 hr
  simp [srow] at hx
  rcases hx with rfl | rfl | rfl <;> rfl

theorem add_len {r : Ring} {s : Smp} : (r.add s).l.length ≤ r.l.length + 1 := by
  unfold Ring.add
  split
  · simp
  · omega
theorem add_held {r : Ring} {s : Smp} (h : HeldL r.l) (hs : NumOk s.2.2) : HeldL (r.add s).l := by
  unfold Ring.add
  split
  · intro x hx
    rcases List.mem_append.1 hx with hx | hx
    · exact h x hx
    · simp at hx; subst hx; exact heldS_held hs
  · exact h

theorem step {A : IV} {l : List Step} (hA : SlA A 4 (l.map strow)) {R Q i : Nat} {r : Ring} {b : Bool} {t n : Int} {o : Bool} (hs : l[i]? = some (b, t, o, n)) (hi : l.length ≤ 150) (hG : Good r) (hh : HeldL r.l) (hl : r.l.length ≤ i) (hn : NumOk n)
    (h : Hold H ((RO R r).star (MO Q r))) : ∃ H', Hold H' ((RO R (if b = true then r.adv t else r.add (t, o, n))).star (MO Q (if b = true then r.adv t else r.add (t, o, n)))) ∧
      runW pg 0 fn7B0 [(1, A), (5, .ptr R 0 0 0), (6, .ptr Q 0 0 0), (7, .int .i64 i)] H = some (.nrm, [(1, A), (5, .ptr R 0 0 0), (6, .ptr Q 0 0 0), (7, .int .i64 ((i : Int) + 1))], H') := by
  have hil : i < l.length := (List.getElem?_eq_some_iff.1 hs).1
  have hlen := hA.len
  rw [List.length_map] at hlen
  have hlt : (i : Int) < l.length := by omega
  have hidx := fun H => hA.idx H i (by simp; omega)
  have hI : isI A = true := by rcases hA.imm with ⟨rfl, _⟩ | ⟨f, rfl⟩ <;> rfl
  have hrow : (l.map strow)[i]? = some [.bool b, .int .i64 t, .bool o, .int .i64 n] := by rw [List.getElem?_map, hs]; rfl
  have w1 : IntKind.i64.wrap ((i : Int) + 1) = i + 1 := by rw [IntKind.wrap_i64]; omega
  have ok := hG.ok (by omega)
  cases b with
  | true =>
    obtain ⟨H1, c1, h1⟩ := (adv_t (n := t) ok).frame.use0 h
    obtain ⟨H2, c2, h2⟩ := (madv_t (n := t) ok).frame.use0 h1.comm
    have h2 := h2.comm
    have hla : (r.adv t).l.length ≤ r.l.length := strip_len
    obtain ⟨v, hv, hask⟩ := ask (hG.adv (n := t)) (by omega) (fun s hs => hh s (strip_sub hs)) h2
    refine ⟨H2, h2, ?_⟩
    simp [-getElem?_pos, fn7B0, hlen, hlt, hidx, hrow, c1, c2, hv, hask, w1]
  | false =>
    obtain ⟨H1, c1, h1⟩ := (add_t (t := t) (o := o) ok hn).frame.use0 h
    obtain ⟨H2, c2, h2⟩ := (madd_t (t := t) (o := o) (n := n) ok (by omega)).frame.use0 h1.comm
    have h2 := h2.comm
    obtain ⟨v, hv, hask⟩ := ask (hG.add (s := (t, o, n)) hn) (by have := add_len (r := r) (s := (t, o, n)); omega) (add_held (s := (t, o, n)) hh hn) h2
    refine ⟨H2, h2, ?_⟩
    simp [-getElem?_pos, fn7B0, hlen, hlt, hidx, hI, hrow, c1, c2, hv, hask, w1]

def Giv (l : List Step) : Prop := ∀ s ∈ l, NumOk s.2.2.2

theorem outer {A : IV} {l : List Step} (hA : SlA A 4 (l.map strow)) (hN : Giv l) (hl : l.length ≤ 150) {R Q : Nat} : ∀ (d i : Nat) (H : Hp) (r : Ring), i + d = l.length → Good r → HeldL r.l → r.l.length ≤ i →
    Hold H ((RO R r).star (MO Q r)) → ∃ e' H', runW pg 0 fn7L0 [(1, A), (5, .ptr R 0 0 0), (6, .ptr Q 0 0 0), (7, .int .i64 i)] H = some (.exit 0, e', H')
  | 0, i, H, r, hd, _, _, _, h => by
    have hlen := hA.len
    rw [List.length_map] at hlen
    have hf : ¬ ((i : Int) < l.length) := by omega
    refine ⟨[(1, A), (5, .ptr R 0 0 0), (6, .ptr Q 0 0 0), (7, .int .i64 i), (23, .bool false)], H, ?_⟩
    rw [L0_eq]; simp [fn7B0, hlen, hf]
  | d + 1, i, H, r, hd, hG, hh, hwl, h => by
    obtain ⟨s, hs⟩ : ∃ s, l[i]? = some s := ⟨_, List.getElem?_eq_getElem (by omega)⟩
    obtain ⟨b, t, o, n⟩ := s
    have hn : NumOk n := hN _ (List.mem_of_getElem? hs)
    obtain ⟨H1, h1, hb⟩ := step hA hs hl hG hh hwl hn h
    have key : Good (if b = true then r.adv t else r.add (t, o, n)) ∧ HeldL (if b = true then r.adv t else r.add (t, o, n)).l ∧ (if b = true then r.adv t else r.add (t, o, n)).l.length ≤ i + 1 := by
      cases b with
      | true =>
        refine ⟨hG.adv, fun s hs => hh s (strip_sub hs), ?_⟩
        have hla : (r.adv t).l.length ≤ r.l.length := strip_len
        simp only [if_true]; omega
      | false =>
        refine ⟨hG.add (s := (t, o, n)) hn, add_held (s := (t, o, n)) hh hn, ?_⟩
        simp only [Bool.false_eq_true, if_false]
        have := add_len (r := r) (s := (t, o, n)); omega
    obtain ⟨e', H2, hr⟩ := outer hA hN hl d (i + 1) H1 _ (by omega) key.1 key.2.1 key.2.2 h1
    push_cast at hr
    refine ⟨e', H2, ?_⟩
    rw [L0_eq]
    simp [hb, hr]

theorem law {A : IV} {l : List Step} (hA : SlA A 4 (l.map strow)) (hN : Giv l) {w : Int} : ∃ H', callW pg 0 7 [.int .i64 w, A] [] = some (.bool true, H') := by
  obtain ⟨Hk, hkn⟩ := known_c
  have hk2 : doCall (callW pg) 0 2 (.fn 8 []) [] [] = some (.bool true, []) := call2p hkn rfl rfl
  have hlen := hA.len
  rw [List.length_map] at hlen
  rw [callW_eqO (fn := fn7) rfl rfl]
  by_cases hl : (150 : Int) < l.length
  · refine ⟨[], ?_⟩
    simp [-getElem?_pos, fn7, hk2, hlen, hl]
  have new1 := new_c (ro := 0) (H := []) (n := w) (Nat.le_refl _)
  have e1 : min (max w 1) 100 = max 1 (min w 100) := by omega
  rw [e1] at new1
  obtain ⟨k, hk⟩ : ∃ k, max 1 (min w 100) = k := ⟨_, rfl⟩
  rw [hk] at new1
  have hat : Hold ([{ rows := [Ring.row ⟨k, 0, -1, []⟩ .nsl] }, { rows := [mrow ⟨k, 0, -1, []⟩ .nsl] }] : Hp) ((RO 0 ⟨k, 0, -1, []⟩).star (MO 1 ⟨k, 0, -1, []⟩)) := by
    have a1 : Hold ([] ++ [{ rows := [Ring.row ⟨k, 0, -1, []⟩ .nsl] }]) (RO 0 ⟨k, 0, -1, []⟩) := let ⟨F, h, _⟩ := new_hold (H := []) (k := k); ⟨F, h⟩
    exact a1.new (Y := [{ rows := [mrow ⟨k, 0, -1, []⟩ .nsl] }]) (B := MO 1 ⟨k, 0, -1, []⟩) ⟨_, ⟨.nsl, ⟨by simp, Sl.nil, by simp [blkS]⟩, rfl⟩, by simp [blkS]⟩
  have hG : Good ⟨k, 0, -1, []⟩ := ⟨by dsimp only; omega, by dsimp only; omega, by simp, by simp, trivial, by simp, by intro s hs; simp at hs⟩
  obtain ⟨e', H', hr⟩ := outer hA hN (by omega) (R := 0) (Q := 1) l.length 0 _ _ (by omega) hG (by intro s hs; simp at hs) (by simp) hat
  refine ⟨H', ?_⟩
  simp [Ring.row, mrow] at new1 hr
  simp [-getElem?_pos, fn7, hk2, hlen, hl, hk, new1, hr]

abbrev TL : Ty := .sl (.pair .bool (.pair (.int .i64) (.pair .bool (.int .i64))))
theorem wf (x0 : (Ty.int .i64).den) (x1 : TL.den) (ok0 : (Ty.int .i64).ok x0) (ok1 : TL.ok x1) : ∃ H', callW pg 0 7 [(Ty.int .i64).arg x0, TL.arg x1] [] = some (.bool true, H') := by
  obtain ⟨l, hA, hl⟩ := sl_arg (e := .pair .bool (.pair (.int .i64) (.pair .bool (.int .i64)))) x1
  have e : l.map (Ty.pair .bool (.pair (.int .i64) (.pair .bool (.int .i64)))).enc = l.map strow := rfl
  rw [e] at hA
  refine law hA ?_
  rcases hl with ⟨_, rfl⟩ | h
  · intro x hx; cases hx
  · intro x hx
    exact wf_i64 _ ((ok1 l h).2 x hx).2.2.2

end Pl
end Go.Proofs.Ytdaajnaphkepmaa
