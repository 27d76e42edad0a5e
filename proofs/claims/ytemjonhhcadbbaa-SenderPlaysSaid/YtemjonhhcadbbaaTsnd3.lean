/- All that waits; a sender as an object. -/
import Derived.Test.YtemjonhhcadbbaaTsnd2
namespace Go.Proofs.Ytemjonhhcadbbaa
open Go Go.Vs
variable {ro : Nat} {H : Hp}

theorem clone_c {v : IV} {l : List Bt} (h : Sq H v 4 (l.map brow)) (hl : l.length ≤ 1000) : ∃ v' Y, callW pg ro 31 [v] H = some (v', H ++ Y) ∧ Sq (H ++ Y) v' 4 (l.map brow) ∧ ∀ b ∈ blkS v', H.length ≤ b := by
  by_cases hv : v = .nsl
  · have hl0 : l = [] := by
      rcases h with ⟨_, h⟩ | ⟨b, g, pre, post, cap, ex, rfl, _⟩
      · simpa using h
      · cases hv
    subst hv; subst hl0
    refine ⟨.nsl, [], ?_, Sq.nil, by simp [blkS]⟩
    rw [callW_eqO (fn := fn31) rfl rfl]
    simp [-getElem?_pos, fn31]
  · obtain ⟨v', Y, h1, h2, h3⟩ := h.clone (bytes := 56) (ro := ro) (by rw [List.length_map]; unfold room; omega)
    refine ⟨v', Y, ?_, h2, h3⟩
    rcases h with ⟨rfl, _⟩ | ⟨b, g, pre, post, cap, ex, rfl, _⟩
    · exact absurd rfl hv
    · rw [List.length_map] at h1
      rw [callW_eqO (fn := fn31) rfl rfl]
      simp [-getElem?_pos, fn31, h1]

theorem set_eta {B : Bk} {j : Nat} {row : List IV} (h : B.rows[j]? = some row) (hf : B.frz = false) : ({ rows := B.rows.set j row, gen := B.gen } : Bk) = B := by
  have : B.rows.set j row = B.rows := by
    apply List.ext_getElem?
    intro i
    by_cases e : j = i
    · subst e; rw [List.getElem?_set_self (List.getElem?_eq_some_iff.1 h).1, h]
    · rw [List.getElem?_set_ne e]
  obtain ⟨r, g, f⟩ := B
  simp at hf this
  rw [this, hf]

theorem all_loop {v : IV} {l : List Bt} (hlenB : (l.length : Int) < 9223372036854775807) (hro : ∀ b ∈ blkS v, ro ≤ b) : ∀ (k i : Nat) (G : Hp), i + k = l.length → ro ≤ G.length → Sq G v 4 (l.map brow) →
    ∃ G', runW pg ro fn24L0 [(3, v), (11, v), (12, .int .i64 l.length), (13, .int .i64 i)] G = some (.exit 0, [(3, v), (11, v), (12, .int .i64 l.length), (13, .int .i64 l.length), (14, .bool false)], G') ∧ Sq G' v 4 (l.map brow) := by
  have L : ∀ e G, runW pg ro fn24L0 e G = seqO pg ro fn24L0 (runW pg ro fn24B0 (keepE [3, 11, 12, 13] e) G) := fun e G => runW_loopO
  intro k
  induction k with
  | zero =>
    intro i G hi hG h
    have : i = l.length := by omega
    subst this
    refine ⟨G, ?_, h⟩
    rw [L]
    simp [-getElem?_pos, fn24B0]
  | succ k ih =>
    intro i G hi hG h
    have hlt : i < l.length := by omega
    obtain ⟨x, hx⟩ : ∃ x, l[i]? = some x := ⟨_, List.getElem?_eq_getElem hlt⟩
    have hm : (l.map brow)[i]? = some (brow x) := by rw [List.getElem?_map, hx]; rfl
    obtain ⟨b, B, j, hb, hidx, hB, hfz, hrow⟩ := h.idx hm
    obtain ⟨b', B', j', hb', hidx', hB', hfz', hrow'⟩ := (h.app [{ rows := [brow x] }]).idx hm
    obtain ⟨G', h1, h2⟩ := ih (i + 1) (G ++ [{ rows := [brow x] }]) (by omega) (by simp; omega) (h.app _)
    refine ⟨G', ?_, h2⟩
    have hi1 : (i : Int) < l.length := by omega
    have hw : IntKind.i64.wrap ((i : Int) + 1) = i + 1 := by
      have := h.len
      have h5 : (l.length : Int) < 9223372036854775807 := by
        exact hlenB
      rw [IntKind.wrap_i64]; omega
    have hrb := hro b' hb'
    have hset := set_eta hrow' hfz'
    have hset2 := set_same (H := G ++ [{ rows := [brow x] }]) hB'
    simp only [brow] at hrow hrow' hidx' hB' h1 hset hset2
    push_cast at h1
    rw [L]
    simp [-getElem?_pos, fn24B0, hi1, hidx, hB, hG, hrow, copied_nil, hidx', hB', hfz', hrow', hrb, hset, hset2, hw, h1]

theorem all_2 {Q : Nat} {vd v : IV} {q : Que} (h : QAt H Q vd v q) (hl : q.l.length ≤ 1000) : ∃ vi, doCall (callW pg) ro 2 (.fn 24 []) [.ptr Q 0 0 0] H = some (vi, H) ∧ SlA vi 4 (q.l.map brow) := by
  obtain ⟨v', Y, h1, h2, h3⟩ := clone_c (ro := H.length) h.sl hl
  obtain ⟨G', h4, h5⟩ := all_loop (ro := H.length) (v := v') (l := q.l) (by omega) h3 q.l.length 0 (H ++ Y) (by omega) (by simp) h2
  refine call2s (v := v') (H2 := G') ?_ rfl rfl h5 h3 brow_plain
  have hQ := h.at_
  have hlen := h2.len
  simp at hlen h4
  rw [callW_eqO (fn := fn24) rfl rfl]
  simp [-getElem?_pos, fn24, hQ, h1, hlen, h4]

theorem QAt.frm {Q : Nat} {vd v : IV} {q : Que} {H' : Hp} (h : QAt H Q vd v q) (hf : ∀ b ∈ Q :: (blkS vd ++ blkS v), H'[b]? = H[b]?) : QAt H' Q vd v q :=
  ⟨by rw [hf Q (by simp)]; exact h.at_, h.sd.fr fun b hb => hf b (by simp [hb]), h.sl.fr fun b hb => hf b (by simp [hb]), h.ned, h.ne, h.ap⟩

/-! a sender -/
def srow (w a : Int) : Bk := { rows := [[.int .i64 w, .int .i64 a]] }
def zLet : List IV := [.int .i64 0, .int .i64 0, .str ⟨#[]⟩, .nsl, .int .i64 0]

/-- What is told, and when again. -/
def dueR (w a : Int) (q : Que) (now : Int) : List IV × Bool × Int × Int := match q.l with
  | [] => (zLet, false, w, a)
  | b :: _ => if now < a then (zLet, false, w, a) else (brow b ++ [.int .i64 b.1], true, min (2 * w) 8, if now ≤ 1000000 - w then now + w else 1000000)

theorem grows_c {S : Nat} {w a : Int} (hS : H[S]? = some (srow w a)) (hw : 1 ≤ w ∧ w ≤ 8) : callW pg 0 25 [.ptr S 0 0 0] H = some (.int .i64 w, H.set S (srow (min (2 * w) 8) a)) := by
  have h1 : IntKind.i64.wrap (2 * w) = 2 * w := by rw [IntKind.wrap_i64]; omega
  have hlt : S < H.length := (List.getElem?_eq_some_iff.1 hS).1
  unfold srow at hS ⊢
  rw [callW_eqO (fn := fn25) rfl rfl]
  simp [-getElem?_pos, fn25, hS, h1]

theorem due_t {S Q : Nat} {w a now : Int} {q : Que} (hq : q.l.length ≤ 1000) (hw : 1 ≤ w ∧ w ≤ 8) (ha : 0 ≤ a) :
    Trip ((cell S (srow w a)).star (QO Q q)) (callW pg 0 11 [.ptr S 0 0 0, .ptr Q 0 0 0, .int .i64 now]) (.tup [.agg (dueR w a q now).1, .bool (dueR w a q now).2.1])
      ((cell S (srow (dueR w a q now).2.2.1 (dueR w a q now).2.2.2)).star (QO Q q)) := by
  rintro H F ⟨F1, F2, rfl, ⟨rfl, hS⟩, ⟨vd, v, h, rfl⟩, hd⟩
  have hSlt : S < H.length := (List.getElem?_eq_some_iff.1 hS).1
  have hSQ : S ≠ Q := fun e => hd S (by simp) (by simp [e])
  have hd1 := hd S (by simp)
  have hS' : (H ++ [{ rows := [zLet] }])[S]? = some (srow w a) := by rw [List.getElem?_append_left hSlt]; exact hS
  have h' : QAt (H ++ [{ rows := [zLet] }]) Q vd v q := h.frm fun b hb => by
    refine List.getElem?_append_left ?_
    simp only [List.mem_cons, List.mem_append] at hb
    rcases hb with rfl | hb | hb
    · exact (List.getElem?_eq_some_iff.1 h.at_).1
    · exact h.sd.lt b hb
    · exact h.sl.lt b hb
  obtain ⟨vi, hall, hvi⟩ := all_2 (ro := 0) h' hq
  have hlen := hvi.len
  have frS : ∀ (B : Bk), QAt (List.set (H ++ [({ rows := [zLet] } : Bk)]) S B) Q vd v q := fun B => h'.frm fun b hb => List.getElem?_set_ne (fun (e : S = b) => hd1 (by rw [e]; exact hb))
  cases hl : q.l with
  | nil =>
    have e : dueR w a q now = (zLet, false, w, a) := by unfold dueR; rw [hl]
    rw [e]
    rw [hl] at hlen
    simp at hlen
    refine ⟨H ++ [{ rows := [zLet] }], _, ?_, ⟨_, _, rfl, ⟨rfl, hS'⟩, ⟨vd, v, h', rfl⟩, hd⟩, Stp.app⟩
    unfold zLet at hall ⊢
    rw [callW_eqO (fn := fn11) rfl rfl]
    simp [-getElem?_pos, fn11, hall, hlen]
  | cons b l =>
    rw [hl] at hlen
    simp at hlen
    have h0 : ¬ ((l.length : Int) + 1 = 0) := by omega
    unfold srow at hS hS'
    by_cases hn : now < a
    · have e : dueR w a q now = (zLet, false, w, a) := by unfold dueR; rw [hl]; dsimp only; rw [if_pos hn]
      rw [e]
      refine ⟨H ++ [{ rows := [zLet] }], _, ?_, ⟨_, _, rfl, ⟨rfl, by unfold srow; exact hS'⟩, ⟨vd, v, h', rfl⟩, hd⟩, Stp.app⟩
      unfold zLet at hall hS' ⊢
      rw [callW_eqO (fn := fn11) rfl rfl]
      simp [-getElem?_pos, fn11, hall, hlen, h0, hS', hn]
    · obtain ⟨a2, ha2⟩ : ∃ a2, (if now ≤ 1000000 - w then now + w else 1000000) = a2 := ⟨_, rfl⟩
      have e : dueR w a q now = (brow b ++ [.int .i64 b.1], true, min (2 * w) 8, a2) := by unfold dueR; rw [hl]; dsimp only; rw [if_neg hn, ha2]
      rw [e]
      have hidx : ∀ (G : Hp), Vs.idx G 4 vi 0 = some (.eptr (q.l.map brow) 0 0) := fun G => hvi.idx G 0 (by rw [hl]; simp)
      have hr0 : (q.l.map brow)[0]? = some [.int .i64 b.1, .int .i64 b.2, .str gS, .nsl] := by rw [hl]; rfl
      have hgr := grows_c (S := S) (H := H ++ [{ rows := [zLet] }]) (by unfold srow; exact hS') hw
      have hlow := low_2 (ro := 0) (frS (srow (min (2 * w) 8) a2))
      rw [hl] at hlow
      have hw1 : IntKind.i64.wrap (1000000 - w) = 1000000 - w := by rw [IntKind.wrap_i64]; omega
      have hw2 : now ≤ 1000000 - w → IntKind.i64.wrap (now + w) = now + w := by intro h; rw [IntKind.wrap_i64]; omega
      have hSn : (List.set (H ++ [({ rows := [brow b ++ [.int .i64 b.1]] } : Bk)]) S (srow (min (2 * w) 8) a2))[S]? = some (srow (min (2 * w) 8) a2) := List.getElem?_set_self (by simp; omega)
      refine ⟨(List.set (H ++ [({ rows := [brow b ++ [.int .i64 b.1]] } : Bk)]) S (srow (min (2 * w) 8) a2)), _, ?_, ⟨_, _, rfl, ⟨rfl, hSn⟩, ⟨vd, v, ?_, rfl⟩, hd⟩, ⟨by simp, fun x hx hF => ?_, fun x hx => .inl hx⟩⟩
      · simp only [zLet, srow] at hall hS' hlow hgr
        unfold srow brow
        simp [hSlt, List.set_append_left] at hlow hgr hall hS'
        rw [callW_eqO (fn := fn11) rfl rfl]
        by_cases hle : now ≤ 1000000 - w
        · have ha3 := ha2
          rw [if_pos hle] at ha3
          subst ha3
          simp [-getElem?_pos, fn11, hall, hlen, h0, hS', hn, hgr, hw1, hle, hw2 hle, hidx, hr0, hlow, hSlt, List.set_append_left, List.getElem?_append_left]
        · have ha3 := ha2
          rw [if_neg hle] at ha3
          subst ha3
          simp [-getElem?_pos, fn11, hall, hlen, h0, hS', hn, hgr, hw1, hle, hidx, hr0, hlow, hSlt, List.set_append_left, List.getElem?_append_left]
      · refine h.frm fun x hx => ?_
        rw [List.getElem?_set_ne (fun e => hd1 (by rw [e]; exact hx)), List.getElem?_append_left]
        simp only [List.mem_cons, List.mem_append] at hx
        rcases hx with rfl | hx | hx
        · exact (List.getElem?_eq_some_iff.1 h.at_).1
        · exact h.sd.lt x hx
        · exact h.sl.lt x hx
      · have : x ≠ S := fun e => hF (by simp [e])
        rw [List.getElem?_set_ne (Ne.symm this), List.getElem?_append_left hx]

end Go.Proofs.Ytemjonhhcadbbaa
