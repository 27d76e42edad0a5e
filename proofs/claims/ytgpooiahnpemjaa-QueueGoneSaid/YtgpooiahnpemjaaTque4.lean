/- What is acknowledged goes. -/
import Derived.Test.YtgpooiahnpemjaaTque3
namespace Go.Proofs.Ytgpooiahnpemjaa
open Go Go.Vs
variable {ro : Nat} {H : Hp}

def crow (n : Int) : Bk := { rows := [[.int .i64 n]] }
def gone (n : Int) (x : Bt) : Bool := decide (x.1 ≤ n)

@[simp] theorem doIns_clear {cf : CallF} {e : Env} {sz : Nat} {z : List IV} {x : Opd} : doIns cf ro e H (.clear sz z x) = clearV ro H sz z (ev e x) := rfl

theorem ackfn_2 {C : Nat} {n : Int} {x : Bt} (hC : H[C]? = some (crow n)) : doCall (callW pg) ro 2 (.fn 36 [.ptr C 0 0 0]) [.agg (brow x)] H = some (.bool (gone n x), H) := by
  have hlt : C < H.length := (List.getElem?_eq_some_iff.1 hC).1
  refine call2 (H2 := H ++ [{ rows := [brow x] }]) (args' := [.agg (brow x), .ptr C 0 0 0]) rfl ?_ rfl (.inl rfl)
  unfold crow at hC
  rw [callW_eqO (fn := fn36) rfl rfl]
  simp [-getElem?_pos, fn36, brow, hC, hlt, gone, List.getElem?_append_left]

/-- The first one that goes. -/
theorem ix_loop {A : IV} {l : List Bt} (hA : SlA A 4 (l.map brow)) (hl : l.length ≤ 1000) {C : Nat} {n : Int} (hC : H[C]? = some (crow n)) : ∀ (k i : Nat), i + k = l.length →
    runW pg ro fn58L0 [(0, A), (1, .fn 36 [.ptr C 0 0 0]), (7, .int .i64 l.length), (8, .int .i64 i)] H =
      match (l.drop i).findIdx? (gone n) with
      | none => some (.exit 0, [(0, A), (1, .fn 36 [.ptr C 0 0 0]), (7, .int .i64 l.length), (8, .int .i64 l.length), (9, .bool false)], H)
      | some j => some (.ret, [(4, .int .i64 (i + j : Nat))], H) := by
  have L : ∀ e, runW pg ro fn58L0 e H = seqO pg ro fn58L0 (runW pg ro fn58B0 (keepE [0, 1, 7, 8] e) H) := fun e => runW_loopO
  intro k
  induction k with
  | zero =>
    intro i hi
    have : i = l.length := by omega
    subst this
    rw [L, List.drop_length]
    simp [fn58B0]
  | succ k ih =>
    intro i hi
    have hlt : i < l.length := by omega
    obtain ⟨x, hx⟩ : ∃ x, l[i]? = some x := ⟨_, List.getElem?_eq_getElem hlt⟩
    have hd : l.drop i = x :: l.drop (i + 1) := by rw [List.drop_eq_getElem_cons hlt]; congr 1; rw [List.getElem?_eq_getElem hlt] at hx; exact Option.some.inj hx
    have hrow : (l.map brow)[i]? = some (brow x) := by rw [List.getElem?_map, hx]; rfl
    have hidx := fun H => hA.idx H i (by simpa using hlt)
    have hlti : (i : Int) < l.length := by omega
    have w1 : IntKind.i64.wrap ((i : Int) + 1) = i + 1 := by rw [IntKind.wrap_i64]; omega
    have hf := fun ro => ackfn_2 (ro := ro) (x := x) hC
    have ih := ih (i + 1) (by omega)
    push_cast at ih
    rw [hd, List.findIdx?_cons, L]
    unfold brow at hf
    cases hg : gone n x
    · rw [hg] at hf
      simp [-getElem?_pos, fn58B0, hlti, hidx, hx, brow, hf, w1, ih]
      cases (l.drop (i + 1)).findIdx? (gone n) with
      | none => rfl
      | some j => simp; omega
    · rw [hg] at hf
      simp [-getElem?_pos, fn58B0, hlti, hidx, hx, brow, hf]

theorem ix_2 {v : IV} {l : List Bt} (h : Sq H v 4 (l.map brow)) (hl : l.length ≤ 1000) {C : Nat} {n : Int} (hC : H[C]? = some (crow n)) :
    doCall (callW pg) ro 2 (.fn 58 []) [v, .fn 36 [.ptr C 0 0 0]] H = some (.int .i64 (match l.findIdx? (gone n) with | none => -1 | some j => (j : Int)), H) := by
  have hA := h.frzA brow_plain
  have hlen := hA.len
  rw [List.length_map] at hlen
  refine call2 (H2 := H) (args' := [frzArg H v, .fn 36 [.ptr C 0 0 0]]) rfl ?_ rfl (.inl rfl)
  have hr := ix_loop (ro := H.length) hA hl hC l.length 0 (by omega)
  rw [List.drop_zero] at hr
  rw [callW_eqO (fn := fn58) rfl rfl]
  cases hf : l.findIdx? (gone n) with
  | none =>
    rw [hf] at hr
    simp at hr
    simp [-getElem?_pos, fn58, hlen, hr]
  | some j =>
    rw [hf] at hr
    simp at hr
    simp [-getElem?_pos, fn58, hlen, hr]

/-- What stays. -/
def kept (n : Int) (l : List Bt) : List Bt := l.filter fun x => !gone n x

theorem del_loop {v : IV} {l : List Bt} (hl : l.length ≤ 1000) {C : Nat} {n : Int} (hro : ∀ b ∈ blkS v, ro ≤ b) (hCv : C ∉ blkS v) : ∀ (k i j : Nat) (G : Hp) (R : List (List IV)), j + k = l.length → i < j → ro ≤ G.length → R.length = l.length → Sq G v 4 R → G[C]? = some (crow n) →
    R.take i = (kept n (l.take j)).map brow → R.drop j = (l.drop j).map brow →
    ∃ G' e' R', runW pg ro fn34L0 [(0, v), (1, .fn 36 [.ptr C 0 0 0]), (5, .int .i64 i), (6, .int .i64 j)] G = some (.exit 0, e', G') ∧ get e' 0 = v ∧ get e' 5 = .int .i64 (kept n l).length ∧ Sq G' v 4 R' ∧ R'.length = l.length ∧ R'.take (kept n l).length = (kept n l).map brow ∧ G.length ≤ G'.length ∧ (∀ b, b < G.length → b ∉ blkS v → G'[b]? = G[b]?) := by
  have L : ∀ e H, runW pg ro fn34L0 e H = seqO pg ro fn34L0 (runW pg ro fn34B0 (keepE [0, 1, 5, 6] e) H) := fun e H => runW_loopO
  intro k
  induction k with
  | zero =>
    intro i j G R hj hij hro2 hR h hC ht hd
    have : j = l.length := by omega
    subst this
    have hi : i = (kept n l).length := by
      have := congrArg List.length ht
      rw [List.take_length] at this
      simp at this; omega
    rw [List.take_length] at ht
    subst hi
    have hlen := h.len
    rw [hR] at hlen
    refine ⟨G, [(0, v), (1, .fn 36 [.ptr C 0 0 0]), (5, .int .i64 (kept n l).length), (6, .int .i64 l.length), (19, .bool false)], R, ?_, rfl, rfl, h, hR, ht, Nat.le_refl _, fun _ _ _ => rfl⟩
    rw [L]; simp [fn34B0, hlen]
  | succ k ih =>
    intro i j G R hj hij hro2 hR h hC ht hd
    have hlt : j < l.length := by omega
    have hClt : C < G.length := (List.getElem?_eq_some_iff.1 hC).1
    obtain ⟨x, hx⟩ : ∃ x, l[j]? = some x := ⟨_, List.getElem?_eq_getElem hlt⟩
    have hdl : l.drop j = x :: l.drop (j + 1) := by rw [List.drop_eq_getElem_cons hlt]; congr 1; rw [List.getElem?_eq_getElem hlt] at hx; exact Option.some.inj hx
    have htk : l.take (j + 1) = l.take j ++ [x] := by rw [List.take_add_one, hx]; rfl
    have hRj : R[j]? = some (brow x) := by
      have := congrArg (fun t => t[0]?) hd
      simp only [List.getElem?_drop, Nat.add_zero] at this
      rw [this, hdl]; rfl
    have hRd : R.drop (j + 1) = (l.drop (j + 1)).map brow := by
      have := congrArg List.tail hd
      rw [hdl] at this
      simpa using this
    have hlen := h.len
    rw [hR] at hlen
    obtain ⟨b, B, jj, hb, hidx, hB, hfz, hrow⟩ := h.idx hRj
    have hlti : (j : Int) < l.length := by omega
    have w1 : IntKind.i64.wrap ((j : Int) + 1) = j + 1 := by rw [IntKind.wrap_i64]; omega
    have w2 : IntKind.i64.wrap ((i : Int) + 1) = i + 1 := by rw [IntKind.wrap_i64]; omega
    have hC1 : (G ++ [{ rows := [brow x] }])[C]? = some (crow n) := by rw [List.getElem?_append_left hClt]; exact hC
    have hf := fun ro => ackfn_2 (ro := ro) (x := x) hC1
    cases hg : gone n x
    · rw [hg] at hf
      have h1 : Sq (G ++ [{ rows := [brow x] }]) v 4 R := h.app _
      obtain ⟨y, hy⟩ : ∃ y, R[i]? = some y := ⟨_, List.getElem?_eq_getElem (by omega)⟩
      obtain ⟨b2, B2, j2, hb2, hidx2, hB2, hfz2, hrow2, hput⟩ := h1.idxw hy
      have hput := hput (brow x) rfl
      have hyl := h1.wid y (List.mem_of_getElem? hy)
      have hne : ∀ c, c ∉ blkS v → c ≠ b2 := fun c hc e => hc (by rw [e]; exact hb2)
      have e1 : (R.set i (brow x)).take (i + 1) = (kept n (l.take (j + 1))).map brow := by
        rw [htk, kept, List.filter_append, List.map_append]
        have : [x].filter (fun x => !gone n x) = [x] := by simp [hg]
        rw [this, List.take_add_one, List.take_set_of_le (Nat.le_refl i), ht, List.getElem?_set_self (by omega)]
        rfl
      have e2 : (R.set i (brow x)).drop (j + 1) = (l.drop (j + 1)).map brow := by rw [List.drop_set_of_lt (by omega)]; exact hRd
      obtain ⟨G', e', R', hr, q1, q2, q3, q4, q5, q6, q7⟩ := ih (i + 1) (j + 1) _ _ (by omega) (by omega) (by simp; omega) (by simpa using hR) hput (by rw [List.getElem?_set_ne (Ne.symm (hne C hCv))]; exact hC1) e1 e2
      refine ⟨G', e', R', ?_, q1, q2, q3, q4, q5, by simp at q6; omega, fun c hc hcv => ?_⟩
      · have hrb := hro b2 hb2
        have ho : over y 0 (brow x) = brow x := by
          obtain ⟨y1, y2, y3, y4, rfl⟩ : ∃ y1 y2 y3 y4, y = [y1, y2, y3, y4] := by
            match y, hyl with
            | [y1, y2, y3, y4], _ => exact ⟨y1, y2, y3, y4, rfl⟩
          rfl
        have hy4 : y.drop 4 = [] := by simp [hyl]
        unfold brow at hf hrow hidx2 hB2 hr ho
        push_cast at hr
        rw [L]
        simp [-getElem?_pos, fn34B0, hlen, hlti, hidx, hB, hrow, hro2, hf, hidx2, hB2, hfz2, hrow2, hrb, hyl, hy4, ho, w1, w2, hr]
      · rw [q7 c (by simp; omega) hcv, List.getElem?_set_ne (Ne.symm (hne c hcv)), List.getElem?_append_left hc]
    · rw [hg] at hf
      have e1 : R.take i = (kept n (l.take (j + 1))).map brow := by
        rw [htk, kept, List.filter_append]
        have : [x].filter (fun x => !gone n x) = [] := by simp [hg]
        rw [this, List.append_nil, ht, kept]
      obtain ⟨G', e', R', hr, q1, q2, q3, q4, q5, q6, q7⟩ := ih i (j + 1) _ R (by omega) (by omega) (by simp; omega) hR (h.app [{ rows := [brow x] }]) hC1 e1 hRd
      refine ⟨G', e', R', ?_, q1, q2, q3, q4, q5, by simp at q6; omega, fun c hc hcv => ?_⟩
      · unfold brow at hf hrow hr
        push_cast at hr
        rw [L]
        simp [-getElem?_pos, fn34B0, hlen, hlti, hidx, hB, hrow, hro2, hf, w1, hr]
      · rw [q7 c (by simp; omega) hcv, List.getElem?_append_left hc]

theorem kept_none {n : Int} {l : List Bt} (h : l.findIdx? (gone n) = none) : kept n l = l := by
  rw [List.findIdx?_eq_none_iff] at h
  unfold kept
  rw [List.filter_eq_self]
  intro x hx; simp [h x hx]

theorem delete_c {v : IV} {l : List Bt} (h : Sq H v 4 (l.map brow)) (hl : l.length ≤ 1000) {C : Nat} {n : Int} (hC : H[C]? = some (crow n)) (hro : ∀ b ∈ blkS v, ro ≤ b) (hCv : C ∉ blkS v) (hro2 : ro ≤ H.length) :
    ∃ v' H', callW pg ro 34 [v, .fn 36 [.ptr C 0 0 0]] H = some (v', H') ∧ Sq H' v' 4 ((kept n l).map brow) ∧ blkS v' = blkS v ∧ H.length ≤ H'.length ∧ ∀ b, b < H.length → b ∉ blkS v → H'[b]? = H[b]? := by
  have hix := ix_2 (ro := ro) h hl hC
  cases hf : l.findIdx? (gone n) with
  | none =>
    rw [hf] at hix
    refine ⟨v, H, ?_, by rw [kept_none hf]; exact h, rfl, Nat.le_refl _, fun _ _ _ => rfl⟩
    rw [callW_eqO (fn := fn34) rfl rfl]
    simp [-getElem?_pos, fn34, hix]
  | some i =>
    rw [hf] at hix
    obtain ⟨hi, hp, hnp⟩ := List.findIdx?_eq_some_iff_getElem.1 hf
    have hk : kept n (l.take (i + 1)) = l.take i := by
      rw [List.take_add_one, List.getElem?_eq_getElem hi, kept, List.filter_append]
      have h1 : (l[i]?.toList).filter (fun x => !gone n x) = [] := by rw [List.getElem?_eq_getElem hi]; simp [hp]
      rw [List.getElem?_eq_getElem hi] at h1
      rw [h1, List.append_nil, List.filter_eq_self]
      intro x hx
      obtain ⟨j, hj, rfl⟩ := List.mem_take_iff_getElem.1 hx
      simp; have := hnp j (by omega); simpa using this
    obtain ⟨G', e', R', hr, q1, q2, q3, q4, q5, q6, q7⟩ := del_loop hl hro hCv (l.length - (i + 1)) i (i + 1) H (l.map brow) (by omega) (by omega) hro2 (by simp) h hC (by rw [hk, List.map_take]) (by rw [List.map_drop])
    have hkl : (kept n l).length ≤ R'.length := by rw [q4]; exact List.length_filter_le _ _
    obtain ⟨v1, G2, c1, c2, c3, c4, c5⟩ := q3.clear (i := (kept n l).length) hkl (z := [.int .i64 0, .int .i64 0, .str ⟨#[]⟩, .nsl]) rfl hro
    obtain ⟨v2, d1, d2, d3⟩ := c3.to (k := (kept n l).length) (by simp; omega)
    refine ⟨v2, G2, ?_, ?_, d3, by omega, fun b hb hbv => by rw [c5 b hbv, q7 b hb hbv]⟩
    · have w1 : IntKind.i64.wrap ((i : Int) + 1) = i + 1 := by rw [IntKind.wrap_i64]; omega
      have hne : ¬ ((i : Int) = -1) := by omega
      push_cast at hr
      rw [callW_eqO (fn := fn34) rfl rfl]
      simp [-getElem?_pos, -slSl_arr, fn34, hix, hne, w1, hr, q1, q2, c1, c2, d1]
    · have e : (R'.take (kept n l).length ++ List.replicate (R'.length - (kept n l).length) [IV.int .i64 0, IV.int .i64 0, IV.str ⟨#[]⟩, IV.nsl]).take (kept n l).length = (kept n l).map brow := by
        rw [List.take_append_of_le_length (by simp; omega), List.take_take, Nat.min_self, q5]
      rw [e] at d2
      exact d2

end Go.Proofs.Ytgpooiahnpemjaa
