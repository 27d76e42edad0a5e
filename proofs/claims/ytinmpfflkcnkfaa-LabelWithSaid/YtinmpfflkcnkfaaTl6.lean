import Derived.Test.YtinmpfflkcnkfaaTl5
/- Pairs that are taken out; a set made of pairs. -/
namespace Go.Proofs.Ytinmpfflkcnkfaa
open Go Go.Vs
variable {ro : Nat} {H : Hp}

@[simp] theorem doIns_clear {cf : CallF} {e : Env} {sz : Nat} {z : List IV} {x : Opd} : doIns cf ro e H (.clear sz z x) = clearV ro H sz z (ev e x) := rfl

theorem prow_plain {l : List Pr} : ∀ r ∈ l.map prow, ∀ x ∈ r, plainD 10 x = true := by
  intro r hr x hx
  obtain ⟨y, _, rfl⟩ := List.mem_map.1 hr
  simp [prow] at hx
  rcases hx with rfl | rfl <;> rfl

/-- A function that tells of pairs, wherever the heap is so. -/
structure FnOk (cond : Hp → Prop) (F : IV) (g : Pr → Bool) : Prop where
  call : ∀ ro H p, cond H → doCall (callW pg) ro 2 F [.agg (prow p)] H = some (.bool (g p), H)
  app : ∀ H Y, cond H → cond (H ++ Y)
  frz : ∀ H, frzArg H F = F
variable {cond : Hp → Prop} {F : IV} {g : Pr → Bool}

/-- The first one that goes. -/
theorem ix_loop {A : IV} {l : List Pr} (hA : SlA A 2 (l.map prow)) (hl : l.length ≤ 1000) (hF : FnOk cond F g) (hC : cond H) : ∀ (k i : Nat), i + k = l.length →
    runW pg ro fn73L0 [(0, A), (1, F), (7, .int .i64 l.length), (8, .int .i64 i)] H =
      match (l.drop i).findIdx? g with
      | none => some (.exit 0, [(0, A), (1, F), (7, .int .i64 l.length), (8, .int .i64 l.length), (9, .bool false)], H)
      | some j => some (.ret, [(4, .int .i64 (i + j : Nat))], H) := by
  have L : ∀ e, runW pg ro fn73L0 e H = seqO pg ro fn73L0 (runW pg ro fn73B0 (keepE [0, 1, 7, 8] e) H) := fun e => runW_loopO
  intro k
  induction k with
  | zero =>
    intro i hi
    have : i = l.length := by omega
    subst this
    rw [L, List.drop_length]
    simp [fn73B0]
  | succ k ih =>
    intro i hi
    have hlt : i < l.length := by omega
    obtain ⟨x, hx⟩ : ∃ x, l[i]? = some x := ⟨_, List.getElem?_eq_getElem hlt⟩
    have hd : l.drop i = x :: l.drop (i + 1) := by rw [List.drop_eq_getElem_cons hlt]; congr 1; rw [List.getElem?_eq_getElem hlt] at hx; exact Option.some.inj hx
    have hrow : (l.map prow)[i]? = some (prow x) := by rw [List.getElem?_map, hx]; rfl
    have hidx := fun H => hA.idx H i (by simpa using hlt)
    have hlti : (i : Int) < l.length := by omega
    have w1 : IntKind.i64.wrap ((i : Int) + 1) = i + 1 := by rw [IntKind.wrap_i64]; omega
    have hf := fun ro => hF.call ro H x hC
    have ih := ih (i + 1) (by omega)
    push_cast at ih
    rw [hd, List.findIdx?_cons, L]
    unfold prow at hf
    cases hg : g x
    · rw [hg] at hf
      simp [-getElem?_pos, fn73B0, hlti, hidx, hx, prow, hf, w1, ih]
      cases (l.drop (i + 1)).findIdx? g with
      | none => rfl
      | some j => simp; omega
    · rw [hg] at hf
      simp [-getElem?_pos, fn73B0, hlti, hidx, hx, prow, hf]

theorem ix_2 {v : IV} {l : List Pr} (h : Sq H v 2 (l.map prow)) (hl : l.length ≤ 1000) (hF : FnOk cond F g) (hC : cond H) :
    doCall (callW pg) ro 2 (.fn 73 []) [v, F] H = some (.int .i64 (match l.findIdx? g with | none => -1 | some j => (j : Int)), H) := by
  have hA := h.frzA prow_plain
  have hlen := hA.len
  rw [List.length_map] at hlen
  refine call2 (H2 := H) (args' := [frzArg H v, F]) (by simp [hF.frz]) ?_ rfl (.inl rfl)
  have hr := ix_loop (ro := H.length) hA hl hF hC l.length 0 (by omega)
  rw [List.drop_zero] at hr
  rw [callW_eqO (fn := fn73) rfl rfl]
  cases hf : l.findIdx? g with
  | none =>
    rw [hf] at hr
    simp at hr
    simp [-getElem?_pos, fn73, hlen, hr]
  | some j =>
    rw [hf] at hr
    simp at hr
    simp [-getElem?_pos, fn73, hlen, hr]

/-- What stays. -/
def kept (g : Pr → Bool) (l : List Pr) : List Pr := l.filter fun x => !g x

theorem del_loop {v : IV} {l : List Pr} (hl : l.length ≤ 1000) (hF : FnOk cond F g) (hro : ∀ b ∈ blkS v, ro ≤ b) (hset : ∀ (H : Hp) (b : Nat) (B : Bk), b ∈ blkS v → cond H → cond (H.set b B)) : ∀ (k i j : Nat) (G : Hp) (R : List (List IV)), j + k = l.length → i < j → ro ≤ G.length → R.length = l.length → Sq G v 2 R → cond G →
    R.take i = (kept g (l.take j)).map prow → R.drop j = (l.drop j).map prow →
    ∃ G' e' R', runW pg ro fn51L0 [(0, v), (1, F), (5, .int .i64 i), (6, .int .i64 j)] G = some (.exit 0, e', G') ∧ get e' 0 = v ∧ get e' 5 = .int .i64 (kept g l).length ∧ Sq G' v 2 R' ∧ R'.length = l.length ∧ R'.take (kept g l).length = (kept g l).map prow ∧ G.length ≤ G'.length ∧ (∀ b, b < G.length → b ∉ blkS v → G'[b]? = G[b]?) := by
  have L : ∀ e H, runW pg ro fn51L0 e H = seqO pg ro fn51L0 (runW pg ro fn51B0 (keepE [0, 1, 5, 6] e) H) := fun e H => runW_loopO
  intro k
  induction k with
  | zero =>
    intro i j G R hj hij hro2 hR h hC ht hd
    have : j = l.length := by omega
    subst this
    have hi : i = (kept g l).length := by
      have := congrArg List.length ht
      rw [List.take_length] at this
      simp at this; omega
    rw [List.take_length] at ht
    subst hi
    have hlen := h.len
    rw [hR] at hlen
    refine ⟨G, [(0, v), (1, F), (5, .int .i64 (kept g l).length), (6, .int .i64 l.length), (19, .bool false)], R, ?_, rfl, rfl, h, hR, ht, Nat.le_refl _, fun _ _ _ => rfl⟩
    rw [L]; simp [fn51B0, hlen]
  | succ k ih =>
    intro i j G R hj hij hro2 hR h hC ht hd
    have hlt : j < l.length := by omega
    obtain ⟨x, hx⟩ : ∃ x, l[j]? = some x := ⟨_, List.getElem?_eq_getElem hlt⟩
    have hdl : l.drop j = x :: l.drop (j + 1) := by rw [List.drop_eq_getElem_cons hlt]; congr 1; rw [List.getElem?_eq_getElem hlt] at hx; exact Option.some.inj hx
    have htk : l.take (j + 1) = l.take j ++ [x] := by rw [List.take_add_one, hx]; rfl
    have hRj : R[j]? = some (prow x) := by
      have := congrArg (fun t => t[0]?) hd
      simp only [List.getElem?_drop, Nat.add_zero] at this
      rw [this, hdl]; rfl
    have hRd : R.drop (j + 1) = (l.drop (j + 1)).map prow := by
      have := congrArg List.tail hd
      rw [hdl] at this
      simpa using this
    have hlen := h.len
    rw [hR] at hlen
    obtain ⟨b, B, jj, hb, hidx, hB, hfz, hrow⟩ := h.idx hRj
    have hlti : (j : Int) < l.length := by omega
    have w1 : IntKind.i64.wrap ((j : Int) + 1) = j + 1 := by rw [IntKind.wrap_i64]; omega
    have w2 : IntKind.i64.wrap ((i : Int) + 1) = i + 1 := by rw [IntKind.wrap_i64]; omega
    have hC1 : cond (G ++ [{ rows := [prow x] }]) := hF.app _ _ hC
    have hf := fun ro => hF.call ro _ x hC1
    cases hg : g x
    · rw [hg] at hf
      have h1 : Sq (G ++ [{ rows := [prow x] }]) v 2 R := h.app _
      obtain ⟨y, hy⟩ : ∃ y, R[i]? = some y := ⟨_, List.getElem?_eq_getElem (by omega)⟩
      obtain ⟨b2, B2, j2, hb2, hidx2, hB2, hfz2, hrow2, hput⟩ := h1.idxw hy
      have hput := hput (prow x) rfl
      have hyl := h1.wid y (List.mem_of_getElem? hy)
      have hne : ∀ c, c ∉ blkS v → c ≠ b2 := fun c hc e => hc (by rw [e]; exact hb2)
      have e1 : (R.set i (prow x)).take (i + 1) = (kept g (l.take (j + 1))).map prow := by
        rw [htk, kept, List.filter_append, List.map_append]
        have : [x].filter (fun x => !g x) = [x] := by simp [hg]
        rw [this, List.take_add_one, List.take_set_of_le (Nat.le_refl i), ht, List.getElem?_set_self (by omega)]
        rfl
      have e2 : (R.set i (prow x)).drop (j + 1) = (l.drop (j + 1)).map prow := by rw [List.drop_set_of_lt (by omega)]; exact hRd
      obtain ⟨G', e', R', hr, q1, q2, q3, q4, q5, q6, q7⟩ := ih (i + 1) (j + 1) _ _ (by omega) (by omega) (by simp; omega) (by simpa using hR) hput (hset _ _ _ hb2 hC1) e1 e2
      refine ⟨G', e', R', ?_, q1, q2, q3, q4, q5, by simp at q6; omega, fun c hc hcv => ?_⟩
      · have hrb := hro b2 hb2
        have ho : over y 0 (prow x) = prow x := by
          obtain ⟨y1, y2, rfl⟩ : ∃ y1 y2, y = [y1, y2] := by
            match y, hyl with
            | [y1, y2], _ => exact ⟨y1, y2, rfl⟩
          rfl
        have hy4 : y.drop 2 = [] := by simp [hyl]
        unfold prow at hf hrow hidx2 hB2 hr ho
        push_cast at hr
        rw [L]
        simp [-getElem?_pos, fn51B0, hlen, hlti, hidx, hB, hrow, hro2, hf, hidx2, hB2, hfz2, hrow2, hrb, hyl, hy4, ho, w1, w2, hr]
      · rw [q7 c (by simp; omega) hcv, List.getElem?_set_ne (Ne.symm (hne c hcv)), List.getElem?_append_left hc]
    · rw [hg] at hf
      have e1 : R.take i = (kept g (l.take (j + 1))).map prow := by
        rw [htk, kept, List.filter_append]
        have : [x].filter (fun x => !g x) = [] := by simp [hg]
        rw [this, List.append_nil, ht, kept]
      obtain ⟨G', e', R', hr, q1, q2, q3, q4, q5, q6, q7⟩ := ih i (j + 1) _ R (by omega) (by omega) (by simp; omega) hR (h.app [{ rows := [prow x] }]) hC1 e1 hRd
      refine ⟨G', e', R', ?_, q1, q2, q3, q4, q5, by simp at q6; omega, fun c hc hcv => ?_⟩
      · unfold prow at hf hrow hr
        push_cast at hr
        rw [L]
        simp [-getElem?_pos, fn51B0, hlen, hlti, hidx, hB, hrow, hro2, hf, w1, hr]
      · rw [q7 c (by simp; omega) hcv, List.getElem?_append_left hc]

theorem kept_none  {l : List Pr} (h : l.findIdx? g = none) : kept g l = l := by
  rw [List.findIdx?_eq_none_iff] at h
  unfold kept
  rw [List.filter_eq_self]
  intro x hx; simp [h x hx]

theorem delete_c {v : IV} {l : List Pr} (h : Sq H v 2 (l.map prow)) (hl : l.length ≤ 1000) (hF : FnOk cond F g) (hC : cond H) (hro : ∀ b ∈ blkS v, ro ≤ b) (hset : ∀ (H : Hp) (b : Nat) (B : Bk), b ∈ blkS v → cond H → cond (H.set b B)) (hro2 : ro ≤ H.length) :
    ∃ v' H', callW pg ro 51 [v, F] H = some (v', H') ∧ Sq H' v' 2 ((kept g l).map prow) ∧ blkS v' = blkS v ∧ H.length ≤ H'.length ∧ ∀ b, b < H.length → b ∉ blkS v → H'[b]? = H[b]? := by
  have hix := ix_2 (ro := ro) h hl hF hC
  cases hf : l.findIdx? g with
  | none =>
    rw [hf] at hix
    refine ⟨v, H, ?_, by rw [kept_none hf]; exact h, rfl, Nat.le_refl _, fun _ _ _ => rfl⟩
    rw [callW_eqO (fn := fn51) rfl rfl]
    simp [-getElem?_pos, fn51, hix]
  | some i =>
    rw [hf] at hix
    obtain ⟨hi, hp, hnp⟩ := List.findIdx?_eq_some_iff_getElem.1 hf
    have hk : kept g (l.take (i + 1)) = l.take i := by
      rw [List.take_add_one, List.getElem?_eq_getElem hi, kept, List.filter_append]
      have h1 : (l[i]?.toList).filter (fun x => !g x) = [] := by rw [List.getElem?_eq_getElem hi]; simp [hp]
      rw [List.getElem?_eq_getElem hi] at h1
      rw [h1, List.append_nil, List.filter_eq_self]
      intro x hx
      obtain ⟨j, hj, rfl⟩ := List.mem_take_iff_getElem.1 hx
      simp; have := hnp j (by omega); simpa using this
    obtain ⟨G', e', R', hr, q1, q2, q3, q4, q5, q6, q7⟩ := del_loop hl hF hro hset (l.length - (i + 1)) i (i + 1) H (l.map prow) (by omega) (by omega) hro2 (by simp) h hC (by rw [hk, List.map_take]) (by rw [List.map_drop])
    have hkl : (kept g l).length ≤ R'.length := by rw [q4]; exact List.length_filter_le _ _
    obtain ⟨v1, G2, c1, c2, c3, c4, c5⟩ := q3.clear (i := (kept g l).length) hkl (z := [.str ⟨#[]⟩, .str ⟨#[]⟩]) rfl hro
    obtain ⟨v2, d1, d2, d3⟩ := c3.to (k := (kept g l).length) (by simp; omega)
    refine ⟨v2, G2, ?_, ?_, d3, by omega, fun b hb hbv => by rw [c5 b hbv, q7 b hb hbv]⟩
    · have w1 : IntKind.i64.wrap ((i : Int) + 1) = i + 1 := by rw [IntKind.wrap_i64]; omega
      have hne : ¬ ((i : Int) = -1) := by omega
      push_cast at hr
      rw [callW_eqO (fn := fn51) rfl rfl]
      simp [-getElem?_pos, -slSl_arr, fn51, hix, hne, w1, hr, q1, q2, c1, c2, d1]
    · have e : (R'.take (kept g l).length ++ List.replicate (R'.length - (kept g l).length) [IV.str ⟨#[]⟩, IV.str ⟨#[]⟩]).take (kept g l).length = (kept g l).map prow := by
        rw [List.take_append_of_le_length (by simp; omega), List.take_take, Nat.min_self, q5]
      rw [e] at d2
      exact d2

end Go.Proofs.Ytinmpfflkcnkfaa
