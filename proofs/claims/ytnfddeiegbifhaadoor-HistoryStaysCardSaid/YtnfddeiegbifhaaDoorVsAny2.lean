import Derived.Test.YtnfddeiegbifhaaDoorVsAny
/- A region drawn: one operation, and all of them. -/
namespace Go.Vs
open Go Go.RowKit

section
variable {P : Program} {cf : CallF} {ro : Nat} {ops : Array Oper} {rs : List Rop} {E : Nat → Env} {Hs : Nat → Hp} {X : Nat → IV} {K0 : Kp} {w0 : World} {a0 : Act} {l : Array Bool} {a : Act} {w : World} {K : Kp} {q p : Nat}

/-- An operation that may come now. -/
structure Now (ops : Array Oper) (rs : List Rop) (l : Array Bool) (i : Nat) (o : Oper) (r : Rop) : Prop where
  lt : i < ops.size
  op : ops[i]? = some o
  rop : rs[i]? = some r
  und : ¬ dn l i
  bef : ∀ k, Anc ops k i → dn l k
  aft : ∀ k, Anc ops i k → ¬ dn l k
  cbef : ∀ k rk, k < i → rs[k]? = some rk → clash rk r = true → dn l k
  caft : ∀ k rk, i < k → rs[k]? = some rk → clash r rk = true → ¬ dn l k

theorem Inv.now (hL : Loose ops rs) (hI : Inv P ro ops rs E Hs X K0 w0 a0 l a w K q p) {i : Nat} (hi : i ∈ Region.ready .any ops l) : ∃ o r, Now ops rs l i o r := by
  obtain ⟨h0, o, ho, hall⟩ := mem_ready.1 hi
  have hlt : i < ops.size := (Array.getElem?_eq_some_iff.1 ho).1
  have hlr : i < rs.length := by rw [hL.len]; exact hlt
  have hr : rs[i]? = some rs[i] := List.getElem?_eq_getElem hlr
  have hnd : ¬ dn l i := (not_dn (by rw [hI.size]; exact hlt)).2 h0
  have hbef : ∀ k, Anc ops k i → dn l k := by
    intro k hk
    cases hk with
    | one h he hb hi => rw [ho] at h; cases h; subst hi; exact hall _ he hb
    | up h he hb hi hk => rw [ho] at h; cases h; subst hi; exact hI.clo _ _ (hall _ he hb) hk
  have haft : ∀ k, Anc ops i k → ¬ dn l k := fun k hk hd => hnd (hI.clo _ _ hd hk)
  exact ⟨o, rs[i], hlt, ho, hr, hnd, hbef, haft, fun k rk h1 h2 h3 => hbef k (hL.clash _ _ _ _ h1 h2 hr h3), fun k rk h1 h2 h3 => haft k (hL.clash _ _ _ _ h1 hr h2 h3)⟩

theorem clash_dst {r rk : Rop} {t : Nat} (h : r.dst = some t) (h' : rk.dst = some t) : clash r rk = true := by
  simp only [clash, Bool.or_eq_true]
  exact .inr (writes_true h (by rw [h']; simp))
theorem clash_lookL {r rk : Rop} {t : Nat} (h : r.dst = some t) (h' : t ∈ rk.looks) : clash r rk = true := by
  simp only [clash, Bool.or_eq_true]
  exact .inl (.inl (.inr (writes_true h h')))
theorem clash_lookR {r rk : Rop} {t : Nat} (h : rk.dst = some t) (h' : t ∈ r.looks) : clash r rk = true := by
  simp only [clash, Bool.or_eq_true]
  exact .inl (.inr (writes_true h h'))
theorem clash_W {r rk : Rop} (h : isW r = true) (h' : isTied rk = true) : clash r rk = true := by
  simp [clash, h, h']
theorem clash_WR {r rk : Rop} (h : isTied r = true) (h' : isW rk = true) : clash r rk = true := by
  simp [clash, h, h']

theorem Inv.env (hcf : CallOk P cf) (hT : IsTr cf ro rs E Hs X) (hI : Inv P ro ops rs E Hs X K0 w0 a0 l a w K q p) {i : Nat} {o : Oper} {r : Rop} (hN : Now ops rs l i o r) : EnvOk (K.cut (Hs (max i q)).length) (keepE r.looks (E i)) a := by
  have hlen : i < rs.length := (List.getElem?_eq_some_iff.1 hN.rop).1
  intro t
  rw [get_keep]
  split
  · rename_i hm
    refine SlotOk.read (lv := fun k => (Hs (max k q)).length) hT (hI.slot t) (Nat.le_of_lt hlen) (fun k rk hk hd => ?_) (fun k hk => hT.mono hcf (by omega) (by have := hI.qp; have := hI.pn; omega))
    constructor
    · intro hdn
      rcases Nat.lt_trichotomy k i with h | h | h
      · exact h
      · subst h; exact absurd hdn hN.und
      · exact absurd hdn (hN.caft k rk h hk (clash_lookR hd hm))
    · intro h; exact hN.cbef k rk h hk (clash_lookL hd hm)
  · exact .und _ _

theorem Inv.noLater {i : Nat} {o : Oper} {r : Rop} (hN : Now ops rs l i o r) : ∀ k' r' t, i < k' → dn l k' → rs[k']? = some r' → r.dst = some t → r'.dst ≠ some t :=
  fun k' r' _ h1 h2 h3 h4 h5 => hN.caft k' r' h1 h3 (clash_dst h4 h5) h2

theorem Inv.clo' (hI : Inv P ro ops rs E Hs X K0 w0 a0 l a w K q p) {i : Nat} {o : Oper} {r : Rop} (hN : Now ops rs l i o r) : ∀ k j, dn (l.setIfInBounds i true) k → Anc ops j k → dn (l.setIfInBounds i true) j := by
  have hs : i < l.size := by rw [hI.size]; exact hN.lt
  intro k j hk ha
  rcases (dn_set hs).1 hk with h | h
  · exact (dn_set hs).2 (.inl (hI.clo _ _ h ha))
  · subst h; exact (dn_set hs).2 (.inl (hN.bef _ ha))

theorem Inv.afterW (hcf : CallOk P cf) (hT : IsTr cf ro rs E Hs X) (hI : Inv P ro ops rs E Hs X K0 w0 a0 l a w K q p) {i : Nat} {o : Oper} {r : Rop} (hN : Now ops rs l i o r) (hw : isW r = true) (hip : i = p)
    {K' : Kp} {w' : World} {v : Value} (hR : Rel K' ro (Hs (i + 1)) w') (hle : K.le K') (hF : Fr K K' ro (Hs i).length (Hs (i + 1)).length w w') (hv : VR K' (X i) v) (hd : ∀ t, r.dst = some t → t < a.tmps.size) :
    ∃ p', Inv P ro ops rs E Hs X K0 w0 a0 (l.setIfInBounds i true) (a.put r.dst v) w' K' (i + 1) p' := by
  have hs : i < l.size := by rw [hI.size]; exact hN.lt
  have hlen : i < rs.length := (List.getElem?_eq_some_iff.1 hN.rop).1
  obtain ⟨p', h1, h2, h3, h4⟩ := nextW rs (i + 1) hlen
  have htop : ∀ n, (Hs (i + 1)).length ≤ n → K'.cut n = K' := fun n hn => Kp.cut_top fun b hb => hR.out (by omega)
  refine ⟨p', ⟨by simp [hI.size], hI.clo' hN, h1, h2, fun k rk hk hrk ht => ?_, h3, ?_, fun j hj1 hj2 => ?_, fun b hb => ?_, Kp.le_trans hI.le hle, hI.fr.trans (hF.shrink (hT.mono hcf (Nat.zero_le _) (by omega))), fun b L hb => ?_, fun t => ?_, by rw [put_size]; exact hI.asz, by rw [put_defers']; exact hI.adf⟩⟩
  · rw [dn_set hs]
    by_cases e : k = i
    · exact .inr e
    · exact .inl (hN.cbef k rk (by omega) hrk (clash_WR ht hw))
  · rcases h4 with h4 | ⟨rp, h5, h6⟩
    · exact .inl h4
    · refine .inr ⟨rp, h5, h6, fun hdn => ?_⟩
      rcases (dn_set hs).1 hdn with h7 | h7
      · exact hN.caft p' rp (by omega) h5 (clash_W hw (isTied_W h6)) h7
      · omega
  · obtain ⟨Y, hY⟩ := hT.ext hcf hj1 (by omega) fun k rk g1 g2 g3 => h3 k rk g1 (by omega) g3
    rw [htop _ (hT.mono hcf hj1 (by omega)), hY]
    exact hR.grow Y
  · exact hR.out (Nat.le_trans (hT.mono hcf h1 h2) hb)
  · by_cases e : b < (Hs i).length
    · cases hk : K.ρ b with
      | none => rw [hF.old b e hk] at hb; cases hb
      | some L0 =>
        rcases hI.rho b L0 hk with h5 | ⟨k, h5, h6, h7⟩
        · exact .inl h5
        · exact .inr ⟨k, h5, (dn_set hs).2 (.inl h6), h7⟩
    · exact .inr ⟨i, hlen, (dn_set hs).2 (.inr rfl), by omega, hR.lt hb⟩
  · refine SlotOk.put (lv := fun k => (Hs (max k (i + 1))).length) (fun t => (hI.slot t).mono hle fun k hk => hT.mono hcf (by have := hI.qp; omega) (by omega)) hN.rop hs (Inv.noLater hN) ?_ hd t
    simp only [Nat.max_self]
    rw [htop _ (Nat.le_refl _)]
    exact hv

theorem Inv.afterQ (hI : Inv P ro ops rs E Hs X K0 w0 a0 l a w K q p) {i : Nat} {o : Oper} {r : Rop} (hN : Now ops rs l i o r) (hw : isW r = false)
    {K' : Kp} {w' : World} {v : Value} (hq : Quiet K K' w w') (hv : VR (K'.cut (Hs (max (i + 1) q)).length) (X i) v) (hd : ∀ t, r.dst = some t → t < a.tmps.size) :
    Inv P ro ops rs E Hs X K0 w0 a0 (l.setIfInBounds i true) (a.put r.dst v) w' K' q p := by
  have hs : i < l.size := by rw [hI.size]; exact hN.lt
  refine ⟨by simp [hI.size], hI.clo' hN, hI.qp, hI.pn, fun k rk hk hrk ht => (dn_set hs).2 (.inl (hI.qd k rk hk hrk ht)), hI.nw, ?_, fun j hj1 hj2 => (hq.cuts _).rel (hI.rel j hj1 hj2), fun b hb => by rw [hq.rho]; exact hI.top b hb,
    Kp.le_trans hI.le hq.le, hI.fr.trans (hq.fr _ _), fun b L hb => ?_, fun t => ?_, by rw [put_size]; exact hI.asz, by rw [put_defers']; exact hI.adf⟩
  · rcases hI.pu with h | ⟨rp, h1, h2, h3⟩
    · exact .inl h
    · refine .inr ⟨rp, h1, h2, fun hdn => ?_⟩
      rcases (dn_set hs).1 hdn with h | h
      · exact h3 h
      · subst h
        rw [hN.rop] at h1; cases h1
        rw [hw] at h2; cases h2
  · rw [hq.rho] at hb
    rcases hI.rho b L hb with h5 | ⟨k, h5, h6, h7⟩
    · exact .inl h5
    · exact .inr ⟨k, h5, (dn_set hs).2 (.inl h6), h7⟩
  · exact SlotOk.put (lv := fun k => (Hs (max k q)).length) (fun t => (hI.slot t).mono hq.le fun k hk => Nat.le_refl _) hN.rop hs (Inv.noLater hN) hv hd t

theorem Inv.afterA (hcf : CallOk P cf) (hT : IsTr cf ro rs E Hs X) (hI : Inv P ro ops rs E Hs X K0 w0 a0 l a w K q p) {i : Nat} {o : Oper} {r : Rop} (hN : Now ops rs l i o r) (hw : isW r = false) (hqi : q ≤ i) (hip : i < p)
    {rows : List (List IV)} (hH : Hs (i + 1) = Hs i ++ [({ rows := rows } : Bk)]) {v : Value} {arr : Array Value} {elem : TypeId} {sz : Nat}
    (h1 : ∀ (r : Nat) (row : List IV), rows[r]? = some row → row.length = sz) (h2 : rows.length * sz ≤ arr.size) (h3 : ∀ u ∈ arr, u.oneCell' = true)
    (h4 : ∀ (r : Nat) (row : List IV) (c : Nat) (x : IV), rows[r]? = some row → row[c]? = some x → ∃ u, arr[r * sz + c]? = some u ∧ VR (K.cut (Hs i).length) x u)
    (h5 : ∀ K' : Kp, K'.ρ (Hs i).length = some ⟨0, w.heap.size, 0, sz, arr.size⟩ → VR K' (X i) v) (hd : ∀ t, r.dst = some t → t < a.tmps.size) :
    Inv P ro ops rs E Hs X K0 w0 a0 (l.setIfInBounds i true) (a.put r.dst v) (w.alloc (.cells arr elem)) (K.set (Hs i).length ⟨0, w.heap.size, 0, sz, arr.size⟩) q p := by
  have hs : i < l.size := by rw [hI.size]; exact hN.lt
  have hlen : i < rs.length := (List.getElem?_eq_some_iff.1 hN.rop).1
  have hl1 : (Hs (i + 1)).length = (Hs i).length + 1 := by rw [hH]; simp
  have hpn := hI.pn
  have hnone : K.ρ (Hs i).length = none := by
    cases hk : K.ρ (Hs i).length with
    | none => rfl
    | some L =>
      rcases hI.rho _ L hk with g | ⟨k, g1, g2, g3, g4⟩
      · have := hT.mono hcf (Nat.zero_le i) (by omega); omega
      · rcases Nat.lt_trichotomy k i with h | h | h
        · have := hT.mono hcf (show k + 1 ≤ i by omega) (by omega); omega
        · subst h; exact absurd g2 hN.und
        · have := hT.mono hcf (show i + 1 ≤ k by omega) (by omega); omega
  have h0i : (Hs 0).length ≤ (Hs i).length := hT.mono hcf (Nat.zero_le i) (by omega)
  have place : ∀ j, i + 1 ≤ j → j ≤ p → Rel ((K.cut (Hs j).length).set (Hs i).length ⟨0, w.heap.size, 0, sz, arr.size⟩) ro (Hs j) (w.alloc (.cells arr elem)) ∧
      Fr (K.cut (Hs j).length) ((K.cut (Hs j).length).set (Hs i).length ⟨0, w.heap.size, 0, sz, arr.size⟩) ro (Hs 0).length (Hs 0).length w (w.alloc (.cells arr elem)) := by
    intro j hj1 hj2
    obtain ⟨Y, hY⟩ := hT.ext hcf hj1 (by omega) fun k rk g1 g2 g3 => hI.nw k rk (by omega) (by omega) g3
    have hij : (Hs i).length < (Hs j).length := by have := hT.mono hcf hj1 (by omega); omega
    obtain ⟨_, q2, q3⟩ := (hI.rel j (by omega) hj2).place (b := (Hs i).length) (g := 0) (n := (Hs 0).length) (n' := (Hs 0).length) (Nat.le_refl _) (H' := Hs j) (elem := elem) (rows := rows) (arr := arr) (sz := sz)
      (fun L0 h => by simp only [Kp.cut, hij, if_true, hnone] at h; cases h) (hI.rel i hqi (by omega)).low (fun _ _ _ => rfl)
      (by rw [hY, hH, List.append_assoc, List.getElem?_append_right (Nat.le_refl _)]; simp) (Nat.le_refl _) (.inl h0i) h1 h2 h3
      (fun r row c x g1 g2 => let ⟨u, g3, g4⟩ := h4 r row c x g1 g2; ⟨u, g3, g4.mono (Kp.cut_le (Nat.le_of_lt hij))⟩)
    exact ⟨q2, q3⟩
  have hle : K.le (K.set (Hs i).length ⟨0, w.heap.size, 0, sz, arr.size⟩) := Kp.le_set fun L0 h => by rw [hnone] at h; cases h
  refine ⟨by simp [hI.size], hI.clo' hN, hI.qp, hI.pn, fun k rk hk hrk ht => (dn_set hs).2 (.inl (hI.qd k rk hk hrk ht)), hI.nw, ?_, fun j hj1 hj2 => ?_, fun b hb => ?_,
    Kp.le_trans hI.le hle, hI.fr.trans ?_, fun b L hb => ?_, fun t => ?_, by rw [put_size]; exact hI.asz, by rw [put_defers']; exact hI.adf⟩
  · rcases hI.pu with h | ⟨rp, g1, g2, g3⟩
    · exact .inl h
    · refine .inr ⟨rp, g1, g2, fun hdn => ?_⟩
      rcases (dn_set hs).1 hdn with h | h
      · exact g3 h
      · omega
  · by_cases e : j ≤ i
    · rw [Kp.cut_set_ge (hT.mono hcf e (by omega))]
      have hRj := hI.rel j hj1 hj2
      exact (Quiet.alloc hRj arr elem).rel hRj
    · rw [Kp.cut_set_lt (by have := hT.mono hcf (show i + 1 ≤ j by omega) (by omega); omega)]
      exact (place j (by omega) hj2).1
  · have := hT.mono hcf (show i + 1 ≤ p by omega) hpn
    rw [Kp.set_ne (by omega)]
    exact hI.top b hb
  · have := (place p (by omega) (Nat.le_refl _)).2
    rw [Kp.cut_top hI.top] at this
    exact this
  · by_cases e : b = (Hs i).length
    · subst e
      exact .inr ⟨i, hlen, (dn_set hs).2 (.inr rfl), Nat.le_refl _, by omega⟩
    · rw [Kp.set_ne e] at hb
      rcases hI.rho b L hb with h5 | ⟨k, h5, h6, h7⟩
      · exact .inl h5
      · exact .inr ⟨k, h5, (dn_set hs).2 (.inl h6), h7⟩
  · refine SlotOk.put (lv := fun k => (Hs (max k q)).length) (fun t => (hI.slot t).mono hle fun k hk => Nat.le_refl _) hN.rop hs (Inv.noLater hN) (h5 _ ?_) hd t
    have : max (i + 1) q = i + 1 := by omega
    simp only [this, Kp.cut, Kp.set, hl1, Nat.lt_succ_self, if_true]

theorem Inv.drew (hI : Inv P ro ops rs E Hs X K0 w0 a0 l a w K q p) : Inv P ro ops rs E Hs X K0 w0 a0 l a w.drew K q p :=
  { hI with rel := fun j h1 h2 => (hI.rel j h1 h2).drew, fr := hI.fr.trans (Fr.drew K ro (Hs 0).length w) }

theorem wpOp_of {Q : Exit → Act → World → Prop} {i : Nat} {o : Oper} (ho : ops[i]? = some o) {N : Act → World → Prop} {b : Bool} (hw : Region.wanted o (yielded ops a.tmps) = b) {R : Value → World → Prop}
    (ht : b = true → Runs P o a w R) (hf : b = false → R undef w) (hn : ∀ v w', R v w' → N (a.put o.dst v) w') : wpOp P ops Q i N a w := by
  unfold wpOp
  simp only [ho, hw]
  cases b with
  | true => exact .inl (ht rfl _ _ hn)
  | false => exact hn _ _ (hf rfl)

/-- The loads beside writers give the same wherever the writers stand. -/
def Rob (cf : CallF) (ro : Nat) (rs : List Rop) (c : Nat) (E : Nat → Env) (Hs : Nat → Hp) (X : Nat → IV) : Prop :=
  ∀ (i : Nat) (r : Rop), rs[i]? = some r → cls r.ins = .q → doIns cf ro (E i) (Hs i) r.ins = some (X i, Hs (i + 1)) → ∀ m, m ≤ c → doIns cf ro (E i) (Hs m) r.ins = some (X i, Hs m)

/-- From such a writer on all those loads are done. -/
structure Late (ops : Array Oper) (rs : List Rop) (c : Nat) : Prop where
  le : c ≤ rs.length
  wr : c < rs.length → ∃ r, rs[c]? = some r ∧ isW r = true
  anc : c < rs.length → ∀ (i : Nat) (r : Rop), rs[i]? = some r → cls r.ins = .q → Anc ops i c

theorem anc_lt (hL : Loose ops rs) {i j : Nat} (h : Anc ops i j) : i < j := by
  induction h with
  | one h he hb hi => rw [← hi]; exact hL.low _ _ h _ he hb
  | up h he hb hi hk ih => have := hL.low _ _ h _ he hb; omega

theorem Inv.step (hpr : PrOk P) (hcf : CallOk P cf) {nt : Nat} (hO : ∀ (i : Nat) (o : Oper) (r : Rop), ops[i]? = some o → rs[i]? = some r → OpOk P nt ops o r) (hL : Loose ops rs) (hT : IsTr cf ro rs E Hs X)
    {c : Nat} (hrob : Rob cf ro rs c E Hs X) (hlate : Late ops rs c) (hnt : nt ≤ a0.tmps.size) (hI : Inv P ro ops rs E Hs X K0 w0 a0 l a w K q p) {i : Nat} (hi : i ∈ Region.ready .any ops l) {Q : Exit → Act → World → Prop} :
    wpOp P ops Q i (fun a' w' => ∃ K' q' p', Inv P ro ops rs E Hs X K0 w0 a0 (l.setIfInBounds i true) a' w' K' q' p') a w := by
  obtain ⟨o, r, hN⟩ := hI.now hL hi
  have hok := hO i o r hN.op hN.rop
  have hlen : i < rs.length := (List.getElem?_eq_some_iff.1 hN.rop).1
  have hpn := hI.pn
  have hqp := hI.qp
  have hd : ∀ t, r.dst = some t → t < a.tmps.size := fun t ht => by
    rw [hI.asz]; exact Nat.lt_of_lt_of_le (hok.lt t (by rw [← hok.dst]; exact ht)) hnt
  have hE := hI.env hcf hT hN
  obtain ⟨im, m, hcop⟩ := hok.ins
  have hwant : ∀ {b}, wantE (E i) r.grd = some b → Region.wanted o (yielded ops a.tmps) = b := fun {b} h =>
    want_sim (e := keepE r.looks (E i)) hok.grd (fun t _ _ => hE t) (by rw [wantE_keep]; exact h)
  -- where it stands
  have hge : isTied r = true → q ≤ i := fun ht => by
    rcases Nat.lt_or_ge i q with h | h
    · exact absurd (hI.qd i r h hN.rop ht) hN.und
    · exact h
  have hle : isTied r = true → i ≤ p := fun ht => by
    rcases Nat.lt_or_ge p i with h | h
    · rcases hI.pu with e | ⟨rp, h1, h2, h3⟩
      · omega
      · exact absurd (hN.cbef p rp h h1 (clash_W h2 ht)) h3
    · exact h
  have hWp : isW r = true → i = p := fun hw => by
    have h1 := hge (isTied_W hw)
    have h2 := hle (isTied_W hw)
    rcases Nat.lt_or_ge i p with h | h
    · have := hI.nw i r h1 h hN.rop
      rw [hw] at this; cases this
    · omega
  have hNp : isTied r = true → isW r = false → i < p := fun ht hw => by
    have h2 := hle ht
    rcases Nat.lt_or_ge i p with h | h
    · exact h
    · have e : i = p := by omega
      rcases hI.pu with e' | ⟨rp, h1, h2, h3⟩
      · omega
      · subst e; rw [hN.rop] at h1; cases h1; rw [hw] at h2; cases h2
  have hcutp : K.cut (Hs p).length = K := Kp.cut_top hI.top
  -- the outcome, op by op
  have hcases : (∃ R, (∀ b, wantE (E i) r.grd = some b → (b = true → Runs P o a w R) ∧ (b = false → R undef w)) ∧ ∀ v w', R v w' → ∃ K' q' p', Inv P ro ops rs E Hs X K0 w0 a0 (l.setIfInBounds i true) (a.put o.dst v) w' K' q' p') := by
    rw [← hok.dst]
    rcases hT.act i r hN.rop with ⟨hwt, hdo⟩ | ⟨hwt, hx, hsame⟩
    · have hdo0 := hdo
      rw [← doIns_keep r] at hdo
      cases hcl : cls r.ins with
      | q =>
        have hw : isW r = false := by simp [isW, hcl]
        have hpc : p ≤ c := by
          rcases Nat.lt_or_ge c p with h | h
          · exfalso
            have hcl2 : c < rs.length := Nat.lt_of_lt_of_le h hpn
            obtain ⟨rc, h1, h2⟩ := hlate.wr hcl2
            have hcq : c < q := by
              rcases Nat.lt_or_ge c q with h' | h'
              · exact h'
              · have := hI.nw c rc h' h h1
                rw [h2] at this; cases this
            exact hN.aft c (hlate.anc hcl2 i r hN.rop hcl) (hI.qd c rc hcq h1 (isTied_W h2))
          · exact h
        have hic : i ≤ c := by
          rcases Nat.lt_or_ge c rs.length with h | h
          · exact Nat.le_of_lt (anc_lt hL (hlate.anc h i r hN.rop hcl))
          · omega
        obtain ⟨Hx, hRx, hdx⟩ : ∃ Hx, Rel (K.cut (Hs (max i q)).length) ro Hx w ∧ doIns cf ro (keepE r.looks (E i)) Hx r.ins = some (X i, Hx) := by
          rcases Nat.lt_or_ge p (max i q) with h | h
          · refine ⟨Hs p, ?_, ?_⟩
            · rw [Kp.cut_top fun b hb => hI.top b (Nat.le_trans (hT.mono hcf (Nat.le_of_lt h) (by omega)) hb)]
              have := hI.rel p hqp (Nat.le_refl _)
              rw [hcutp] at this; exact this
            · rw [doIns_keep r]; exact hrob i r hN.rop hcl hdo0 p hpc
          · refine ⟨_, hI.rel (max i q) (by omega) h, ?_⟩
            rw [doIns_keep r]; exact hrob i r hN.rop hcl hdo0 _ (by omega)
        have hr := op_runs hpr hcf hok.call hcop hE hRx hdx
        rw [hcl] at hr
        refine ⟨_, fun b hb => ⟨fun _ => hr.2, fun e => ?_⟩, fun v w' hv => ?_⟩
        · subst e; rw [hwt] at hb; cases hb
        · obtain ⟨K1, hq1, hv1⟩ := hv
          obtain ⟨hq2, hc2⟩ := hq1.cut
          refine ⟨_, q, p, hI.afterQ hN hw hq2 ?_ hd⟩
          rw [← hc2] at hv1
          exact hv1.mono (Kp.cut_le (hT.mono hcf (by omega) (by omega)))
      | p =>
        have hw : isW r = false := by simp [isW, hcl]
        obtain ⟨Hx, hRx⟩ : ∃ Hx, Rel (K.cut (Hs (max i q)).length) ro Hx w := by
          rcases Nat.lt_or_ge p (max i q) with h | h
          · refine ⟨Hs p, ?_⟩
            rw [Kp.cut_top fun b hb => hI.top b (Nat.le_trans (hT.mono hcf (Nat.le_of_lt h) (by omega)) hb)]
            have := hI.rel p hqp (Nat.le_refl _)
            rw [hcutp] at this; exact this
          · exact ⟨_, hI.rel (max i q) (by omega) h⟩
        have hdx := (doIns_p hcl hdo).2 Hx
        have hr := op_runs hpr hcf hok.call hcop hE hRx hdx
        rw [hcl] at hr
        refine ⟨_, fun b hb => ⟨fun _ => hr.2, fun e => ?_⟩, fun v w' hv => ?_⟩
        · subst e; rw [hwt] at hb; cases hb
        · obtain ⟨K1, hq1, hv1⟩ := hv
          obtain ⟨hq2, hc2⟩ := hq1.cut
          refine ⟨_, q, p, hI.afterQ hN hw hq2 ?_ hd⟩
          rw [← hc2] at hv1
          exact hv1.mono (Kp.cut_le (hT.mono hcf (by omega) (by omega)))
      | l =>
        have hw : isW r = false := by simp [isW, hcl]
        have ht : isTied r = true := by simp [isTied, hcl]
        have hqi := hge ht
        have hip := hNp ht hw
        have hmx : max i q = i := by omega
        rw [hmx] at hE
        have hr := op_runs hpr hcf hok.call hcop hE (hI.rel i hqi (by omega)) hdo
        rw [hcl] at hr
        refine ⟨_, fun b hb => ⟨fun _ => hr.2, fun e => ?_⟩, fun v w' hv => ?_⟩
        · subst e; rw [hwt] at hb; cases hb
        · obtain ⟨K1, hq1, hv1⟩ := hv
          obtain ⟨hq2, hc2⟩ := hq1.cut
          refine ⟨_, q, p, hI.afterQ hN hw hq2 ?_ hd⟩
          rw [← hc2] at hv1
          exact hv1.mono (Kp.cut_le (hT.mono hcf (by omega) (by omega)))
      | a =>
        have hw : isW r = false := by simp [isW, hcl]
        have ht : isTied r = true := by simp [isTied, hcl]
        have hqi := hge ht
        have hip := hNp ht hw
        have hmx : max i q = i := by omega
        rw [hmx] at hE
        have hr := op_runs hpr hcf hok.call hcop hE (hI.rel i hqi (by omega)) hdo
        rw [hcl] at hr
        obtain ⟨rows, hH, v, arr, elem, sz, hrun, h1, h2, h3, h4, h5⟩ := hr
        refine ⟨fun v' w' => v' = v ∧ w' = w.alloc (.cells arr elem), fun b hb => ⟨fun _ => Runs.value hrun ⟨rfl, rfl⟩, fun e => ?_⟩, fun v' w' hv => ?_⟩
        · subst e; rw [hwt] at hb; cases hb
        · obtain ⟨rfl, rfl⟩ := hv
          exact ⟨_, q, p, hI.afterA hcf hT hN hw hqi hip hH h1 h2 h3 h4 h5 hd⟩
      | n =>
        have hw : isW r = false := by simp [isW, hcl]
        have ht : isTied r = true := by simp [isTied, hcl]
        have hqi := hge ht
        have hip := hNp ht hw
        have hmx : max i q = i := by omega
        rw [hmx] at hE
        have hr := op_runs hpr hcf hok.call hcop hE (hI.rel i hqi (by omega)) hdo
        rw [hcl] at hr
        rcases hr with hr | hr
        · refine ⟨_, fun b hb => ⟨fun _ => hr.2, fun e => ?_⟩, fun v w' hv => ?_⟩
          · subst e; rw [hwt] at hb; cases hb
          · obtain ⟨K1, hq1, hv1⟩ := hv
            obtain ⟨hq2, hc2⟩ := hq1.cut
            refine ⟨_, q, p, hI.afterQ hN hw hq2 ?_ hd⟩
            rw [← hc2] at hv1
            exact hv1.mono (Kp.cut_le (hT.mono hcf (by omega) (by omega)))
        · obtain ⟨rows, hH, v, arr, elem, sz, hrun, h1, h2, h3, h4, h5⟩ := hr
          refine ⟨fun v' w' => v' = v ∧ w' = w.drew.alloc (.cells arr elem), fun b hb => ⟨fun _ => Runs.value hrun ⟨rfl, rfl⟩, fun e => ?_⟩, fun v' w' hv => ?_⟩
          · subst e; rw [hwt] at hb; cases hb
          · obtain ⟨rfl, rfl⟩ := hv
            exact ⟨_, q, p, hI.drew.afterA hcf hT hN hw hqi hip hH h1 h2 h3 h4 h5 hd⟩
      | w =>
        have hw : isW r = true := by simp [isW, hcl]
        have hip := hWp hw
        have hmx : max i q = i := by omega
        rw [hmx] at hE
        have hRi := hI.rel i (by omega) (by omega)
        have hcut : K.cut (Hs i).length = K := by rw [hip]; exact hcutp
        rw [hcut] at hE hRi
        have hr := op_runs hpr hcf hok.call hcop hE hRi hdo
        rw [hcl] at hr
        refine ⟨_, fun b hb => ⟨fun _ => hr.2, fun e => ?_⟩, fun v w' hv => ?_⟩
        · subst e; rw [hwt] at hb; cases hb
        · obtain ⟨K1, hle1, hR1, hv1, hF1⟩ := hv
          obtain ⟨p', h⟩ := hI.afterW hcf hT hN hw hip hR1 hle1 hF1 hv1 hd
          exact ⟨_, _, p', h⟩
    · have nope : ∀ b, wantE (E i) r.grd = some b → (b = true → Runs P o a w fun v w' => v = undef ∧ w' = w) ∧ (b = false → (undef : Value) = undef ∧ w = w) := by
        intro b hb
        refine ⟨fun e => ?_, fun _ => ⟨rfl, rfl⟩⟩
        subst e; rw [hwt] at hb; cases hb
      refine ⟨_, nope, fun v w' hv => ?_⟩
      obtain ⟨rfl, rfl⟩ := hv
      cases hw : isW r with
      | false =>
        have hq : Quiet K K w' w' := by
          have hRp := hI.rel p hqp (Nat.le_refl _)
          rw [hcutp] at hRp
          exact Quiet.refl hRp
        exact ⟨K, q, p, hI.afterQ hN hw hq (by rw [hx]; exact VR.nov _) hd⟩
      | true =>
        have hip := hWp hw
        have hRi := hI.rel i (by omega) (by omega)
        have hcut : K.cut (Hs i).length = K := by rw [hip]; exact hcutp
        rw [hcut] at hRi
        obtain ⟨p', h⟩ := hI.afterW (v := undef) hcf hT hN hw hip (by rw [hsame]; exact hRi) K.le_refl (by rw [hsame]; exact Fr.refl _ _ _ _) (by rw [hx]; exact VR.nov _) hd
        exact ⟨_, _, p', h⟩
  obtain ⟨R, hR1, hR2⟩ := hcases
  obtain ⟨b, hb⟩ : ∃ b, wantE (E i) r.grd = some b := by
    rcases hT.act i r hN.rop with ⟨h, _⟩ | ⟨h, _⟩ <;> exact ⟨_, h⟩
  exact wpOp_of hN.op (hwant hb) (hR1 b hb).1 (hR1 b hb).2 hR2

theorem Inv.all (hL : Loose ops rs) (hI : Inv P ro ops rs E Hs X K0 w0 a0 l a w K q p) (hr : Region.ready .any ops l = []) : ∀ k, k < rs.length → dn l k := by
  intro k
  induction k using Nat.strongRecOn with
  | _ k ih =>
    intro hk
    have hlt : k < ops.size := by rw [← hL.len]; exact hk
    apply Classical.byContradiction
    intro hn
    have ho : ops[k]? = some ops[k] := Array.getElem?_eq_getElem hlt
    have : k ∈ Region.ready .any ops l := mem_ready.2 ⟨(not_dn (by rw [hI.size]; exact hlt)).1 hn, _, ho, fun e he hb => by
      have h1 := hL.low k _ ho e he hb
      exact ih e.on h1 (by omega)⟩
    rw [hr] at this; cases this

theorem any_sim (hpr : PrOk P) (hcf : CallOk P cf) {nt : Nat} (hO : ∀ (i : Nat) (o : Oper) (r : Rop), ops[i]? = some o → rs[i]? = some r → OpOk P nt ops o r) (hL : Loose ops rs) (hT : IsTr cf ro rs E Hs X)
    {c : Nat} (hrob : Rob cf ro rs c E Hs X) (hlate : Late ops rs c) (hnt : nt ≤ a0.tmps.size) {Q : Exit → Act → World → Prop} (hQ : Goes Q .normal K0 ro (Hs 0) (Hs rs.length) (E rs.length) a0 w0) :
    ∀ (fuel : Nat) (l : Array Bool) (a : Act) (w : World) (K : Kp) (q p : Nat), Inv P ro ops rs E Hs X K0 w0 a0 l a w K q p → l.toList.count false ≤ fuel → wpAny P .any ops Q fuel l a w := by
  have fin : ∀ (l : Array Bool) (a : Act) (w : World) (K : Kp) (q p : Nat), Inv P ro ops rs E Hs X K0 w0 a0 l a w K q p → Region.ready .any ops l = [] → Q .normal a w := by
    intro l a w K q p hI hr
    have hall := hI.all hL hr
    have hp : p = rs.length := by
      rcases hI.pu with h | ⟨r, h1, _, h3⟩
      · exact h
      · exact absurd (hall p (List.getElem?_eq_some_iff.1 h1).1) h3
    have hqp := hI.qp
    subst hp
    have hcut : K.cut (Hs rs.length).length = K := Kp.cut_top hI.top
    have hR := hI.rel _ hqp (Nat.le_refl _)
    rw [hcut] at hR
    refine hQ a w K hI.le (fun t => ?_) hR ⟨hI.fr.bel, hT.mono hcf (Nat.zero_le _) (Nat.le_refl _), hI.fr.keep, hI.fr.claim, hI.fr.loc, hI.fr.old, hI.fr.low⟩ hI.asz hI.adf
    have := SlotOk.read (i := rs.length) (lv := fun k => (Hs (max k q)).length) hT (hI.slot t) (Nat.le_refl _) (fun k r hk _ => ⟨fun _ => (List.getElem?_eq_some_iff.1 hk).1, fun h => hall k h⟩) (fun k hk => hT.mono hcf (by omega) (by omega))
    have hmx : max rs.length q = rs.length := by omega
    simp only [hmx, hcut] at this
    exact this
  intro fuel
  induction fuel with
  | zero =>
    intro l a w K q p hI hc
    have hr : Region.ready .any ops l = [] := by
      cases hr : Region.ready .any ops l with
      | nil => rfl
      | cons i is =>
        have hi : i ∈ Region.ready .any ops l := by rw [hr]; exact List.mem_cons_self ..
        obtain ⟨o, r, hN⟩ := hI.now hL hi
        have h0 := (mem_ready.1 hi).1
        have hs : i < l.size := by rw [hI.size]; exact hN.lt
        rw [Array.getD_eq_getD_getElem?, Array.getElem?_eq_getElem hs] at h0
        simp at h0
        have : 0 < l.toList.count false := List.count_pos_iff.2 (by rw [← h0]; simp)
        omega
    exact ⟨hr, fin l a w K q p hI hr⟩
  | succ fuel ih =>
    intro l a w K q p hI hc
    refine ⟨fun hr => fin l a w K q p hI hr, fun i hi => ?_⟩
    refine wpOp_mono (fun a' w' h => ?_) (hI.step hpr hcf hO hL hT hrob hlate hnt hi)
    obtain ⟨K', q', p', hI'⟩ := h
    refine ih _ _ _ _ _ _ hI' ?_
    obtain ⟨o, r, hN⟩ := hI.now hL hi
    have h0 := (mem_ready.1 hi).1
    have hs : i < l.size := by rw [hI.size]; exact hN.lt
    rw [Array.getD_eq_getD_getElem?, Array.getElem?_eq_getElem hs] at h0
    simp only [Option.getD_some] at h0
    have hs' : i < l.toList.length := by simpa using hs
    have h0' : l.toList[i] = false := by simpa using h0
    have hpos : 0 < l.toList.count false := List.count_pos_iff.2 (by rw [← h0']; simp)
    rw [Array.toList_setIfInBounds, List.count_set hs', h0']
    simp only [beq_self_eq_true, if_true, show ((true : Bool) == false) = false from rfl, Bool.false_eq_true, if_false]
    omega

/-- A region drawn. -/
theorem region_tr (hm : P.follows .mixedOrders = true) (hpr : PrOk P) (hcf : CallOk P cf) {nt : Nat} {imf : Nat → Bool} {an an' : Ann} {rs : List Rop} (hc : cOps P nt ops imf 0 ops.toList an = some (rs, an')) (hany : anyOrder ops.toList rs = true)
    (hT : IsTr cf ro rs E Hs X) {c : Nat} (hrob : Rob cf ro rs c E Hs X) (hlate : Late ops rs c) {K : Kp} {a : Act} {w : World} (he : EnvOk K (E 0) a) (hR : Rel K ro (Hs 0) w) (hnt : nt ≤ a.tmps.size) {id : Nat} {Q : Exit → Act → World → Prop}
    (hQ : Goes Q .normal K ro (Hs 0) (Hs rs.length) (E rs.length) a w) : (Code.region id ops true).wp P Q a w := by
  have hL := anyOrder_spec hany
  obtain ⟨p, h1, h2, h3, h4⟩ := nextW rs 0 (Nat.zero_le _)
  have hundone : ∀ k, ¬ dn (Array.replicate ops.size false) k := by
    intro k hk
    unfold dn at hk
    rw [Array.getD_eq_getD_getElem?, Array.getElem?_replicate] at hk
    split at hk <;> simp at hk
  have htop : ∀ n, (Hs 0).length ≤ n → K.cut n = K := fun n hn => Kp.cut_top fun b hb => hR.out (by omega)
  refine wp_region_any hm (any_sim (K0 := K) (w0 := w) (a0 := a) hpr hcf (fun i o r ho hr => cOps_all hc i o r (by simpa using ho) hr) hL hT hrob hlate hnt hQ ops.size _ a _ K 0 p ?_ ?_)
  · refine ⟨by simp, fun k i hk => absurd hk (hundone k), h1, h2, fun k r hk => by omega, h3, ?_, fun j hj1 hj2 => ?_, fun b hb => hR.out (Nat.le_trans (hT.mono hcf h1 h2) hb), K.le_refl, Fr.drew K ro _ w, fun b L hb => .inl (hR.lt hb), fun t => .inr ⟨fun k r hk => absurd hk (hundone k), ?_⟩, rfl, rfl⟩
    · rcases h4 with h4 | ⟨r, h4, h5⟩
      · exact .inl h4
      · exact .inr ⟨r, h4, h5, hundone p⟩
    · obtain ⟨Y, hY⟩ := hT.ext hcf hj1 (by omega) fun k rk g1 g2 g3 => h3 k rk g1 (by omega) g3
      rw [htop _ (hT.mono hcf hj1 (by omega)), hY]
      exact hR.drew.grow Y
    · simp only [Nat.max_self]
      rw [htop _ (Nat.le_refl _)]
      exact he t
  · rw [Array.toList_replicate]
    exact Nat.le_trans (List.count_le_length ..) (by simp)


theorem rob_none {c : Nat} (h : (robs rs).isEmpty = true) : Rob cf ro rs c E Hs X := by
  intro i r hr hc
  exfalso
  have hm : r ∈ rs := List.mem_of_getElem? hr
  clear hr
  induction rs with
  | nil => cases hm
  | cons r0 rs ih =>
    simp only [robs] at h
    split at h
    · simp at h
    · simp at h
    · rename_i h1 h2
      rcases List.mem_cons.1 hm with rfl | hm
      · cases hi : r.ins <;> rw [hi] at hc <;> simp only [cls, reduceCtorEq] at hc
        case load ag n a im => split at hc <;> cases hc
        case call m f as => split at hc <;> cases hc
        case ldr ag n a b => exact absurd hi (h2 ag n a b)
      · exact ih h hm

/-- A region drawn. -/
theorem region_any (hm : P.follows .mixedOrders = true) (hpr : PrOk P) (hcf : CallOk P cf) {nt : Nat} {imf : Nat → Bool} {an an' : Ann} {rs : List Rop} (hc : cOps P nt ops imf 0 ops.toList an = some (rs, an')) (hany : anyOrder ops.toList rs = true) (hno : (robs rs).isEmpty = true)
    {e e' : Env} {H H' : Hp} (hd : doOps cf ro rs e H = some (e', H')) {K : Kp} {a : Act} {w : World} (he : EnvOk K e a) (hR : Rel K ro H w) (hnt : nt ≤ a.tmps.size) {id : Nat} {Q : Exit → Act → World → Prop}
    (hQ : Goes Q .normal K ro H H' e' a w) : (Code.region id ops true).wp P Q a w := by
  obtain ⟨E, Hs, X, hT, rfl, rfl, rfl, rfl⟩ := trace hd
  exact region_tr hm hpr hcf hc hany hT (rob_none hno) (c := rs.length) ⟨Nat.le_refl _, fun h => absurd h (Nat.lt_irrefl _), fun h => absurd h (Nat.lt_irrefl _)⟩ he hR hnt hQ

theorem mapO_mem {α β : Type} {f : α → Option β} : ∀ {l : List α} {ys : List β} {x : α}, mapO f l = some ys → x ∈ l → ∃ y ∈ ys, f x = some y
  | [], _, _, _, h => by cases h
  | a :: l, ys, x, h, hm => by
    simp only [mapO, Option.bind_eq_some_iff] at h
    obtain ⟨y, h1, zs, h2, h3⟩ := h
    cases h3
    rcases List.mem_cons.1 hm with rfl | hm
    · exact ⟨y, List.mem_cons_self .., h1⟩
    · obtain ⟨y', g1, g2⟩ := mapO_mem h2 hm
      exact ⟨y', List.mem_cons_of_mem _ g1, g2⟩

theorem hasN_mem {t : Nat} : ∀ {l : List Nat}, t ∈ l → hasN t l = true
  | x :: l, h => by
    simp only [hasN, Bool.or_eq_true]
    rcases List.mem_cons.1 h with rfl | h
    · left; simp
    · exact .inr (hasN_mem h)

theorem robs_mem {ag : Bool} {n : Nat} {a : Opd} {t : Nat} : ∀ {rs : List Rop} {r : Rop}, r ∈ rs → r.ins = .ldr ag n a (.t t) → t ∈ robs rs
  | r0 :: rs, r, h, hi => by
    rcases List.mem_cons.1 h with rfl | h
    · simp only [robs, hi]; exact List.mem_cons_self ..
    · have := robs_mem h hi
      simp only [robs]
      split
      · exact List.mem_cons_of_mem _ this
      · exact List.mem_cons_of_mem _ this
      · exact this

theorem rd_blk {H H' : Hp} {n b g i j : Nat} (h : H'[b]? = H[b]?) : rd H' n (.ptr b g i j) = rd H n (.ptr b g i j) := by
  simp only [rd, blkAt, h]

theorem ldr_eq {e : Env} {H : Hp} {ag : Bool} {n t : Nat} {a : Opd} : doIns cf ro e H (.ldr ag n a (.t t)) = if sameBlk (ev e a) (get e t) = true then (rd H n (ev e a)).bind fun cs => (val1 ag cs).bind fun v => some (v, H) else none := rfl

theorem rob_of {bl : List Nat} {c : Nat} (hlate : Late ops rs c) (hL : Loose ops rs) (hT : IsTr cf ro rs E Hs X) (hok : ldrT rs = true) (hf : freeOf (robs rs) rs = true) (hb : mapO (fun t => blkOf (Hs 0) (get (E 0) t)) (robs rs) = some bl)
    (hk : ∀ i, i < rs.length → i < c → ∀ b ∈ bl, (Hs (i + 1))[b]? = (Hs i)[b]?) : Rob cf ro rs c E Hs X := by
  intro i r hr hc hdo m hm
  have hil : i < rs.length := (List.getElem?_eq_some_iff.1 hr).1
  have hcl := hlate.le
  have hkk : ∀ b ∈ bl, ∀ j, j ≤ c → (Hs j)[b]? = (Hs 0)[b]? := by
    intro b hb j
    induction j with
    | zero => intro _; rfl
    | succ j ih => intro hj; rw [hk j (by omega) (by omega) b hb, ih (by omega)]
  have hic : i ≤ c := by
    rcases Nat.lt_or_ge c rs.length with h | h
    · exact Nat.le_of_lt (anc_lt hL (hlate.anc h i r hr hc))
    · omega
  cases hi : r.ins <;> rw [hi] at hc <;> simp only [cls, reduceCtorEq] at hc
  case load ag n a im => split at hc <;> cases hc
  case call m f as => split at hc <;> cases hc
  case ldr ag n a b =>
    obtain ⟨t, rfl⟩ : ∃ t, b = .t t := by
      have := List.all_eq_true.1 hok r (List.mem_of_getElem? hr)
      rw [hi] at this
      cases b <;> simp at this
      exact ⟨_, rfl⟩
    have ht := robs_mem (List.mem_of_getElem? hr) hi
    obtain ⟨b, hbm, hbl⟩ := mapO_mem hb ht
    have hget : get (E i) t = get (E 0) t := by
      rcases hT.text t i (Nat.le_of_lt hil) with ⟨k, rk, h1, h2, h3, _, _⟩ | ⟨_, h2⟩
      · exfalso
        have := List.all_eq_true.1 hf rk (List.mem_of_getElem? h2)
        rw [h3] at this
        simp [hasN_mem ht] at this
      · exact h2
    rw [hi, ldr_eq, hget] at hdo
    rw [ldr_eq, hget]
    split at hdo
    · rename_i hq
      rw [if_pos hq]
      cases hv : get (E 0) t <;> rw [hv] at hbl <;> simp only [blkOf, reduceCtorEq] at hbl
      rename_i b0 g0 i0 j0
      split at hbl
      · cases hbl
        cases ha : ev (E i) a <;> rw [ha, hv] at hq <;> simp only [sameBlk, Bool.false_eq_true] at hq
        rename_i b1 g1 i1 j1
        have : b1 = b := Nat.eq_of_beq_eq_true hq
        subst this
        rw [ha] at hdo
        have e1 := rd_blk (n := n) (g := g1) (i := i1) (j := j1) ((hkk b1 hbm m hm).trans (hkk b1 hbm i hic).symm)
        simp only [Option.bind_eq_some_iff] at hdo ⊢
        obtain ⟨cs, h1, v, h2, h3⟩ := hdo
        refine ⟨cs, by rw [e1]; exact h1, v, h2, ?_⟩
        simp only [Option.some.injEq, Prod.mk.injEq] at h3 ⊢
        exact ⟨h3.1, trivial⟩
      · cases hbl
    · cases hdo

theorem ldrIn_spec {a : Nat} : ∀ {l : List Rop} {k : Nat}, ldrIn a l k = true → ∀ (i : Nat) (r : Rop), l[i]? = some r → cls r.ins = .q → a.testBit (k + i) = true
  | [], k, _, i, r, hi, _ => by simp at hi
  | r0 :: l, k, h, i, r, hi, hc => by
    simp only [ldrIn, Bool.and_eq_true] at h
    cases i with
    | zero =>
      simp at hi; subst hi
      cases hins : r0.ins <;> rw [hins] at hc h <;> simp only [cls, reduceCtorEq] at hc
      case load ag n x im => split at hc <;> cases hc
      case call m f as => split at hc <;> cases hc
      case ldr => simpa using h.1
    | succ i =>
      have := ldrIn_spec h.2 i r (by simpa using hi) hc
      rwa [show k + 1 + i = k + (i + 1) by omega] at this
theorem lateAt_spec {all : List Rop} : ∀ {rs : List Rop} {as : List Nat} {k : Nat}, k ≤ lateAt all rs as k ∧ lateAt all rs as k ≤ k + rs.length ∧ (lateAt all rs as k < k + rs.length → ∃ r a, rs[lateAt all rs as k - k]? = some r ∧ as[lateAt all rs as k - k]? = some a ∧ isW r = true ∧ ldrIn a all 0 = true)
  | [], as, k => by simp [lateAt]
  | r :: rs, [], k => by
    have h := lateAt_spec (all := all) (rs := rs) (as := []) (k := k + 1)
    simp only [lateAt, List.length_cons]
    refine ⟨by omega, by omega, fun hl => ?_⟩
    obtain ⟨r', a, _, h2, _⟩ := h.2.2 (by omega)
    simp at h2
  | r :: rs, a :: as, k => by
    have h := lateAt_spec (all := all) (rs := rs) (as := as) (k := k + 1)
    simp only [lateAt, List.length_cons]
    split
    · rename_i hc
      simp only [Bool.and_eq_true] at hc
      exact ⟨Nat.le_refl _, by omega, fun _ => ⟨r, a, by simp, by simp, hc.1, hc.2⟩⟩
    · refine ⟨by omega, by omega, fun hl => ?_⟩
      obtain ⟨r', a', h1, h2, h3⟩ := h.2.2 (by omega)
      have e : lateAt all rs as (k + 1) - k = (lateAt all rs as (k + 1) - (k + 1)) + 1 := by omega
      exact ⟨r', a', by rw [e]; simpa using h1, by rw [e]; simpa using h2, h3⟩
theorem late_of : Late ops rs (lateAt rs rs (ancs ops.toList 0 []) 0) := by
  obtain ⟨_, h1, h2⟩ := lateAt_spec (all := rs) (rs := rs) (as := ancs ops.toList 0 []) (k := 0)
  simp only [Nat.zero_add, Nat.sub_zero] at h1 h2
  refine ⟨h1, fun h => ?_, fun h i r hi hc => ?_⟩
  · obtain ⟨r, a, q1, _, q3, _⟩ := h2 h
    exact ⟨r, q1, q3⟩
  · obtain ⟨r', a, _, q2, _, q4⟩ := h2 h
    have h3 := ldrIn_spec q4 i r hi hc
    rw [Nat.zero_add] at h3
    refine ancs_spec ops.toList 0 [] rfl (by simp) (by omega) _ _ ?_
    rw [List.getD_eq_getElem?_getD, q2]
    exact h3

/-- A region drawn, beside whose writers something loads. -/
theorem region_rob (hm : P.follows .mixedOrders = true) (hpr : PrOk P) (hcf : CallOk P cf) {nt : Nat} {imf : Nat → Bool} {an an' : Ann} {rs : List Rop} (hc : cOps P nt ops imf 0 ops.toList an = some (rs, an')) (hany : anyOrder ops.toList rs = true) (hok : ldrT rs = true) (hf : freeOf (robs rs) rs = true)
    {e e' : Env} {H H' : Hp} {bl : List Nat} (hb : mapO (fun t => blkOf H (get e t)) (robs rs) = some bl) (hd : doOpsR cf ro bl (lateAt rs rs (ancs ops.toList 0 []) 0) rs e H = some (e', H')) {K : Kp} {a : Act} {w : World} (he : EnvOk K e a) (hR : Rel K ro H w) (hnt : nt ≤ a.tmps.size) {id : Nat} {Q : Exit → Act → World → Prop}
    (hQ : Goes Q .normal K ro H H' e' a w) : (Code.region id ops true).wp P Q a w := by
  obtain ⟨E, Hs, X, hT, rfl, rfl, rfl, rfl, hk⟩ := traceR hd
  have hL := anyOrder_spec hany
  have hlate := late_of (ops := ops) (rs := rs)
  exact region_tr hm hpr hcf hc hany hT (rob_of hlate hL hT hok hf hb hk) hlate he hR hnt hQ

end
end Go.Vs
