import Derived.Test.YtnfddeiegbifhaaDoorVsInd
/- The ideal run over a region, operation by operation; what stands before what. -/
namespace Go.Vs
open Go Go.RowKit

/-- One comes before another by the edges. -/
inductive Anc (ops : Array Oper) : Nat → Nat → Prop
  | one {i j : Nat} {o : Oper} {e : Edge} (h : ops[j]? = some o) (he : e ∈ o.after) (hb : Region.binds .any e = true) (hi : e.on = i) : Anc ops i j
  | up {i k j : Nat} {o : Oper} {e : Edge} (h : ops[j]? = some o) (he : e ∈ o.after) (hb : Region.binds .any e = true) (hi : e.on = k) (hk : Anc ops i k) : Anc ops i j

theorem ancOne_spec {acc : List Nat} {k i : Nat} : ∀ {es : List Edge}, (ancOne acc k es).testBit i = true → ∃ e ∈ es, Region.binds .any e = true ∧ (e.on = i ∨ (e.on < k ∧ (acc.getD (k - 1 - e.on) 0).testBit i = true))
  | [], h => by simp [ancOne] at h
  | e :: es, h => by
    simp only [ancOne, Nat.testBit_or, Bool.or_eq_true] at h
    rcases h with h | h
    · split at h
      · rename_i hb
        simp only [Nat.testBit_or, Bool.or_eq_true] at h
        rcases h with h | h
        · rw [Nat.testBit_two_pow] at h
          exact ⟨e, List.mem_cons_self .., hb, .inl (by simpa using h)⟩
        · split at h
          · rename_i hk; exact ⟨e, List.mem_cons_self .., hb, .inr ⟨hk, h⟩⟩
          · simp at h
      · simp at h
    · obtain ⟨e', h1, h2⟩ := ancOne_spec h
      exact ⟨e', List.mem_cons_of_mem _ h1, h2⟩

theorem ancs_spec {ops : Array Oper} : ∀ (l : List Oper) (k : Nat) (acc : List Nat), acc.length = k → (∀ j, l[j]? = ops[k + j]?) → (∀ m i, m < k → (acc.getD (k - 1 - m) 0).testBit i = true → Anc ops i m) →
    ∀ m i, ((ancs l k acc).getD m 0).testBit i = true → Anc ops i m
  | [], k, acc, hl, _, ha => by
    intro m i h
    simp only [ancs] at h
    by_cases hm : m < k
    · refine ha m i hm ?_
      rw [List.getD_eq_getElem?_getD, List.getElem?_reverse (by omega), hl] at h
      rw [List.getD_eq_getElem?_getD]; exact h
    · rw [List.getD_eq_getElem?_getD, List.getElem?_eq_none (by simp; omega)] at h
      simp at h
  | o :: l, k, acc, hl, ho, ha => by
    intro m i h
    simp only [ancs, forceN_eq] at h
    refine ancs_spec l (k + 1) _ (by simp [hl]) (fun j => by have := ho (j + 1); simpa [Nat.add_assoc, Nat.add_comm 1 j] using this) (fun m i hm hb => ?_) m i h
    by_cases e : m = k
    · subst e
      simp only [Nat.add_sub_cancel, Nat.sub_self, List.getD_cons_zero] at hb
      have hok : ops[m]? = some o := by have := ho 0; simpa using this.symm
      obtain ⟨ed, h1, h2, h3⟩ := ancOne_spec hb
      have h1' : ed ∈ o.after := by simpa using h1
      rcases h3 with h3 | ⟨h3, h4⟩
      · exact .one hok h1' h2 h3
      · exact .up hok h1' h2 rfl (ha _ _ h3 h4)
    · refine ha m i (by omega) ?_
      have : k + 1 - 1 - m = (k - 1 - m) + 1 := by omega
      rw [this, List.getD_cons_succ] at hb
      exact hb

theorem pairOk_spec {r : Rop} {v : Nat} : ∀ {pre : List Rop} {s : Nat}, pairOk r v pre s = true → ∀ i ri, pre[i]? = some ri → clash ri r = true → v.testBit (s + i) = true
  | [], s, _, i, ri, h, _ => by simp at h
  | q :: pre, s, hp, i, ri, h, hc => by
    simp only [pairOk, Bool.and_eq_true, Bool.or_eq_true, Bool.not_eq_true'] at hp
    obtain ⟨h1, h2⟩ := hp
    cases i with
    | zero =>
      simp at h; subst h
      rcases h1 with h1 | h1
      · exact h1
      · rw [hc] at h1; cases h1
    | succ i =>
      simp at h
      have := pairOk_spec h2 i ri h hc
      rw [show s + (i + 1) = s + 1 + i by omega]; exact this

theorem anyOk_spec : ∀ {os : List Oper} {rs : List Rop} {vs : List Nat} {k : Nat} {pre : List Rop}, anyOk os rs vs k pre = true → pre.length = k →
    os.length = rs.length ∧ (∀ j o, os[j]? = some o → ∀ e ∈ o.after, Region.binds .any e = true → e.on < k + j) ∧ (∀ j r, rs[j]? = some r → ∀ i ri, i < k + j → (pre ++ rs)[i]? = some ri → clash ri r = true → (vs.getD j 0).testBit i = true)
  | [], [], vs, k, pre, _, _ => ⟨rfl, by simp, by simp⟩
  | [], _ :: _, _, _, _, h, _ => by simp [anyOk] at h
  | _ :: _, [], _, _, _, h, _ => by simp [anyOk] at h
  | _ :: _, _ :: _, [], _, _, h, _ => by simp [anyOk] at h
  | o :: os, r :: rs, v :: vs, k, pre, h, hl => by
    simp only [anyOk, Bool.and_eq_true] at h
    obtain ⟨⟨h1, h2⟩, h3⟩ := h
    obtain ⟨a1, a2, a3⟩ := anyOk_spec h3 (by simp [hl])
    refine ⟨by simp [a1], fun j o' ho e he hb => ?_, fun j r' hr i ri hi hri hc => ?_⟩
    · cases j with
      | zero =>
        simp at ho; subst ho
        have := (List.all_eq_true.1 h1) e (by simpa using he)
        simpa [hb] using this
      | succ j =>
        simp at ho
        have := a2 j o' ho e he hb
        omega
    · cases j with
      | zero =>
        simp at hr; subst hr
        rw [List.getElem?_append_left (by omega)] at hri
        have := pairOk_spec h2 i ri hri hc
        simpa using this
      | succ j =>
        simp at hr
        have := a3 j r' hr i ri (by omega) (by rw [List.append_assoc]; simpa using hri) hc
        simpa using this

/-- What a drawn region's operations are. -/
structure Loose (ops : Array Oper) (rs : List Rop) : Prop where
  len : rs.length = ops.size
  low : ∀ (j : Nat) (o : Oper), ops[j]? = some o → ∀ e ∈ o.after, Region.binds .any e = true → e.on < j
  clash : ∀ (i j : Nat) (ri rj : Rop), i < j → rs[i]? = some ri → rs[j]? = some rj → clash ri rj = true → Anc ops i j

theorem anyOrder_spec {ops : Array Oper} {rs : List Rop} (h : anyOrder ops.toList rs = true) : Loose ops rs := by
  obtain ⟨h1, h2, h3⟩ := anyOk_spec h rfl
  refine ⟨by simpa using h1.symm, fun j o ho e he hb => by have := h2 j o (by simpa using ho) e he hb; omega, fun i j ri rj hij hi hj hc => ?_⟩
  have := h3 j rj hj i ri (by omega) (by simpa using hi) hc
  exact ancs_spec ops.toList 0 [] rfl (by simp) (by omega) j i this

/-- The ideal run, operation by operation. -/
structure IsTr (cf : CallF) (ro : Nat) (rs : List Rop) (E : Nat → Env) (Hs : Nat → Hp) (X : Nat → IV) : Prop where
  put : ∀ (i : Nat) (r : Rop), rs[i]? = some r → E (i + 1) = putE (E i) r.dst (X i)
  act : ∀ (i : Nat) (r : Rop), rs[i]? = some r → (wantE (E i) r.grd = some true ∧ doIns cf ro (E i) (Hs i) r.ins = some (X i, Hs (i + 1))) ∨ (wantE (E i) r.grd = some false ∧ X i = .tup [] ∧ Hs (i + 1) = Hs i)

theorem trace {cf : CallF} {ro : Nat} : ∀ {rs : List Rop} {e e' : Env} {H H' : Hp}, doOps cf ro rs e H = some (e', H') → ∃ E Hs X, IsTr cf ro rs E Hs X ∧ E 0 = e ∧ Hs 0 = H ∧ E rs.length = e' ∧ Hs rs.length = H'
  | [], e, e', H, H', h => by
    simp only [doOps, Option.some.injEq, Prod.mk.injEq] at h
    obtain ⟨rfl, rfl⟩ := h
    exact ⟨fun _ => e, fun _ => H, fun _ => .und, ⟨by simp, by simp⟩, rfl, rfl, rfl, rfl⟩
  | r :: rs, e, e', H, H', h => by
    simp only [doOps, Option.bind_eq_some_iff] at h
    obtain ⟨b, hb, h⟩ := h
    have go : ∀ x H1, doOps cf ro rs (putE e r.dst x) H1 = some (e', H') → ((wantE e r.grd = some true ∧ doIns cf ro e H r.ins = some (x, H1)) ∨ (wantE e r.grd = some false ∧ x = .tup [] ∧ H1 = H)) →
        ∃ E Hs X, IsTr cf ro (r :: rs) E Hs X ∧ E 0 = e ∧ Hs 0 = H ∧ E (rs.length + 1) = e' ∧ Hs (rs.length + 1) = H' := by
      intro x H1 hr ha
      obtain ⟨E, Hs, X, ht, h0, h1, h2, h3⟩ := trace hr
      refine ⟨fun i => match i with | 0 => e | i + 1 => E i, fun i => match i with | 0 => H | i + 1 => Hs i, fun i => match i with | 0 => x | i + 1 => X i, ⟨fun i r' hi => ?_, fun i r' hi => ?_⟩, rfl, rfl, h2, h3⟩
      · cases i with
        | zero => simp at hi; subst hi; exact h0
        | succ i => exact ht.put i r' (by simpa using hi)
      · cases i with
        | zero =>
          simp at hi; subst hi
          rcases ha with ⟨a1, a2⟩ | ⟨a1, a2, a3⟩
          · exact .inl ⟨a1, by rw [a2]; simp [h1]⟩
          · exact .inr ⟨a1, a2, by simp [h1, a3]⟩
        | succ i => exact ht.act i r' (by simpa using hi)
    cases b with
    | true =>
      simp only [if_true, Option.bind_eq_some_iff] at h
      obtain ⟨⟨x, H1⟩, hd, h⟩ := h
      exact go x H1 h (.inl ⟨hb, hd⟩)
    | false =>
      simp only [Bool.false_eq_true, if_false] at h
      exact go (.tup []) H h (.inr ⟨hb, rfl, rfl⟩)

theorem traceR {cf : CallF} {ro : Nat} {bl : List Nat} : ∀ {c : Nat} {rs : List Rop} {e e' : Env} {H H' : Hp}, doOpsR cf ro bl c rs e H = some (e', H') → ∃ E Hs X, IsTr cf ro rs E Hs X ∧ E 0 = e ∧ Hs 0 = H ∧ E rs.length = e' ∧ Hs rs.length = H' ∧
    ∀ i, i < rs.length → i < c → ∀ b ∈ bl, (Hs (i + 1))[b]? = (Hs i)[b]?
  | 0, rs, e, e', H, H', h => by
    obtain ⟨E, Hs, X, h1, h2, h3, h4, h5⟩ := trace h
    exact ⟨E, Hs, X, h1, h2, h3, h4, h5, fun i _ hi => absurd hi (Nat.not_lt_zero _)⟩
  | _ + 1, [], e, e', H, H', h => by
    simp only [doOpsR, Option.some.injEq, Prod.mk.injEq] at h
    obtain ⟨rfl, rfl⟩ := h
    exact ⟨fun _ => e, fun _ => H, fun _ => .und, ⟨by simp, by simp⟩, rfl, rfl, rfl, rfl, fun i hi => by simp at hi⟩
  | c + 1, r :: rs, e, e', H, H', h => by
    simp only [doOpsR, Option.bind_eq_some_iff] at h
    obtain ⟨b, hb, h⟩ := h
    have go : ∀ x H1, doOpsR cf ro bl c rs (putE e r.dst x) H1 = some (e', H') → ((wantE e r.grd = some true ∧ doIns cf ro e H r.ins = some (x, H1)) ∨ (wantE e r.grd = some false ∧ x = .tup [] ∧ H1 = H)) → (∀ b ∈ bl, H1[b]? = H[b]?) →
        ∃ E Hs X, IsTr cf ro (r :: rs) E Hs X ∧ E 0 = e ∧ Hs 0 = H ∧ E (rs.length + 1) = e' ∧ Hs (rs.length + 1) = H' ∧ ∀ i, i < rs.length + 1 → i < c + 1 → ∀ b ∈ bl, (Hs (i + 1))[b]? = (Hs i)[b]? := by
      intro x H1 hr ha hk
      obtain ⟨E, Hs, X, ht, h0, h1, h2, h3, h4⟩ := traceR hr
      refine ⟨fun i => match i with | 0 => e | i + 1 => E i, fun i => match i with | 0 => H | i + 1 => Hs i, fun i => match i with | 0 => x | i + 1 => X i, ⟨fun i r' hi => ?_, fun i r' hi => ?_⟩, rfl, rfl, h2, h3, fun i hi hic b hb => ?_⟩
      · cases i with
        | zero => simp at hi; subst hi; simp [h0]
        | succ i => exact ht.put i r' (by simpa using hi)
      · cases i with
        | zero =>
          simp at hi; subst hi
          rcases ha with ⟨a1, a2⟩ | ⟨a1, a2, a3⟩
          · exact .inl ⟨a1, by rw [a2]; simp [h1]⟩
          · exact .inr ⟨a1, a2, by simp [h1, a3]⟩
        | succ i => exact ht.act i r' (by simpa using hi)
      · cases i with
        | zero => dsimp only; rw [h1]; exact hk b hb
        | succ i => exact h4 i (by omega) (by omega) b hb
    cases b with
    | true =>
      simp only [if_true, Option.bind_eq_some_iff] at h
      obtain ⟨⟨x, H1⟩, hd, h⟩ := h
      split at h
      · rename_i hk
        exact go x H1 h (.inl ⟨hb, hd⟩) hk
      · cases h
    | false =>
      simp only [Bool.false_eq_true, if_false] at h
      exact go (.tup []) H h (.inr ⟨hb, rfl, rfl⟩) fun _ _ => rfl

theorem doIns_ext {P : Program} {cf : CallF} (hcf : CallOk P cf) {ro : Nat} {e : Env} {H H' : Hp} {ins : Ins} {x : IV} (hw : cls ins ≠ .w) (h : doIns cf ro e H ins = some (x, H')) : ∃ Y, H' = H ++ Y := by
  have same : H' = H → ∃ Y, H' = H ++ Y := fun h => ⟨[], by simp [h]⟩
  cases hc : cls ins with
  | p => exact same (doIns_p hc h).1
  | q =>
    cases ins <;> simp only [cls, reduceCtorEq] at hc
    case load ag n a im => split at hc <;> cases hc
    case call m f as => split at hc <;> cases hc
    case ldr =>
      simp only [doIns] at h
      split at h
      · simp only [Option.bind_eq_some_iff] at h
        obtain ⟨_, _, _, _, h⟩ := h
        cases h; exact same rfl
      · cases h
  | l =>
    cases ins <;> simp only [cls, reduceCtorEq] at hc
    case load ag n a im =>
      simp only [doIns] at h
      split at h
      · cases h
      · simp only [Option.bind_eq_some_iff] at h
        obtain ⟨_, _, _, _, h⟩ := h
        cases h; exact same rfl
    case cvbs y =>
      simp only [doIns] at h
      split at h
      · cases h
      · simp only [Option.bind_eq_some_iff] at h
        obtain ⟨_, _, _, _, h⟩ := h
        cases h; exact same rfl
    case slsl =>
      simp only [doIns, Option.bind_eq_some_iff] at h
      obtain ⟨_, _, _, _, _, _, _, _, h⟩ := h
      cases h; exact same rfl
    case iad =>
      simp only [doIns] at h
      split at h
      · simp only [Option.bind_eq_some_iff] at h
        obtain ⟨_, _, h⟩ := h
        cases h; exact same rfl
      · cases h
    case tou | fru | nep | usd | ovl =>
      simp only [doIns, Option.bind_eq_some_iff] at h
      obtain ⟨_, _, h⟩ := h
      cases h; exact same rfl
    case capo =>
      simp only [doIns] at h
      repeat' split at h
      all_goals first
        | (cases h; done)
        | (cases h; exact same rfl)
        | (simp only [Option.bind_eq_some_iff] at h
           obtain ⟨_, _, h⟩ := h
           cases h; exact same rfl)
    case call m f as =>
      have hm : m = 2 := by
        split at hc
        · assumption
        · cases hc
      subst hm
      simp only [doIns, doCall] at h
      repeat' split at h
      · exact same ((callP_sim hcf h).2.2.1 rfl)
      · cases h
  | a =>
    cases ins <;> simp only [cls, reduceCtorEq] at hc
    case alloc => simp only [doIns] at h; cases h; exact ⟨_, rfl⟩
    case box =>
      simp only [doIns, Option.bind_eq_some_iff] at h
      obtain ⟨_, _, h⟩ := h
      split at h
      · cases h; exact ⟨_, rfl⟩
      · cases h
    case bslice =>
      simp only [doIns, Option.bind_eq_some_iff] at h
      obtain ⟨_, _, h⟩ := h
      cases h; exact ⟨_, rfl⟩
    case mksl =>
      simp only [doIns, Option.bind_eq_some_iff] at h
      obtain ⟨_, _, _, _, h⟩ := h
      split at h
      · cases h; exact ⟨_, rfl⟩
      · cases h
    case load ag n a im => split at hc <;> cases hc
    case call m f as => split at hc <;> cases hc
  | n =>
    cases ins <;> simp only [cls, reduceCtorEq] at hc
    case apn =>
      simp only [doIns, appV, Option.bind_eq_some_iff] at h
      obtain ⟨ys, _, h⟩ := h
      split at h
      · cases h
      · split at h
        · cases h; exact ⟨[], by simp⟩
        · simp only [newArr] at h
          split at h
          · cases h; exact ⟨_, rfl⟩
          · cases h
    case load ag n a im => split at hc <;> cases hc
    case call m f as => split at hc <;> cases hc
  | w => exact absurd hc hw

section
variable {P : Program} {cf : CallF} {ro : Nat} {rs : List Rop} {E : Nat → Env} {Hs : Nat → Hp} {X : Nat → IV}

theorem IsTr.len1 (hcf : CallOk P cf) (ht : IsTr cf ro rs E Hs X) {i : Nat} (hi : i < rs.length) : (Hs i).length ≤ (Hs (i + 1)).length := by
  rcases ht.act i _ (List.getElem?_eq_getElem hi) with ⟨_, h⟩ | ⟨_, _, h⟩
  · exact doIns_len hcf h
  · rw [h]; exact Nat.le_refl _

theorem IsTr.mono (hcf : CallOk P cf) (ht : IsTr cf ro rs E Hs X) {i : Nat} : ∀ {j : Nat}, i ≤ j → j ≤ rs.length → (Hs i).length ≤ (Hs j).length := by
  intro j
  induction j with
  | zero => intro h _; have : i = 0 := by omega
            subst this; exact Nat.le_refl _
  | succ j ih =>
    intro h hj
    by_cases e : i = j + 1
    · subst e; exact Nat.le_refl _
    · exact Nat.le_trans (ih (by omega) (by omega)) (ht.len1 hcf (by omega))

theorem isW_of {r : Rop} (h : isW r = false) : cls r.ins ≠ .w := by
  intro hc; simp [isW, hc] at h

/-- Where nothing writes the heap only gets blocks. -/
theorem IsTr.ext (hcf : CallOk P cf) (ht : IsTr cf ro rs E Hs X) {i : Nat} : ∀ {j : Nat}, i ≤ j → j ≤ rs.length → (∀ (k : Nat) (r : Rop), i ≤ k → k < j → rs[k]? = some r → isW r = false) → ∃ Y, Hs j = Hs i ++ Y := by
  intro j
  induction j with
  | zero => intro h _ _; have : i = 0 := by omega
            subst this; exact ⟨[], by simp⟩
  | succ j ih =>
    intro h hj hw
    by_cases e : i = j + 1
    · subst e; exact ⟨[], by simp⟩
    · obtain ⟨Y, hY⟩ := ih (by omega) (by omega) fun k r h1 h2 => hw k r h1 (by omega)
      have hr : rs[j]? = some rs[j] := List.getElem?_eq_getElem (by omega)
      rcases ht.act j _ hr with ⟨_, h⟩ | ⟨_, _, h⟩
      · obtain ⟨Z, hZ⟩ := doIns_ext hcf (isW_of (hw j _ (by omega) (by omega) hr)) h
        exact ⟨Y ++ Z, by rw [hZ, hY, List.append_assoc]⟩
      · exact ⟨Y, by rw [h, hY]⟩

/-- A slot in the text's order. -/
theorem IsTr.text (ht : IsTr cf ro rs E Hs X) (t : Nat) : ∀ (i : Nat), i ≤ rs.length →
    (∃ k r, k < i ∧ rs[k]? = some r ∧ r.dst = some t ∧ (∀ k' r', k < k' → k' < i → rs[k']? = some r' → r'.dst ≠ some t) ∧ get (E i) t = X k) ∨ ((∀ k r, k < i → rs[k]? = some r → r.dst ≠ some t) ∧ get (E i) t = get (E 0) t) := by
  intro i
  induction i with
  | zero => intro _; exact .inr ⟨fun k r h => by omega, rfl⟩
  | succ i ih =>
    intro hi
    have hr : rs[i]? = some rs[i] := List.getElem?_eq_getElem (by omega)
    rw [ht.put i _ hr, get_put]
    by_cases hd : rs[i].dst = some t
    · rw [if_pos hd]
      exact .inl ⟨i, _, by omega, hr, hd, fun k' r' h1 h2 => by omega, rfl⟩
    · rw [if_neg hd]
      rcases ih (by omega) with ⟨k, r, h1, h2, h3, h4, h5⟩ | ⟨h1, h2⟩
      · refine .inl ⟨k, r, by omega, h2, h3, fun k' r' h6 h7 h8 => ?_, h5⟩
        by_cases e : k' = i
        · subst e; rw [hr] at h8; cases h8; exact hd
        · exact h4 k' r' h6 (by omega) h8
      · refine .inr ⟨fun k r h3 h4 => ?_, h2⟩
        by_cases e : k = i
        · subst e; rw [hr] at h4; cases h4; exact hd
        · exact h1 k r (by omega) h4

end
end Go.Vs
/- A region drawn: in whatever order its edges let. -/
namespace Go.Vs
open Go Go.RowKit

theorem Kp.cut_le {K : Kp} {m n : Nat} (h : m ≤ n) : (K.cut m).le (K.cut n) := by
  refine ⟨fun b L hb => ⟨L, ?_, Nat.le_refl _, fun _ => rfl⟩, fun _ _ _ h => h⟩
  simp only [Kp.cut] at hb ⊢
  split at hb
  · rw [if_pos (by omega)]; exact hb
  · cases hb
theorem Kp.cut_self {K : Kp} {n : Nat} : (K.cut n).le K := by
  refine ⟨fun b L hb => ⟨L, ?_, Nat.le_refl _, fun _ => rfl⟩, fun _ _ _ h => h⟩
  simp only [Kp.cut] at hb
  split at hb
  · exact hb
  · cases hb
theorem Kp.cut_mono {K K' : Kp} {n : Nat} (h : K.le K') : (K.cut n).le (K'.cut n) := by
  refine ⟨fun b L hb => ?_, h.2⟩
  simp only [Kp.cut] at hb ⊢
  split at hb
  · rename_i hn
    obtain ⟨L', h1, h2, h3⟩ := h.1 b L hb
    exact ⟨L', by rw [if_pos hn]; exact h1, h2, h3⟩
  · cases hb
theorem Kp.cut_top {K : Kp} {n : Nat} (h : ∀ b, n ≤ b → K.ρ b = none) : K.cut n = K := by
  obtain ⟨ρ, κ⟩ := K
  simp only [Kp.cut, Kp.mk.injEq, and_true] at h ⊢
  funext b
  split
  · rfl
  · exact (h b (by omega)).symm
theorem Kp.cut_set_lt {K : Kp} {n b : Nat} {L : Loc} (h : b < n) : (K.set b L).cut n = (K.cut n).set b L := by
  simp only [Kp.cut, Kp.set, Kp.mk.injEq, and_true]
  funext x
  by_cases e : x = b
  · subst e; simp [h]
  · simp [e]
theorem Kp.cut_set_ge {K : Kp} {n b : Nat} {L : Loc} (h : n ≤ b) : (K.set b L).cut n = K.cut n := by
  simp only [Kp.cut, Kp.set, Kp.mk.injEq, and_true]
  funext x
  by_cases e : x = b
  · subst e; rw [if_neg (by omega), if_neg (by omega)]
  · simp [e]

theorem Rel.grow {K : Kp} {ro : Nat} {H : Hp} {w : World} (hR : Rel K ro H w) (Y : Hp) : Rel K ro (H ++ Y) w := by
  refine ⟨fun b L hb => ?_, hR.inj, hR.claim, fun b L B hb hB => ?_, by simp; have := hR.low; omega⟩
  · obtain ⟨B, hB, ok⟩ := hR.blk b L hb
    exact ⟨B, by rw [List.getElem?_append_left (hR.lt hb)]; exact hB, ok⟩
  · rw [List.getElem?_append_left (hR.lt hb)] at hB
    exact hR.own b L B hb hB

theorem Quiet.alloc {K : Kp} {ro : Nat} {H : Hp} {w : World} (hR : Rel K ro H w) (arr : Array Value) (elem : TypeId) : Quiet K K w (w.alloc (.cells arr elem)) := by
  refine ⟨rfl, fun _ _ _ h => h, fun b i v hc => ?_, fun _ _ h => .inl h, (Below.refl _ _).alloc (Nat.le_refl _) _⟩
  obtain ⟨hc', h1⟩ := hR.claim b i v hc
  refine ⟨?_, h1⟩
  rw [World.cell?_alloc_lt _ _ _ (World.block_lt_of_cell? _ _ hc')]
  exact hc'

/-- From one cut to another. -/
theorem Quiet.cut {K K1 : Kp} {n : Nat} {w w' : World} (h : Quiet (K.cut n) K1 w w') : Quiet K ⟨K.ρ, K1.κ⟩ w w' ∧ (⟨K.ρ, K1.κ⟩ : Kp).cut n = K1 := by
  refine ⟨⟨rfl, h.kap, h.claim, h.fresh, h.bel⟩, ?_⟩
  have := h.rho
  obtain ⟨ρ, κ⟩ := K1
  simp only [Kp.cut] at this ⊢
  subst this
  rfl

theorem Quiet.cuts {K K' : Kp} {w w' : World} (h : Quiet K K' w w') (n : Nat) : Quiet (K.cut n) (K'.cut n) w w' :=
  ⟨by simp only [Kp.cut, h.rho], h.kap, h.claim, h.fresh, h.bel⟩

theorem Fr.shrink {K K' : Kp} {ro h h' n : Nat} {w w' : World} (hF : Fr K K' ro h h' w w') (hn : n ≤ h) : Fr K K' ro n n w w' :=
  ⟨hF.bel, Nat.le_refl _, hF.keep, hF.claim, hF.loc, fun b hb => hF.old b (by omega), hF.low⟩

def dn (l : Array Bool) (k : Nat) : Prop := l.getD k false = true

theorem dn_set {l : Array Bool} {i k : Nat} (h : i < l.size) : dn (l.setIfInBounds i true) k ↔ dn l k ∨ k = i := by
  unfold dn
  by_cases e : i = k
  · subst e; simp [h]
  · rw [getD_set_ne false e]
    constructor
    · exact .inl
    · rintro (h | h)
      · exact h
      · exact absurd h.symm e

theorem not_dn {l : Array Bool} {k : Nat} (h : k < l.size) : ¬ dn l k ↔ l.getD k true = false := by
  unfold dn
  rw [Array.getD_eq_getD_getElem?, Array.getD_eq_getD_getElem?, Array.getElem?_eq_getElem h]
  simp

/-- How an operation is compiled. -/
structure OpOk (P : Program) (nt : Nat) (ops : Array Oper) (o : Oper) (r : Rop) : Prop where
  dst : r.dst = o.dst
  lt : ∀ d, o.dst = some d → d < nt
  ins : ∃ im m, cOp P im m o.op = some r.ins
  call : (isCallI r.ins && !isCall o.op) = false
  grd : cGrd ops o.guard = some r.grd

theorem cOps_all {P : Program} {nt : Nat} {all : Array Oper} {imf : Nat → Bool} : ∀ {l : List Oper} {i : Nat} {an an' : Ann} {rs : List Rop}, cOps P nt all imf i l an = some (rs, an') → ∀ (j : Nat) (o : Oper) (r : Rop), l[j]? = some o → rs[j]? = some r → OpOk P nt all o r
  | [], _, _, _, _, _, j, o, r, h, _ => by simp at h
  | o0 :: l, i, an, an', rs, h, j, o, r, ho, hr => by
    obtain ⟨g, ins, m, rs', an2, rfl, hd, hi, hc, hg, hrest⟩ := cOps_cons h
    cases j with
    | zero =>
      simp at ho hr; subst ho hr
      exact ⟨rfl, hd, ⟨_, _, hi⟩, hc, hg⟩
    | succ j => exact cOps_all hrest j o r (by simpa using ho) (by simpa using hr)

section
variable {rs : List Rop} {E : Nat → Env} {Hs : Nat → Hp} {X : Nat → IV}

def SlotOk (rs : List Rop) (E : Nat → Env) (X : Nat → IV) (l : Array Bool) (K : Kp) (a : Act) (lv : Nat → Nat) (t : Nat) : Prop :=
  (∃ k r, dn l k ∧ rs[k]? = some r ∧ r.dst = some t ∧ (∀ k' r', k < k' → dn l k' → rs[k']? = some r' → r'.dst ≠ some t) ∧ VR (K.cut (lv (k + 1))) (X k) (a.tmps.getD t undef)) ∨
  ((∀ k r, dn l k → rs[k]? = some r → r.dst ≠ some t) ∧ VR (K.cut (lv 0)) (get (E 0) t) (a.tmps.getD t undef))

theorem SlotOk.mono {l : Array Bool} {K K' : Kp} {a : Act} {lv lv' : Nat → Nat} {t : Nat} (h : SlotOk rs E X l K a lv t) (hK : K.le K') (hl : ∀ k, k ≤ rs.length → lv k ≤ lv' k) : SlotOk rs E X l K' a lv' t := by
  rcases h with ⟨k, r, h1, h2, h3, h4, h5⟩ | ⟨h1, h2⟩
  · exact .inl ⟨k, r, h1, h2, h3, h4, (h5.mono (Kp.cut_mono hK)).mono (Kp.cut_le (hl _ (List.getElem?_eq_some_iff.1 h2).1))⟩
  · exact .inr ⟨h1, (h2.mono (Kp.cut_mono hK)).mono (Kp.cut_le (hl _ (Nat.zero_le _)))⟩

theorem SlotOk.put {l : Array Bool} {K : Kp} {a : Act} {lv : Nat → Nat} {i : Nat} {r : Rop} {v : Value} (h : ∀ t, SlotOk rs E X l K a lv t) (hr : rs[i]? = some r) (hi : i < l.size)
    (hno : ∀ k' r' t, i < k' → dn l k' → rs[k']? = some r' → r.dst = some t → r'.dst ≠ some t) (hv : VR (K.cut (lv (i + 1))) (X i) v) (hd : ∀ t, r.dst = some t → t < a.tmps.size) (t : Nat) :
    SlotOk rs E X (l.setIfInBounds i true) K (a.put r.dst v) lv t := by
  by_cases e : r.dst = some t
  · refine .inl ⟨i, r, (dn_set hi).2 (.inr rfl), hr, e, fun k' r' h1 h2 h3 => ?_, ?_⟩
    · rcases (dn_set hi).1 h2 with h2 | h2
      · exact hno k' r' t h1 h2 h3 e
      · omega
    · rw [e]
      simp only [Act.put]
      rw [Array.getD_eq_getD_getElem?, Array.getElem?_setIfInBounds_self_of_lt (hd t e)]
      exact hv
  · have hs : (a.put r.dst v).tmps.getD t undef = a.tmps.getD t undef := by
      cases hdst : r.dst with
      | none => rfl
      | some d =>
        simp only [Act.put]
        have : d ≠ t := fun h => e (by rw [hdst, h])
        rw [Array.getD_eq_getD_getElem?, Array.getElem?_setIfInBounds_ne this, ← Array.getD_eq_getD_getElem?]
    unfold SlotOk
    rw [hs]
    rcases h t with ⟨k, r', h1, h2, h3, h4, h5⟩ | ⟨h1, h2⟩
    · refine .inl ⟨k, r', (dn_set hi).2 (.inl h1), h2, h3, fun k' r2 h6 h7 h8 => ?_, h5⟩
      rcases (dn_set hi).1 h7 with h7 | h7
      · exact h4 k' r2 h6 h7 h8
      · subst h7; rw [hr] at h8; cases h8; exact e
    · refine .inr ⟨fun k r2 h7 h8 => ?_, h2⟩
      rcases (dn_set hi).1 h7 with h7 | h7
      · exact h1 k r2 h7 h8
      · subst h7; rw [hr] at h8; cases h8; exact e

theorem SlotOk.read {cf : CallF} {ro : Nat} (hT : IsTr cf ro rs E Hs X) {l : Array Bool} {K : Kp} {a : Act} {lv : Nat → Nat} {t i : Nat} (h : SlotOk rs E X l K a lv t) (hi : i ≤ rs.length)
    (hd : ∀ k r, rs[k]? = some r → r.dst = some t → (dn l k ↔ k < i)) (hl : ∀ k, k ≤ i → lv k ≤ lv i) : VR (K.cut (lv i)) (get (E i) t) (a.tmps.getD t undef) := by
  rcases hT.text t i hi with ⟨k, r, h1, h2, h3, h4, h5⟩ | ⟨h1, h2⟩
  · rw [h5]
    rcases h with ⟨k', r', g1, g2, g3, g4, g5⟩ | ⟨g1, _⟩
    · have e : k = k' := by
        rcases Nat.lt_trichotomy k k' with hlt | he | hlt
        · exact absurd g3 (h4 k' r' hlt ((hd k' r' g2 g3).1 g1) g2)
        · exact he
        · exact absurd h3 (g4 k r hlt ((hd k r h2 h3).2 h1) h2)
      subst e
      exact g5.mono (Kp.cut_le (hl _ (by omega)))
    · exact absurd h3 (g1 k r ((hd k r h2 h3).2 h1) h2)
  · rw [h2]
    rcases h with ⟨k', r', g1, g2, g3, _, _⟩ | ⟨_, g2⟩
    · exact absurd g3 (h1 k' r' ((hd k' r' g2 g3).1 g1) g2)
    · exact g2.mono (Kp.cut_le (hl _ (Nat.zero_le _)))

/-- Where a region stands. -/
structure Inv (P : Program) (ro : Nat) (ops : Array Oper) (rs : List Rop) (E : Nat → Env) (Hs : Nat → Hp) (X : Nat → IV) (K0 : Kp) (w0 : World) (a0 : Act) (l : Array Bool) (a : Act) (w : World) (K : Kp) (q p : Nat) : Prop where
  size : l.size = ops.size
  clo : ∀ k i, dn l k → Anc ops i k → dn l i
  qp : q ≤ p
  pn : p ≤ rs.length
  qd : ∀ (k : Nat) (r : Rop), k < q → rs[k]? = some r → isTied r = true → dn l k
  nw : ∀ (k : Nat) (r : Rop), q ≤ k → k < p → rs[k]? = some r → isW r = false
  pu : p = rs.length ∨ ∃ r, rs[p]? = some r ∧ isW r = true ∧ ¬ dn l p
  rel : ∀ j, q ≤ j → j ≤ p → Rel (K.cut (Hs j).length) ro (Hs j) w
  top : ∀ b, (Hs p).length ≤ b → K.ρ b = none
  le : K0.le K
  fr : Fr K0 K ro (Hs 0).length (Hs 0).length w0 w
  rho : ∀ b L, K.ρ b = some L → b < (Hs 0).length ∨ ∃ k, k < rs.length ∧ dn l k ∧ (Hs k).length ≤ b ∧ b < (Hs (k + 1)).length
  slot : ∀ t, SlotOk rs E X l K a (fun k => (Hs (max k q)).length) t
  asz : a.tmps.size = a0.tmps.size
  adf : a.defers = a0.defers

/-- The first writer from q on. -/
theorem nextW (rs : List Rop) (q : Nat) (hq : q ≤ rs.length) : ∃ p, q ≤ p ∧ p ≤ rs.length ∧ (∀ (k : Nat) (r : Rop), q ≤ k → k < p → rs[k]? = some r → isW r = false) ∧ (p = rs.length ∨ ∃ r, rs[p]? = some r ∧ isW r = true) := by
  generalize hm : rs.length - q = m
  induction m generalizing q with
  | zero => exact ⟨q, Nat.le_refl _, hq, fun k r h1 h2 => by omega, .inl (by omega)⟩
  | succ m ih =>
    have hr : rs[q]? = some rs[q] := List.getElem?_eq_getElem (by omega)
    cases hw : isW rs[q] with
    | true => exact ⟨q, Nat.le_refl _, hq, fun k r h1 h2 => by omega, .inr ⟨_, hr, hw⟩⟩
    | false =>
      obtain ⟨p, h1, h2, h3, h4⟩ := ih (q + 1) (by omega) (by omega)
      refine ⟨p, by omega, h2, fun k r h5 h6 h7 => ?_, h4⟩
      by_cases e : k = q
      · subst e; rw [hr] at h7; cases h7; exact hw
      · exact h3 k r (by omega) h6 h7

theorem writes_true {d : Option Nat} {l : List Nat} {t : Nat} (hd : d = some t) (h : t ∈ l) : writes d l = true := by
  subst hd
  simp only [writes]
  induction l with
  | nil => cases h
  | cons x r ih =>
    simp only [hasN, Bool.or_eq_true]
    rcases List.mem_cons.1 h with rfl | h
    · left; simp
    · exact .inr (ih h)

theorem isTied_W {r : Rop} (h : isW r = true) : isTied r = true := by
  unfold isW at h; unfold isTied
  split at h
  · rename_i hc; rw [hc]
  · cases h

end
end Go.Vs
