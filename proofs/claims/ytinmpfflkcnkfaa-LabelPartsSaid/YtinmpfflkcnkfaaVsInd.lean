/- What an operation computes: of which slots, of which heap. -/
import Derived.Test.YtinmpfflkcnkfaaVsRuns
namespace Go.Vs
open Go Go.RowKit

theorem map_ev {e e' : Env} {cs : List Opd} (h : ∀ x ∈ cs, ev e x = ev e' x) : cs.map (ev e) = cs.map (ev e') := List.map_congr_left h

theorem optB_congr {e e' : Env} {d : Nat} {x : Option Opd} (h : ∀ y ∈ x.toList, ev e y = ev e' y) : optB e d x = optB e' d x := by
  cases x with
  | none => rfl
  | some y => simp only [optB, h y (by simp)]

theorem fillB_congr {e e' : Env} : ∀ (ps : List (Nat × Nat × Opd)) (z : List IV), (∀ p ∈ ps, ev e p.2.2 = ev e' p.2.2) → doIns.fillB e z ps = doIns.fillB e' z ps
  | [], z, _ => rfl
  | (off, n, x) :: r, z, h => by
    simp only [doIns.fillB]
    rw [h _ (List.mem_cons_self ..)]
    congr 1
    funext cs
    rw [fillB_congr r _ fun p hp => h p (List.mem_cons_of_mem _ hp)]

theorem fillP_congr {e e' : Env} {sz : Nat} : ∀ (ps : List (Nat × Opd)) (z : List (List IV)), (∀ p ∈ ps, ev e p.2 = ev e' p.2) → doIns.fillP e sz z ps = doIns.fillP e' sz z ps
  | [], z, _ => rfl
  | (i, x) :: r, z, h => by
    simp only [doIns.fillP]
    rw [h _ (List.mem_cons_self ..)]
    congr 1
    funext cs
    rw [fillP_congr r _ fun p hp => h p (List.mem_cons_of_mem _ hp)]

theorem doIns_congr {cf : CallF} {ro : Nat} {e e' : Env} {H : Hp} {ins : Ins} (h : ∀ x ∈ ins.opds, ev e x = ev e' x) : doIns cf ro e H ins = doIns cf ro e' H ins := by
  cases ins
  case alloc => rfl
  case alt => rfl
  case tou x => simp only [doIns, h x (by simp [Ins.opds])]
  case fru t n x => simp only [doIns, h x (by simp [Ins.opds])]
  case usd x => simp only [doIns, h x (by simp [Ins.opds])]
  case nep x y => simp only [doIns, h x (by simp [Ins.opds]), h y (by simp [Ins.opds])]
  case apb t x y => simp only [doIns, h x (by simp [Ins.opds]), h y (by simp [Ins.opds])]
  case ust t x y => simp only [doIns, h x (by simp [Ins.opds]), h y (by simp [Ins.opds])]
  case build z ps =>
    have : ∀ p ∈ ps, ev e p.2.2 = ev e' p.2.2 := fun p hp => h _ (by simp only [Ins.opds, List.mem_map]; exact ⟨p, hp, rfl⟩)
    simp only [doIns, fillB_congr ps z this]
  case bslice n sz z ps =>
    have : ∀ p ∈ ps, ev e p.2 = ev e' p.2 := fun p hp => h _ (by simp only [Ins.opds, List.mem_map]; exact ⟨p, hp, rfl⟩)
    simp only [doIns, fillP_congr ps _ this]
  case mkf f cs => simp only [doIns, map_ev (cs := cs) h]
  case pr p cs => simp only [doIns, map_ev (cs := cs) h]
  case mx cs =>
    cases cs with
    | nil => rfl
    | cons x r => simp only [doIns, h x (by simp [Ins.opds]), map_ev (cs := r) fun y hy => h y (by simp [Ins.opds, hy])]
  case mn cs =>
    cases cs with
    | nil => rfl
    | cons x r => simp only [doIns, h x (by simp [Ins.opds]), map_ev (cs := r) fun y hy => h y (by simp [Ins.opds, hy])]
  case slst x lo hi =>
    have h1 : ∀ y ∈ lo.toList, ev e y = ev e' y := fun y hy => h y (List.mem_cons_of_mem _ (List.mem_append.2 (.inl hy)))
    have h2 : ∀ y ∈ hi.toList, ev e y = ev e' y := fun y hy => h y (List.mem_cons_of_mem _ (List.mem_append.2 (.inr hy)))
    simp only [doIns, h x (by simp [Ins.opds]), optB_congr h1, fun d => optB_congr (d := d) h2]
  case slsl sz x lo hi mx =>
    have h1 : ∀ y ∈ lo.toList, ev e y = ev e' y := fun y hy => h y (List.mem_cons_of_mem _ (List.mem_append.2 (.inl hy)))
    have h2 : ∀ y ∈ hi.toList, ev e y = ev e' y := fun y hy => h y (List.mem_cons_of_mem _ (List.mem_append.2 (.inr (List.mem_append.2 (.inl hy)))))
    have h3 : ∀ y ∈ mx.toList, ev e y = ev e' y := fun y hy => h y (List.mem_cons_of_mem _ (List.mem_append.2 (.inr (List.mem_append.2 (.inr hy)))))
    simp only [doIns, h x (by simp [Ins.opds]), optB_congr h1, optB_congr h2, optB_congr h3]
  case sli sz x lo hi mx =>
    have h1 : ∀ y ∈ lo.toList, ev e y = ev e' y := fun y hy => h y (List.mem_cons_of_mem _ (List.mem_append.2 (.inl hy)))
    have h2 : ∀ y ∈ hi.toList, ev e y = ev e' y := fun y hy => h y (List.mem_cons_of_mem _ (List.mem_append.2 (.inr (List.mem_append.2 (.inl hy)))))
    have h3 : ∀ y ∈ mx.toList, ev e y = ev e' y := fun y hy => h y (List.mem_cons_of_mem _ (List.mem_append.2 (.inr (List.mem_append.2 (.inr hy)))))
    simp only [doIns, h x (by simp [Ins.opds]), optB_congr h1, optB_congr h2, optB_congr h3]
  case call m f as =>
    simp only [doIns, h f (by simp [Ins.opds]), map_ev (cs := as) fun y hy => h y (by simp [Ins.opds, hy])]
  case pick c a b => simp only [doIns, h c (by simp [Ins.opds]), h a (by simp [Ins.opds]), h b (by simp [Ins.opds])]
  case store n a x => simp only [doIns, h a (by simp [Ins.opds]), h x (by simp [Ins.opds])]
  case bin op x y => simp only [doIns, h x (by simp [Ins.opds]), h y (by simp [Ins.opds])]
  case eqb n x y => simp only [doIns, h x (by simp [Ins.opds]), h y (by simp [Ins.opds])]
  case eqs n k x y => simp only [doIns, h x (by simp [Ins.opds]), h y (by simp [Ins.opds])]
  case iad sz x y => simp only [doIns, h x (by simp [Ins.opds]), h y (by simp [Ins.opds])]
  case iai sz x y => simp only [doIns, h x (by simp [Ins.opds]), h y (by simp [Ins.opds])]
  case iar n sz x y => simp only [doIns, h x (by simp [Ins.opds]), h y (by simp [Ins.opds])]
  case ist x y => simp only [doIns, h x (by simp [Ins.opds]), h y (by simp [Ins.opds])]
  case iag n ag sz x y => simp only [doIns, h x (by simp [Ins.opds]), h y (by simp [Ins.opds])]
  case apn sz b y => simp only [doIns, h y (by simp [Ins.opds])]
  case app sz b x y => simp only [doIns, h x (by simp [Ins.opds]), h y (by simp [Ins.opds])]
  case copy sz x y => simp only [doIns, h x (by simp [Ins.opds]), h y (by simp [Ins.opds])]
  case mksl sz b z x y => simp only [doIns, h x (by simp [Ins.opds]), h y (by simp [Ins.opds])]
  case mv x => simp only [doIns, h x (by simp [Ins.opds])]
  case box n x => simp only [doIns, h x (by simp [Ins.opds])]
  case boxf n x => simp only [doIns, h x (by simp [Ins.opds])]
  case load ag n x im => simp only [doIns, h x (by simp [Ins.opds])]
  case ldr ag n x y => simp only [doIns, h x (by simp [Ins.opds]), h y (by simp [Ins.opds])]
  case nilck x => simp only [doIns, h x (by simp [Ins.opds])]
  case eqn k n x => simp only [doIns, h x (by simp [Ins.opds])]
  case un op x => simp only [doIns, h x (by simp [Ins.opds])]
  case cvi k x => simp only [doIns, h x (by simp [Ins.opds])]
  case cvs x => simp only [doIns, h x (by simp [Ins.opds])]
  case cvbs x => simp only [doIns, h x (by simp [Ins.opds])]
  case cvsb x => simp only [doIns, h x (by simp [Ins.opds])]
  case mki t x => simp only [doIns, h x (by simp [Ins.opds])]
  case fad n x => simp only [doIns, h x (by simp [Ins.opds])]
  case fld ag o n x => simp only [doIns, h x (by simp [Ins.opds])]
  case ext x i => simp only [doIns, h x (by simp [Ins.opds])]
  case len st x => simp only [doIns, h x (by simp [Ins.opds])]
  case capo x => simp only [doIns, h x (by simp [Ins.opds])]
  case clear sz z x => simp only [doIns, h x (by simp [Ins.opds])]

theorem mem_slotsOf {n : Nat} : ∀ {l : List Opd}, Opd.t n ∈ l → n ∈ slotsOf l
  | .t m :: l, h => by
    simp only [slotsOf, List.mem_cons] at *
    rcases h with h | h
    · cases h; exact .inl rfl
    · exact .inr (mem_slotsOf h)
  | .c v :: l, h => by
    simp only [slotsOf, List.mem_cons, reduceCtorEq, false_or] at *
    exact mem_slotsOf h
  | .f v :: l, h => by
    simp only [slotsOf, List.mem_cons, reduceCtorEq, false_or] at *
    exact mem_slotsOf h

theorem looks_ins {r : Rop} {n : Nat} (h : n ∈ slotsOf r.ins.opds) : n ∈ r.looks := by
  unfold Rop.looks
  split
  · exact List.mem_cons_of_mem _ h
  · exact h

theorem doIns_keep {cf : CallF} {ro : Nat} {e : Env} {H : Hp} (r : Rop) : doIns cf ro (keepE r.looks e) H r.ins = doIns cf ro e H r.ins := by
  refine doIns_congr fun x hx => ?_
  cases x with
  | t n => simp only [ev, get_keep, looks_ins (mem_slotsOf hx), if_true]
  | c v => rfl
  | f n => rfl

theorem wantE_keep {e : Env} (r : Rop) : wantE (keepE r.looks e) r.grd = wantE e r.grd := by
  cases hg : r.grd with
  | none => rfl
  | some jb => 
    obtain ⟨j, b⟩ := jb
    simp only [wantE, get_keep, show j ∈ r.looks by simp [Rop.looks, hg], if_true]

/-! ### What needs no heap -/

theorem doIns_p {cf : CallF} {ro : Nat} {e : Env} {H H' : Hp} {ins : Ins} {x : IV} (hc : cls ins = .p) (h : doIns cf ro e H ins = some (x, H')) : H' = H ∧ ∀ H2, doIns cf ro e H2 ins = some (x, H2) := by
  cases ins <;> first | (simp only [cls, reduceCtorEq] at hc; done) | skip
  case call m f as => simp only [cls] at hc; split at hc <;> cases hc
  case load ag n a im =>
    cases im with
    | false => simp [cls] at hc
    | true =>
      simp only [doIns] at h ⊢
      split at h
      · cases h
      · rename_i hne
        simp only [true_and, Bool.not_eq_false] at hne
        simp only [Option.bind_eq_some_iff] at h
        obtain ⟨cs, hr, v, hv, h⟩ := h
        cases h
        refine ⟨rfl, fun H2 => ?_⟩
        have : rd H2 n (ev e a) = rd H n (ev e a) := by
          cases hx : ev e a <;> simp only [hx, doIns.isE, Bool.false_eq_true] at hne
          simp only [rd]
        simp only [hne, this, hr, Option.bind_some, hv]
        simp
  case sli sz y lo hi mx =>
    simp only [doIns, Option.bind_eq_some_iff] at h
    obtain ⟨l, hl, h1, hh, m, hm, h⟩ := h
    split at h
    · rename_i hI
      simp only [Option.bind_eq_some_iff] at h
      obtain ⟨v, hv, h⟩ := h
      cases h
      exact ⟨rfl, fun H2 => by simp only [doIns, hl, hh, hm, Option.bind_some, hI, if_true, hv]⟩
    · cases h
  case boxf n y =>
    simp only [doIns, Option.bind_eq_some_iff] at h
    obtain ⟨v, hv, h⟩ := h
    split at h
    · rename_i hI
      cases h
      exact ⟨rfl, fun H2 => by simp only [doIns, hv, Option.bind_some, hI, if_true, and_self]⟩
    · cases h
  case mv y => simp only [doIns] at h; cases h; exact ⟨rfl, fun _ => rfl⟩
  case mki t y => simp only [doIns] at h; cases h; exact ⟨rfl, fun _ => rfl⟩
  case mkf t y => simp only [doIns] at h; cases h; exact ⟨rfl, fun _ => rfl⟩
  case build z ps => obtain ⟨v, hv, rfl, rfl⟩ := bind_pair h; exact ⟨rfl, fun H2 => by simp only [doIns, hv, Option.bind_some]⟩
  case bin op y z => obtain ⟨v, hv, rfl, rfl⟩ := bind_pair (f := fun v => v) h; exact ⟨rfl, fun H2 => by simp only [doIns, hv, Option.bind_some]⟩
  case eqb op y z => obtain ⟨v, hv, rfl, rfl⟩ := bind_pair h; exact ⟨rfl, fun H2 => by simp only [doIns, hv, Option.bind_some]⟩
  case eqs op k y z => obtain ⟨v, hv, rfl, rfl⟩ := bind_pair h; exact ⟨rfl, fun H2 => by simp only [doIns, hv, Option.bind_some]⟩
  case eqn k op y => obtain ⟨v, hv, rfl, rfl⟩ := bind_pair h; exact ⟨rfl, fun H2 => by simp only [doIns, hv, Option.bind_some]⟩
  case un op y => obtain ⟨v, hv, rfl, rfl⟩ := bind_pair (f := fun v => v) h; exact ⟨rfl, fun H2 => by simp only [doIns, hv, Option.bind_some]⟩
  case fad op y => obtain ⟨v, hv, rfl, rfl⟩ := bind_pair (f := fun v => v) h; exact ⟨rfl, fun H2 => by simp only [doIns, hv, Option.bind_some]⟩
  case len op y => obtain ⟨v, hv, rfl, rfl⟩ := bind_pair h; exact ⟨rfl, fun H2 => by simp only [doIns, hv, Option.bind_some]⟩
  case pr op y => obtain ⟨v, hv, rfl, rfl⟩ := bind_pair (f := fun v => v) h; exact ⟨rfl, fun H2 => by simp only [doIns, hv, Option.bind_some]⟩
  case mx xs =>
    cases xs with
    | nil => cases h
    | cons y r => obtain ⟨v, hv, rfl, rfl⟩ := bind_pair (f := fun v => v) h; exact ⟨rfl, fun H2 => by simp only [doIns, hv, Option.bind_some]⟩
  case mn xs =>
    cases xs with
    | nil => cases h
    | cons y r => obtain ⟨v, hv, rfl, rfl⟩ := bind_pair (f := fun v => v) h; exact ⟨rfl, fun H2 => by simp only [doIns, hv, Option.bind_some]⟩
  all_goals
    simp only [doIns] at h ⊢
    repeat' split at h
    all_goals first
      | (cases h; done)
      | (cases h; exact ⟨rfl, fun _ => by simp_all⟩)
      | (simp only [Option.bind_eq_some_iff] at h
         obtain ⟨v1, h1, h⟩ := h
         first
         | (cases h; exact ⟨rfl, fun _ => by simp_all⟩)
         | (obtain ⟨v2, h2, h⟩ := h
            first
            | (cases h; exact ⟨rfl, fun _ => by simp_all⟩)
            | (obtain ⟨v3, h3, h⟩ := h; cases h; exact ⟨rfl, fun _ => by simp_all⟩)))

/-! ### The heap only grows -/

theorem wr_len {ro : Nat} {H H' : Hp} {cs : List IV} {x : IV} (h : wr ro H cs x = some H') : H'.length = H.length := by
  cases x <;> simp only [wr, reduceCtorEq] at h
  simp only [Option.bind_eq_some_iff] at h
  obtain ⟨B, _, row, _, h⟩ := h
  split at h
  · cases h; simp
  · cases h

theorem newArr_len {H H' : Hp} {b : Nat} {rows : List (List IV)} {x : IV} (h : newArr H b rows = some (x, H')) : H.length ≤ H'.length := by
  unfold newArr at h
  split at h
  · cases h; simp
  · cases h

theorem appV_len {ro : Nat} {H H' : Hp} {sz b : Nat} {x y z : IV} (h : appV ro H sz b x y = some (z, H')) : H.length ≤ H'.length := by
  simp only [appV, Option.bind_eq_some_iff] at h
  obtain ⟨ys, _, h⟩ := h
  split at h
  · cases h
  · split at h
    · split at h
      · cases h; exact Nat.le_refl _
      · exact newArr_len h
    · split at h
      · cases h; exact Nat.le_refl _
      · split at h
        · exact newArr_len h
        · cases h
    · simp only [Option.bind_eq_some_iff] at h
      obtain ⟨B, _, h⟩ := h
      repeat' split at h
      all_goals first
        | (cases h; done)
        | exact newArr_len h
        | (cases h; simp)
    · cases h

theorem appB_len {t ro : Nat} {H H' : Hp} {x y z : IV} (h : appB t ro H x y = some (z, H')) : H.length ≤ H'.length := by
  unfold appB at h
  split at h
  · simp only [Option.bind_eq_some_iff] at h
    obtain ⟨ys, _, h⟩ := h
    repeat' split at h
    all_goals first
      | (cases h; done)
      | (cases h; simp)
  · simp only [Option.bind_eq_some_iff] at h
    obtain ⟨B, _, h⟩ := h
    split at h
    · simp only [Option.bind_eq_some_iff] at h
      obtain ⟨ys, _, h⟩ := h
      repeat' split at h
      all_goals first
        | (cases h; done)
        | (cases h; simp)
    · exact appV_len h
  · exact appV_len h

theorem ustV_len {t ro : Nat} {H H' : Hp} {x y z : IV} (h : ustV ro H t x y = some (z, H')) : H.length ≤ H'.length := by
  unfold ustV at h
  split at h
  · cases h; exact Nat.le_refl _
  · simp only [Option.bind_eq_some_iff] at h
    obtain ⟨B, _, h⟩ := h
    split at h
    · simp only [Option.bind_eq_some_iff] at h
      obtain ⟨bs, _, h⟩ := h
      cases h; simp
    · cases h
  · cases h

theorem copyV_len {ro : Nat} {H H' : Hp} {sz : Nat} {x y z : IV} (h : copyV ro H sz x y = some (z, H')) : H.length ≤ H'.length := by
  simp only [copyV, Option.bind_eq_some_iff] at h
  obtain ⟨ys, _, h⟩ := h
  split at h
  · cases h
  · split at h
    · cases h; exact Nat.le_refl _
    · simp only [Option.bind_eq_some_iff] at h
      obtain ⟨B, _, h⟩ := h
      split at h
      · cases h
      · cases h; simp
    · cases h

theorem clearV_len {ro : Nat} {H H' : Hp} {sz : Nat} {z : List IV} {x y : IV} (h : clearV ro H sz z x = some (y, H')) : H.length ≤ H'.length := by
  unfold clearV at h
  split at h
  · cases h; exact Nat.le_refl _
  · split at h
    · cases h; exact Nat.le_refl _
    · simp only [Option.bind_eq_some_iff] at h
      obtain ⟨B, _, h⟩ := h
      split at h
      · cases h
      · cases h; simp
  · cases h

theorem doIns_len {P : Program} {cf : CallF} (hcf : CallOk P cf) {ro : Nat} {e : Env} {H H' : Hp} {ins : Ins} {x : IV} (h : doIns cf ro e H ins = some (x, H')) : H.length ≤ H'.length := by
  cases hc : cls ins with
  | p => rw [(doIns_p hc h).1]; exact Nat.le_refl _
  | q =>
    cases ins <;> simp only [cls, reduceCtorEq] at hc
    case load ag n a im => split at hc <;> cases hc
    case call m f as => split at hc <;> cases hc
    case ldr =>
      simp only [doIns] at h
      split at h
      · simp only [Option.bind_eq_some_iff] at h
        obtain ⟨_, _, _, _, h⟩ := h
        cases h; exact Nat.le_refl _
      · cases h
  | l =>
    cases ins <;> simp only [cls, reduceCtorEq] at hc
    case load ag n a im =>
      simp only [doIns] at h
      split at h
      · cases h
      · simp only [Option.bind_eq_some_iff] at h
        obtain ⟨_, _, _, _, h⟩ := h
        cases h; exact Nat.le_refl _
    case cvbs y =>
      simp only [doIns] at h
      split at h
      · cases h
      · simp only [Option.bind_eq_some_iff] at h
        obtain ⟨_, _, _, _, h⟩ := h
        cases h; exact Nat.le_refl _
    case slsl =>
      simp only [doIns, Option.bind_eq_some_iff] at h
      obtain ⟨_, _, _, _, _, _, _, _, h⟩ := h
      cases h; exact Nat.le_refl _
    case iad =>
      simp only [doIns] at h
      split at h
      · simp only [Option.bind_eq_some_iff] at h
        obtain ⟨_, _, h⟩ := h
        cases h; exact Nat.le_refl _
      · cases h
    case tou | fru | nep | usd =>
      simp only [doIns, Option.bind_eq_some_iff] at h
      obtain ⟨_, _, h⟩ := h
      cases h; exact Nat.le_refl _
    case capo =>
      simp only [doIns] at h
      repeat' split at h
      all_goals first
        | (cases h; done)
        | (cases h; exact Nat.le_refl _)
        | (simp only [Option.bind_eq_some_iff] at h
           obtain ⟨_, _, h⟩ := h
           cases h; exact Nat.le_refl _)
    case call m f as =>
      simp only [doIns, doCall] at h
      repeat' split at h
      · exact (hcf _ _ _ _ _ _ h).1
      · exact (callP_sim hcf h).1
      · exact (callP_sim hcf h).1
      · cases h
  | a =>
    cases ins <;> simp only [cls, reduceCtorEq] at hc
    case alloc => simp only [doIns] at h; cases h; simp
    case box =>
      simp only [doIns, Option.bind_eq_some_iff] at h
      obtain ⟨_, _, h⟩ := h
      split at h
      · cases h; simp
      · cases h
    case bslice =>
      simp only [doIns, Option.bind_eq_some_iff] at h
      obtain ⟨_, _, h⟩ := h
      cases h; simp
    case mksl =>
      simp only [doIns, Option.bind_eq_some_iff] at h
      obtain ⟨_, _, _, _, h⟩ := h
      split at h
      · cases h; simp
      · cases h
    case load ag n a im => split at hc <;> cases hc
    case call m f as => split at hc <;> cases hc
  | n =>
    cases ins <;> simp only [cls, reduceCtorEq] at hc
    case apn => simp only [doIns] at h; exact appV_len h
    case load ag n a im => split at hc <;> cases hc
    case call m f as => split at hc <;> cases hc
  | w =>
    cases ins <;> simp only [cls, reduceCtorEq] at hc
    case store =>
      simp only [doIns, Option.bind_eq_some_iff] at h
      obtain ⟨_, _, h⟩ := h
      split at h
      · simp only [Option.bind_eq_some_iff] at h
        obtain ⟨H2, h2, h⟩ := h
        cases h
        rw [wr_len h2]; exact Nat.le_refl _
      · cases h
    case app => exact appV_len h
    case alt => simp only [doIns] at h; cases h; simp
    case apb => exact appB_len h
    case ust => exact ustV_len h
    case copy => exact copyV_len h
    case clear => exact clearV_len h
    case cvsb =>
      simp only [doIns] at h
      split at h
      · cases h; simp
      · cases h
    case load ag n a im => split at hc <;> cases hc
    case call m f as =>
      simp only [doIns, doCall] at h
      repeat' split at h
      · exact (hcf _ _ _ _ _ _ h).1
      · exact (callP_sim hcf h).1
      · exact (callP_sim hcf h).1
      · cases h

theorem doOps_len {P : Program} {cf : CallF} (hcf : CallOk P cf) {ro : Nat} : ∀ {rs : List Rop} {e e' : Env} {H H' : Hp}, doOps cf ro rs e H = some (e', H') → H.length ≤ H'.length
  | [], e, e', H, H', h => by simp only [doOps] at h; cases h; exact Nat.le_refl _
  | r :: rs, e, e', H, H', h => by
    simp only [doOps, Option.bind_eq_some_iff] at h
    obtain ⟨b, _, h⟩ := h
    split at h
    · simp only [Option.bind_eq_some_iff] at h
      obtain ⟨⟨x, H1⟩, h1, h⟩ := h
      exact Nat.le_trans (doIns_len hcf h1) (doOps_len hcf h)
    · exact doOps_len hcf h

theorem doOpsR_sub {cf : CallF} {ro : Nat} {bl : List Nat} : ∀ {rs : List Rop} {e : Env} {H : Hp} {r : Env × Hp}, doOpsR cf ro bl rs e H = some r → doOps cf ro rs e H = some r
  | [], e, H, r, h => h
  | o :: rs, e, H, r, h => by
    simp only [doOpsR, doOps] at h ⊢
    obtain ⟨b, h1, h2⟩ := Option.bind_eq_some_iff.1 h
    rw [h1]
    simp only [Option.bind_some]
    split at h2
    · rename_i hb
      rw [if_pos hb]
      obtain ⟨x, h3, h4⟩ := Option.bind_eq_some_iff.1 h2
      rw [h3]
      split at h4
      · exact doOpsR_sub h4
      · cases h4
    · rename_i hb
      rw [if_neg hb]
      exact doOpsR_sub h2

end Go.Vs
