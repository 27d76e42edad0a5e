/- Without fuel: what the runs come to. -/
import Derived.Test.YtinmpfflkcnkfaaVsRun
namespace Go.Vs
open Go Go.RowKit

def Up {α : Type} (f : Nat → Option α) : Prop := ∀ n m r, n ≤ m → f n = some r → f m = some r

open Classical in
noncomputable def lim {α : Type} (f : Nat → Option α) : Option α := if h : ∃ r n, f n = some r then some (Classical.choose h) else none

theorem lim_iff {α : Type} {f : Nat → Option α} (hu : Up f) {r : α} : lim f = some r ↔ ∃ n, f n = some r := by
  unfold lim
  split
  · rename_i h
    obtain ⟨n, hn⟩ := Classical.choose_spec h
    constructor
    · intro e
      simp only [Option.some.injEq] at e
      exact ⟨n, by rw [← e]; exact hn⟩
    · rintro ⟨m, hm⟩
      have h1 := hu n (max n m) _ (Nat.le_max_left ..) hn
      have h2 := hu m (max n m) _ (Nat.le_max_right ..) hm
      rw [h1] at h2
      exact h2
  · rename_i h
    constructor
    · intro e; cases e
    · rintro ⟨m, hm⟩; exact absurd ⟨r, m, hm⟩ h

def leC (cf cf' : CallF) : Prop := ∀ ro f args H r, cf ro f args H = some r → cf' ro f args H = some r

theorem callP_up {cf cf' : CallF} (hc : leC cf cf') {ro : Nat} {st : Bool} {f : Nat} {args : List IV} {H : Hp} {r : IV × Hp} (h : callP cf ro st f args H = some r) : callP cf' ro st f args H = some r := by
  unfold callP at h ⊢
  obtain ⟨r1, h1, h2⟩ := Option.bind_eq_some_iff.1 h
  rw [hc _ _ _ _ _ h1]
  exact h2

theorem doCall_up {cf cf' : CallF} (hc : leC cf cf') {ro m : Nat} {f : IV} {args : List IV} {H : Hp} {r : IV × Hp} (h : doCall cf ro m f args H = some r) : doCall cf' ro m f args H = some r := by
  unfold doCall at h ⊢
  split at h
  · split at h
    · exact hc _ _ _ _ _ h
    · exact callP_up hc h
    · exact callP_up hc h
  · cases h

theorem doIns_up {cf cf' : CallF} (hc : leC cf cf') {ro : Nat} {e : Env} {H : Hp} {ins : Ins} {r : IV × Hp} (h : doIns cf ro e H ins = some r) : doIns cf' ro e H ins = some r := by
  cases ins <;> first | exact doCall_up hc h | exact h

theorem doOps_up {cf cf' : CallF} (hc : leC cf cf') {ro : Nat} : ∀ {rs : List Rop} {e : Env} {H : Hp} {r : Env × Hp}, doOps cf ro rs e H = some r → doOps cf' ro rs e H = some r
  | [], e, H, r, h => h
  | o :: rs, e, H, r, h => by
    simp only [doOps] at h ⊢
    obtain ⟨b, h1, h2⟩ := Option.bind_eq_some_iff.1 h
    rw [h1]
    simp only [Option.bind_some]
    split at h2
    · rename_i hb
      rw [if_pos hb]
      obtain ⟨x, h3, h4⟩ := Option.bind_eq_some_iff.1 h2
      rw [doIns_up hc h3]
      exact doOps_up hc h4
    · rename_i hb
      rw [if_neg hb]
      exact doOps_up hc h2

theorem doOpsR_up {cf cf' : CallF} (hc : leC cf cf') {ro : Nat} {bl : List Nat} : ∀ {rs : List Rop} {e : Env} {H : Hp} {r : Env × Hp}, doOpsR cf ro bl rs e H = some r → doOpsR cf' ro bl rs e H = some r
  | [], e, H, r, h => h
  | o :: rs, e, H, r, h => by
    simp only [doOpsR] at h ⊢
    obtain ⟨b, h1, h2⟩ := Option.bind_eq_some_iff.1 h
    rw [h1]
    simp only [Option.bind_some]
    split at h2
    · rename_i hb
      rw [if_pos hb]
      obtain ⟨x, h3, h4⟩ := Option.bind_eq_some_iff.1 h2
      rw [doIns_up hc h3]
      simp only [Option.bind_some]
      split at h4
      · rename_i hk
        rw [if_pos hk]
        exact doOpsR_up hc h4
      · cases h4
    · rename_i hb
      rw [if_neg hb]
      exact doOpsR_up hc h2

theorem loopN_up {body body' : Env → Hp → Out} (hb : ∀ e H r, body e H = some r → body' e H = some r) {keep : List Nat} : ∀ {n m : Nat}, n ≤ m → ∀ {e : Env} {H : Hp} {r : Ex × Env × Hp}, loopN body keep n e H = some r → loopN body' keep m e H = some r
  | 0, m, _, e, H, r, h => by simp [loopN] at h
  | n + 1, 0, hnm, e, H, r, h => by omega
  | n + 1, m + 1, hnm, e, H, r, h => by
    simp only [loopN] at h ⊢
    obtain ⟨r1, h1, h2⟩ := Option.bind_eq_some_iff.1 h
    rw [hb _ _ _ h1]
    simp only [Option.bind_some]
    obtain ⟨ex, e1, H1⟩ := r1
    cases ex with
    | nrm => exact loopN_up hb (by omega) h2
    | ret => exact h2
    | exit id => exact h2

theorem runC_up {cf cf' : CallF} (hc : leC cf cf') {ro n m : Nat} (hnm : n ≤ m) : ∀ (c : Cd) (e : Env) (H : Hp) (r : Ex × Env × Hp), runC cf ro n c e H = some r → runC cf' ro m c e H = some r := by
  intro c
  induction c with
  | skip => intro e H r h; exact h
  | ret => intro e H r h; exact h
  | exit id => intro e H r h; exact h
  | bad => intro e H r h; exact h
  | rg ops keep =>
    intro e H r h
    simp only [runC] at h ⊢
    obtain ⟨r1, h1, h2⟩ := Option.bind_eq_some_iff.1 h
    rw [doOps_up hc h1]; exact h2
  | rgr prs ops keep =>
    intro e H r h
    simp only [runC] at h ⊢
    obtain ⟨bl, h0, h⟩ := Option.bind_eq_some_iff.1 h
    obtain ⟨r1, h1, h2⟩ := Option.bind_eq_some_iff.1 h
    rw [h0, Option.bind_some, doOpsR_up hc h1]; exact h2
  | seq a b iha ihb =>
    intro e H r h
    simp only [runC] at h ⊢
    obtain ⟨r1, h1, h2⟩ := Option.bind_eq_some_iff.1 h
    rw [iha _ _ _ h1]
    obtain ⟨ex, e1, H1⟩ := r1
    cases ex with
    | nrm => exact ihb _ _ _ h2
    | ret => exact h2
    | exit id => exact h2
  | cond c a b iha ihb =>
    intro e H r h
    simp only [runC] at h ⊢
    split at h
    · exact iha _ _ _ h
    · exact ihb _ _ _ h
    · cases h
  | block id b ih =>
    intro e H r h
    simp only [runC] at h ⊢
    obtain ⟨r1, h1, h2⟩ := Option.bind_eq_some_iff.1 h
    rw [ih _ _ _ h1]; exact h2
  | loop keep b ih =>
    intro e H r h
    simp only [runC] at h ⊢
    exact loopN_up (fun e H r h => ih e H r h) hnm h

theorem callN_up (pg : Pg) : ∀ {n m : Nat}, n ≤ m → leC (callN pg n) (callN pg m)
  | 0, m, _ => fun ro f args H r h => by simp [callN] at h
  | n + 1, 0, hnm => by omega
  | n + 1, m + 1, hnm => fun ro f args H r h => by
    simp only [callN] at h ⊢
    obtain ⟨fn, h1, h2⟩ := Option.bind_eq_some_iff.1 h
    rw [h1]
    simp only [Option.bind_some]
    split at h2
    · rename_i hl
      rw [if_pos hl]
      obtain ⟨r1, h3, h4⟩ := Option.bind_eq_some_iff.1 h2
      rw [runC_up (callN_up pg (show n ≤ m by omega)) (by omega) _ _ _ _ h3]
      exact h4
    · cases h2

/-- What a call comes to. -/
noncomputable def callW (pg : Pg) : CallF := fun ro f args H => lim fun n => callN pg n ro f args H
/-- What code comes to. -/
noncomputable def runW (pg : Pg) (ro : Nat) (c : Cd) (e : Env) (H : Hp) : Out := lim fun n => runC (callN pg n) ro n c e H

theorem callW_iff {pg : Pg} {ro f : Nat} {args : List IV} {H : Hp} {r : IV × Hp} : callW pg ro f args H = some r ↔ ∃ n, callN pg n ro f args H = some r :=
  lim_iff fun _ _ _ hnm h => callN_up pg hnm _ _ _ _ _ h
theorem runW_iff {pg : Pg} {ro : Nat} {c : Cd} {e : Env} {H : Hp} {r : Ex × Env × Hp} : runW pg ro c e H = some r ↔ ∃ n, runC (callN pg n) ro n c e H = some r :=
  lim_iff fun _ _ _ hnm h => runC_up (callN_up pg hnm) hnm _ _ _ _ h

theorem leC_callW (pg : Pg) (n : Nat) : leC (callN pg n) (callW pg) := fun _ _ _ _ _ h => callW_iff.2 ⟨n, h⟩

theorem callP_lim {pg : Pg} {ro : Nat} {st : Bool} {f : Nat} {args : List IV} {H : Hp} {r : IV × Hp} (h : callP (callW pg) ro st f args H = some r) : ∃ n, callP (callN pg n) ro st f args H = some r := by
  unfold callP at h ⊢
  obtain ⟨r1, h1, h2⟩ := Option.bind_eq_some_iff.1 h
  obtain ⟨n, hn⟩ := callW_iff.1 h1
  exact ⟨n, by rw [hn]; exact h2⟩

theorem doCall_lim {pg : Pg} {ro m : Nat} {f : IV} {args : List IV} {H : Hp} {r : IV × Hp} (h : doCall (callW pg) ro m f args H = some r) : ∃ n, doCall (callN pg n) ro m f args H = some r := by
  unfold doCall at h ⊢
  split at h
  · split at h
    · exact callW_iff.1 h
    · exact callP_lim h
    · exact callP_lim h
  · cases h

theorem doIns_lim {pg : Pg} {ro : Nat} {e : Env} {H : Hp} {ins : Ins} {r : IV × Hp} (h : doIns (callW pg) ro e H ins = some r) : ∃ n, doIns (callN pg n) ro e H ins = some r := by
  cases ins <;> first | exact doCall_lim h | exact ⟨0, h⟩

theorem doOps_lim {pg : Pg} {ro : Nat} : ∀ {rs : List Rop} {e : Env} {H : Hp} {r : Env × Hp}, doOps (callW pg) ro rs e H = some r → ∃ n, doOps (callN pg n) ro rs e H = some r
  | [], e, H, r, h => ⟨0, h⟩
  | o :: rs, e, H, r, h => by
    simp only [doOps] at h ⊢
    obtain ⟨b, h1, h2⟩ := Option.bind_eq_some_iff.1 h
    rw [h1]
    simp only [Option.bind_some]
    split at h2
    · rename_i hb
      simp only [hb, if_true]
      obtain ⟨x, h3, h4⟩ := Option.bind_eq_some_iff.1 h2
      obtain ⟨n1, h5⟩ := doIns_lim h3
      obtain ⟨n2, h6⟩ := doOps_lim h4
      refine ⟨max n1 n2, ?_⟩
      rw [doIns_up (callN_up pg (Nat.le_max_left ..)) h5]
      exact doOps_up (callN_up pg (Nat.le_max_right ..)) h6
    · rename_i hb
      simp only [hb]
      exact doOps_lim h2

theorem doOpsR_lim {pg : Pg} {ro : Nat} {bl : List Nat} : ∀ {rs : List Rop} {e : Env} {H : Hp} {r : Env × Hp}, doOpsR (callW pg) ro bl rs e H = some r → ∃ n, doOpsR (callN pg n) ro bl rs e H = some r
  | [], e, H, r, h => ⟨0, h⟩
  | o :: rs, e, H, r, h => by
    simp only [doOpsR] at h ⊢
    obtain ⟨b, h1, h2⟩ := Option.bind_eq_some_iff.1 h
    rw [h1]
    simp only [Option.bind_some]
    split at h2
    · rename_i hb
      simp only [hb, if_true]
      obtain ⟨x, h3, h4⟩ := Option.bind_eq_some_iff.1 h2
      obtain ⟨n1, h5⟩ := doIns_lim h3
      split at h4
      · rename_i hk
        obtain ⟨n2, h6⟩ := doOpsR_lim h4
        refine ⟨max n1 n2, ?_⟩
        rw [doIns_up (callN_up pg (Nat.le_max_left ..)) h5]
        simp only [Option.bind_some]
        rw [if_pos hk]
        exact doOpsR_up (callN_up pg (Nat.le_max_right ..)) h6
      · cases h4
    · rename_i hb
      simp only [hb]
      exact doOpsR_lim h2

section
variable {pg : Pg} {ro : Nat} {e : Env} {H : Hp}

theorem runW_skip : runW pg ro .skip e H = some (.nrm, e, H) := runW_iff.2 ⟨0, rfl⟩
theorem runW_ret : runW pg ro .ret e H = some (.ret, e, H) := runW_iff.2 ⟨0, rfl⟩
theorem runW_exit {id : Nat} : runW pg ro (.exit id) e H = some (.exit id, e, H) := runW_iff.2 ⟨0, rfl⟩

theorem runW_rg {ops : List Rop} {keep : List Nat} : runW pg ro (.rg ops keep) e H = (doOps (callW pg) ro ops e H).bind fun r => some (.nrm, keepE keep r.1, r.2) := by
  refine Option.ext fun r => ?_
  rw [runW_iff]
  simp only [runC, Option.bind_eq_some_iff]
  constructor
  · rintro ⟨n, r1, h1, h2⟩; exact ⟨r1, doOps_up (leC_callW pg n) h1, h2⟩
  · rintro ⟨r1, h1, h2⟩
    obtain ⟨n, hn⟩ := doOps_lim h1
    exact ⟨n, r1, hn, h2⟩

theorem runW_rgr {prs : List Nat} {ops : List Rop} {keep : List Nat} : runW pg ro (.rgr prs ops keep) e H = (mapO (fun t => blkOf H (get e t)) prs).bind fun bl => (doOpsR (callW pg) ro bl ops e H).bind fun r => some (.nrm, keepE keep r.1, r.2) := by
  refine Option.ext fun r => ?_
  rw [runW_iff]
  simp only [runC, Option.bind_eq_some_iff]
  constructor
  · rintro ⟨n, bl, h0, r1, h1, h2⟩; exact ⟨bl, h0, r1, doOpsR_up (leC_callW pg n) h1, h2⟩
  · rintro ⟨bl, h0, r1, h1, h2⟩
    obtain ⟨n, hn⟩ := doOpsR_lim h1
    exact ⟨n, bl, h0, r1, hn, h2⟩

theorem up2 {n1 n2 : Nat} {a : Cd} {e : Env} {H : Hp} {r : Ex × Env × Hp} (h : runC (callN pg n1) ro n1 a e H = some r) (hn : n1 ≤ n2) : runC (callN pg n2) ro n2 a e H = some r := runC_up (callN_up pg hn) hn _ _ _ _ h

/-- What comes behind. -/
noncomputable def thenW (pg : Pg) (ro : Nat) (b : Cd) : Ex × Env × Hp → Out
  | (.nrm, e', H') => runW pg ro b e' H'
  | r => some r

theorem runW_seq {a b : Cd} : runW pg ro (.seq a b) e H = (runW pg ro a e H).bind (thenW pg ro b) := by
  refine Option.ext fun r => ?_
  rw [runW_iff]
  simp only [runC, Option.bind_eq_some_iff]
  constructor
  · rintro ⟨n, ⟨ex, e1, H1⟩, h1, h2⟩
    refine ⟨_, runW_iff.2 ⟨n, h1⟩, ?_⟩
    cases ex with
    | nrm => exact runW_iff.2 ⟨n, h2⟩
    | ret => exact h2
    | exit id => exact h2
  · rintro ⟨⟨ex, e1, H1⟩, h1, h2⟩
    obtain ⟨n1, h1⟩ := runW_iff.1 h1
    cases ex with
    | nrm =>
      obtain ⟨n2, h2⟩ := runW_iff.1 h2
      exact ⟨max n1 n2, _, up2 h1 (Nat.le_max_left ..), up2 h2 (Nat.le_max_right ..)⟩
    | ret => exact ⟨n1, _, h1, h2⟩
    | exit id => exact ⟨n1, _, h1, h2⟩

theorem runW_cond {c : Opd} {a b : Cd} : runW pg ro (.cond c a b) e H = match ev e c with
    | .bool true => runW pg ro a e H
    | .bool false => runW pg ro b e H
    | _ => none := by
  refine Option.ext fun r => ?_
  rw [runW_iff]
  simp only [runC]
  generalize ev e c = v
  cases v <;> first
    | (simp; done)
    | (rename_i b
       cases b <;> exact runW_iff.symm)

theorem runW_condT {c : Opd} {a b : Cd} (h : ev e c = .bool true) : runW pg ro (.cond c a b) e H = runW pg ro a e H := by rw [runW_cond, h]
theorem runW_condF {c : Opd} {a b : Cd} (h : ev e c = .bool false) : runW pg ro (.cond c a b) e H = runW pg ro b e H := by rw [runW_cond, h]
theorem runW_condB {c : Opd} {a b : Cd} {t : Bool} (h : ev e c = .bool t) : runW pg ro (.cond c a b) e H = if t = true then runW pg ro a e H else runW pg ro b e H := by
  cases t
  · rw [runW_condF h]; rfl
  · rw [runW_condT h]; rfl

/-- Out of a block. -/
def outB (id : Nat) : Ex × Env × Hp → Ex × Env × Hp
  | (.exit j, e', H') => if j = id then (.nrm, e', H') else (.exit j, e', H')
  | r => r

theorem runW_block {id : Nat} {b : Cd} : runW pg ro (.block id b) e H = (runW pg ro b e H).map (outB id) := by
  refine Option.ext fun r => ?_
  rw [runW_iff]
  simp only [runC, Option.bind_eq_some_iff, Option.map_eq_some_iff]
  constructor
  · rintro ⟨n, ⟨ex, e1, H1⟩, h1, h2⟩
    refine ⟨_, runW_iff.2 ⟨n, h1⟩, ?_⟩
    cases ex with
    | nrm => cases h2; rfl
    | ret => cases h2; rfl
    | exit j => simp only at h2; simp only [outB]; split at h2 <;> (cases h2; simp_all)
  · rintro ⟨⟨ex, e1, H1⟩, h1, rfl⟩
    obtain ⟨n1, h1⟩ := runW_iff.1 h1
    refine ⟨n1, _, h1, ?_⟩
    cases ex with
    | nrm => rfl
    | ret => rfl
    | exit j => simp only [outB]; split <;> rfl

theorem runW_loop {keep : List Nat} {b : Cd} : runW pg ro (.loop keep b) e H = (runW pg ro b (keepE keep e) H).bind (thenW pg ro (.loop keep b)) := by
  refine Option.ext fun r => ?_
  rw [runW_iff]
  simp only [Option.bind_eq_some_iff]
  constructor
  · rintro ⟨n, h⟩
    cases n with
    | zero => simp [runC, loopN] at h
    | succ n =>
      have h0 := h
      simp only [runC, loopN, Option.bind_eq_some_iff] at h
      obtain ⟨⟨ex, e1, H1⟩, h1, h2⟩ := h
      refine ⟨_, runW_iff.2 ⟨n + 1, h1⟩, ?_⟩
      cases ex with
      | nrm =>
        refine runW_iff.2 ⟨n + 1, ?_⟩
        simp only [runC]
        exact loopN_up (fun _ _ _ h => h) (Nat.le_succ n) h2
      | ret => exact h2
      | exit id => exact h2
  · rintro ⟨⟨ex, e1, H1⟩, h1, h2⟩
    obtain ⟨n1, h1⟩ := runW_iff.1 h1
    cases ex with
    | nrm =>
      obtain ⟨n2, h2⟩ := runW_iff.1 h2
      refine ⟨max n1 n2 + 1, ?_⟩
      simp only [runC, loopN, Option.bind_eq_some_iff]
      refine ⟨_, up2 h1 (by omega), ?_⟩
      simp only [runC] at h2
      simp only
      refine loopN_up (fun e H r h => up2 h (by omega)) (by omega) h2
    | ret =>
      refine ⟨n1 + 1, ?_⟩
      simp only [runC, loopN, Option.bind_eq_some_iff]
      exact ⟨_, up2 h1 (by omega), h2⟩
    | exit id =>
      refine ⟨n1 + 1, ?_⟩
      simp only [runC, loopN, Option.bind_eq_some_iff]
      exact ⟨_, up2 h1 (by omega), h2⟩

/-- A function's end. -/
def finW (res : List RV) : Ex × Env × Hp → Option (IV × Hp)
  | (.exit _, _, _) => none
  | (_, e, H') => (resL e H' res).bind fun v => some (v, H')

theorem callW_eq {f : Nat} {args : List IV} {fn : Fn} (hf : pg f = some fn) (hl : args.length = fn.np) : callW pg ro f args H = (runW pg ro fn.cd (parE 0 args) H).bind (finW fn.res) := by
  refine Option.ext fun r => ?_
  rw [callW_iff]
  simp only [Option.bind_eq_some_iff]
  constructor
  · rintro ⟨n, h⟩
    cases n with
    | zero => simp [callN] at h
    | succ n =>
      simp only [callN, hf, Option.bind_some, hl, if_true, Option.bind_eq_some_iff] at h
      obtain ⟨⟨ex, e1, H1⟩, h1, h2⟩ := h
      refine ⟨_, runW_iff.2 ⟨n, h1⟩, ?_⟩
      cases ex with
      | nrm => exact h2
      | ret => exact h2
      | exit id => cases h2
  · rintro ⟨⟨ex, e1, H1⟩, h1, h2⟩
    obtain ⟨n, h1⟩ := runW_iff.1 h1
    refine ⟨n + 1, ?_⟩
    simp only [callN, hf, Option.bind_some, hl, if_true, Option.bind_eq_some_iff]
    refine ⟨_, h1, ?_⟩
    cases ex with
    | nrm => exact h2
    | ret => exact h2
    | exit id => cases h2

end

theorem callW_ok {P : Program} (hm : P.follows .mixedOrders = true) (hpr : PrOk P) {pg : Pg} (hpg : PgOk P pg) : CallOk P (callW pg) := by
  intro ro f args H x H' h
  obtain ⟨n, hn⟩ := callW_iff.1 h
  exact callN_ok hm hpr hpg n _ _ _ _ _ _ hn

end Go.Vs
