import Derived.Test.YtnfddeiegbifhaaDoorVsRun
import Derived.Laws.MathBits
/- Without fuel: what the runs come to. -/
namespace Go.Vs
open Go Go.RowKit

def Up {α : Type} (f : Nat → Option α) : Prop := ∀ n m r, n ≤ m → f n = some r → f m = some r

open Classical in
noncomputable def lim {α : Type} (f : Nat → Option α) : Option α := if h : ∃ r n, f n = some r then some (Classical.choose h) else none

theorem lim_iff {α : Type} {f : Nat → Option α} (hu : Up f) {r : α} : lim f = some r ↔ ∃ n, f n = some r := by
  unfold lim
  split
  · rename_i h
    obtain ⟨n, hn⟩ := Classical.choose_spec h
    constructor
    · intro e
      simp only [Option.some.injEq] at e
      exact ⟨n, by rw [← e]; exact hn⟩
    · rintro ⟨m, hm⟩
      have h1 := hu n (max n m) _ (Nat.le_max_left ..) hn
      have h2 := hu m (max n m) _ (Nat.le_max_right ..) hm
      rw [h1] at h2
      exact h2
  · rename_i h
    constructor
    · intro e; cases e
    · rintro ⟨m, hm⟩; exact absurd ⟨r, m, hm⟩ h

def leC (cf cf' : CallF) : Prop := ∀ ro f args H r, cf ro f args H = some r → cf' ro f args H = some r

theorem callP_up {cf cf' : CallF} (hc : leC cf cf') {ro : Nat} {st : Bool} {f : Nat} {args : List IV} {H : Hp} {r : IV × Hp} (h : callP cf ro st f args H = some r) : callP cf' ro st f args H = some r := by
  unfold callP at h ⊢
  obtain ⟨r1, h1, h2⟩ := Option.bind_eq_some_iff.1 h
  rw [hc _ _ _ _ _ h1]
  exact h2

theorem doCall_up {cf cf' : CallF} (hc : leC cf cf') {ro m : Nat} {f : IV} {args : List IV} {H : Hp} {r : IV × Hp} (h : doCall cf ro m f args H = some r) : doCall cf' ro m f args H = some r := by
  unfold doCall at h ⊢
  split at h
  · split at h
    · exact hc _ _ _ _ _ h
    · exact callP_up hc h
    · exact callP_up hc h
  · cases h

theorem doIns_up {cf cf' : CallF} (hc : leC cf cf') {ro : Nat} {e : Env} {H : Hp} {ins : Ins} {r : IV × Hp} (h : doIns cf ro e H ins = some r) : doIns cf' ro e H ins = some r := by
  cases ins <;> first | exact doCall_up hc h | exact h

theorem doOps_up {cf cf' : CallF} (hc : leC cf cf') {ro : Nat} : ∀ {rs : List Rop} {e : Env} {H : Hp} {r : Env × Hp}, doOps cf ro rs e H = some r → doOps cf' ro rs e H = some r
  | [], e, H, r, h => h
  | o :: rs, e, H, r, h => by
    simp only [doOps] at h ⊢
    obtain ⟨b, h1, h2⟩ := Option.bind_eq_some_iff.1 h
    rw [h1]
    simp only [Option.bind_some]
    split at h2
    · rename_i hb
      rw [if_pos hb]
      obtain ⟨x, h3, h4⟩ := Option.bind_eq_some_iff.1 h2
      rw [doIns_up hc h3]
      exact doOps_up hc h4
    · rename_i hb
      rw [if_neg hb]
      exact doOps_up hc h2

theorem doOpsR_up {cf cf' : CallF} (hc : leC cf cf') {ro : Nat} {bl : List Nat} : ∀ {c : Nat} {rs : List Rop} {e : Env} {H : Hp} {r : Env × Hp}, doOpsR cf ro bl c rs e H = some r → doOpsR cf' ro bl c rs e H = some r
  | 0, _, e, H, r, h => doOps_up hc h
  | _ + 1, [], e, H, r, h => h
  | c + 1, o :: rs, e, H, r, h => by
    simp only [doOpsR] at h ⊢
    obtain ⟨b, h1, h2⟩ := Option.bind_eq_some_iff.1 h
    rw [h1]
    simp only [Option.bind_some]
    split at h2
    · rename_i hb
      rw [if_pos hb]
      obtain ⟨x, h3, h4⟩ := Option.bind_eq_some_iff.1 h2
      rw [doIns_up hc h3]
      simp only [Option.bind_some]
      split at h4
      · rename_i hk
        rw [if_pos hk]
        exact doOpsR_up hc h4
      · cases h4
    · rename_i hb
      rw [if_neg hb]
      exact doOpsR_up hc h2

theorem loopN_up {body body' : Env → Hp → Out} (hb : ∀ e H r, body e H = some r → body' e H = some r) {keep : List Nat} : ∀ {n m : Nat}, n ≤ m → ∀ {e : Env} {H : Hp} {r : Ex × Env × Hp}, loopN body keep n e H = some r → loopN body' keep m e H = some r
  | 0, m, _, e, H, r, h => by simp [loopN] at h
  | n + 1, 0, hnm, e, H, r, h => by omega
  | n + 1, m + 1, hnm, e, H, r, h => by
    simp only [loopN] at h ⊢
    obtain ⟨r1, h1, h2⟩ := Option.bind_eq_some_iff.1 h
    rw [hb _ _ _ h1]
    simp only [Option.bind_some]
    obtain ⟨ex, e1, H1⟩ := r1
    cases ex with
    | nrm => exact loopN_up hb (by omega) h2
    | ret => exact h2
    | exit id => exact h2

theorem runC_up {cf cf' : CallF} (hc : leC cf cf') {ro n m : Nat} (hnm : n ≤ m) : ∀ (c : Cd) (e : Env) (H : Hp) (r : Ex × Env × Hp), runC cf ro n c e H = some r → runC cf' ro m c e H = some r := by
  intro c
  induction c with
  | skip => intro e H r h; exact h
  | ret => intro e H r h; exact h
  | exit id => intro e H r h; exact h
  | bad => intro e H r h; exact h
  | rg ops keep =>
    intro e H r h
    simp only [runC] at h ⊢
    obtain ⟨r1, h1, h2⟩ := Option.bind_eq_some_iff.1 h
    rw [doOps_up hc h1]; exact h2
  | rgr c prs ops keep =>
    intro e H r h
    simp only [runC] at h ⊢
    obtain ⟨bl, h0, h⟩ := Option.bind_eq_some_iff.1 h
    obtain ⟨r1, h1, h2⟩ := Option.bind_eq_some_iff.1 h
    rw [h0, Option.bind_some, doOpsR_up hc h1]; exact h2
  | seq a b iha ihb =>
    intro e H r h
    simp only [runC] at h ⊢
    obtain ⟨r1, h1, h2⟩ := Option.bind_eq_some_iff.1 h
    rw [iha _ _ _ h1]
    obtain ⟨ex, e1, H1⟩ := r1
    cases ex with
    | nrm => exact ihb _ _ _ h2
    | ret => exact h2
    | exit id => exact h2
  | cond c a b iha ihb =>
    intro e H r h
    simp only [runC] at h ⊢
    split at h
    · exact iha _ _ _ h
    · exact ihb _ _ _ h
    · cases h
  | block id b ih =>
    intro e H r h
    simp only [runC] at h ⊢
    obtain ⟨r1, h1, h2⟩ := Option.bind_eq_some_iff.1 h
    rw [ih _ _ _ h1]; exact h2
  | loop keep b ih =>
    intro e H r h
    simp only [runC] at h ⊢
    exact loopN_up (fun e H r h => ih e H r h) hnm h

theorem callN_up (pg : Pg) : ∀ {n m : Nat}, n ≤ m → leC (callN pg n) (callN pg m)
  | 0, m, _ => fun ro f args H r h => by simp [callN] at h
  | n + 1, 0, hnm => by omega
  | n + 1, m + 1, hnm => fun ro f args H r h => by
    simp only [callN] at h ⊢
    obtain ⟨fn, h1, h2⟩ := Option.bind_eq_some_iff.1 h
    rw [h1]
    simp only [Option.bind_some]
    split at h2
    · rename_i hl
      rw [if_pos hl]
      obtain ⟨r1, h3, h4⟩ := Option.bind_eq_some_iff.1 h2
      rw [runC_up (callN_up pg (show n ≤ m by omega)) (by omega) _ _ _ _ h3]
      exact h4
    · cases h2

/-- What a call comes to. -/
noncomputable def callW (pg : Pg) : CallF := fun ro f args H => lim fun n => callN pg n ro f args H
/-- What code comes to. -/
noncomputable def runW (pg : Pg) (ro : Nat) (c : Cd) (e : Env) (H : Hp) : Out := lim fun n => runC (callN pg n) ro n c e H

theorem callW_iff {pg : Pg} {ro f : Nat} {args : List IV} {H : Hp} {r : IV × Hp} : callW pg ro f args H = some r ↔ ∃ n, callN pg n ro f args H = some r :=
  lim_iff fun _ _ _ hnm h => callN_up pg hnm _ _ _ _ _ h
theorem runW_iff {pg : Pg} {ro : Nat} {c : Cd} {e : Env} {H : Hp} {r : Ex × Env × Hp} : runW pg ro c e H = some r ↔ ∃ n, runC (callN pg n) ro n c e H = some r :=
  lim_iff fun _ _ _ hnm h => runC_up (callN_up pg hnm) hnm _ _ _ _ h

theorem leC_callW (pg : Pg) (n : Nat) : leC (callN pg n) (callW pg) := fun _ _ _ _ _ h => callW_iff.2 ⟨n, h⟩

theorem callP_lim {pg : Pg} {ro : Nat} {st : Bool} {f : Nat} {args : List IV} {H : Hp} {r : IV × Hp} (h : callP (callW pg) ro st f args H = some r) : ∃ n, callP (callN pg n) ro st f args H = some r := by
  unfold callP at h ⊢
  obtain ⟨r1, h1, h2⟩ := Option.bind_eq_some_iff.1 h
  obtain ⟨n, hn⟩ := callW_iff.1 h1
  exact ⟨n, by rw [hn]; exact h2⟩

theorem doCall_lim {pg : Pg} {ro m : Nat} {f : IV} {args : List IV} {H : Hp} {r : IV × Hp} (h : doCall (callW pg) ro m f args H = some r) : ∃ n, doCall (callN pg n) ro m f args H = some r := by
  unfold doCall at h ⊢
  split at h
  · split at h
    · exact callW_iff.1 h
    · exact callP_lim h
    · exact callP_lim h
  · cases h

theorem doIns_lim {pg : Pg} {ro : Nat} {e : Env} {H : Hp} {ins : Ins} {r : IV × Hp} (h : doIns (callW pg) ro e H ins = some r) : ∃ n, doIns (callN pg n) ro e H ins = some r := by
  cases ins <;> first | exact doCall_lim h | exact ⟨0, h⟩

theorem doOps_lim {pg : Pg} {ro : Nat} : ∀ {rs : List Rop} {e : Env} {H : Hp} {r : Env × Hp}, doOps (callW pg) ro rs e H = some r → ∃ n, doOps (callN pg n) ro rs e H = some r
  | [], e, H, r, h => ⟨0, h⟩
  | o :: rs, e, H, r, h => by
    simp only [doOps] at h ⊢
    obtain ⟨b, h1, h2⟩ := Option.bind_eq_some_iff.1 h
    rw [h1]
    simp only [Option.bind_some]
    split at h2
    · rename_i hb
      simp only [hb, if_true]
      obtain ⟨x, h3, h4⟩ := Option.bind_eq_some_iff.1 h2
      obtain ⟨n1, h5⟩ := doIns_lim h3
      obtain ⟨n2, h6⟩ := doOps_lim h4
      refine ⟨max n1 n2, ?_⟩
      rw [doIns_up (callN_up pg (Nat.le_max_left ..)) h5]
      exact doOps_up (callN_up pg (Nat.le_max_right ..)) h6
    · rename_i hb
      simp only [hb]
      exact doOps_lim h2

theorem doOpsR_lim {pg : Pg} {ro : Nat} {bl : List Nat} : ∀ {c : Nat} {rs : List Rop} {e : Env} {H : Hp} {r : Env × Hp}, doOpsR (callW pg) ro bl c rs e H = some r → ∃ n, doOpsR (callN pg n) ro bl c rs e H = some r
  | 0, _, e, H, r, h => doOps_lim h
  | _ + 1, [], e, H, r, h => ⟨0, h⟩
  | c + 1, o :: rs, e, H, r, h => by
    simp only [doOpsR] at h ⊢
    obtain ⟨b, h1, h2⟩ := Option.bind_eq_some_iff.1 h
    rw [h1]
    simp only [Option.bind_some]
    split at h2
    · rename_i hb
      simp only [hb, if_true]
      obtain ⟨x, h3, h4⟩ := Option.bind_eq_some_iff.1 h2
      obtain ⟨n1, h5⟩ := doIns_lim h3
      split at h4
      · rename_i hk
        obtain ⟨n2, h6⟩ := doOpsR_lim h4
        refine ⟨max n1 n2, ?_⟩
        rw [doIns_up (callN_up pg (Nat.le_max_left ..)) h5]
        simp only [Option.bind_some]
        rw [if_pos hk]
        exact doOpsR_up (callN_up pg (Nat.le_max_right ..)) h6
      · cases h4
    · rename_i hb
      simp only [hb]
      exact doOpsR_lim h2

section
variable {pg : Pg} {ro : Nat} {e : Env} {H : Hp}

theorem runW_skip : runW pg ro .skip e H = some (.nrm, e, H) := runW_iff.2 ⟨0, rfl⟩
theorem runW_ret : runW pg ro .ret e H = some (.ret, e, H) := runW_iff.2 ⟨0, rfl⟩
theorem runW_exit {id : Nat} : runW pg ro (.exit id) e H = some (.exit id, e, H) := runW_iff.2 ⟨0, rfl⟩

theorem runW_rg {ops : List Rop} {keep : List Nat} : runW pg ro (.rg ops keep) e H = (doOps (callW pg) ro ops e H).bind fun r => some (.nrm, keepE keep r.1, r.2) := by
  refine Option.ext fun r => ?_
  rw [runW_iff]
  simp only [runC, Option.bind_eq_some_iff]
  constructor
  · rintro ⟨n, r1, h1, h2⟩; exact ⟨r1, doOps_up (leC_callW pg n) h1, h2⟩
  · rintro ⟨r1, h1, h2⟩
    obtain ⟨n, hn⟩ := doOps_lim h1
    exact ⟨n, r1, hn, h2⟩

theorem runW_rgr {c : Nat} {prs : List Nat} {ops : List Rop} {keep : List Nat} : runW pg ro (.rgr c prs ops keep) e H = (mapO (fun t => blkOf H (get e t)) prs).bind fun bl => (doOpsR (callW pg) ro bl c ops e H).bind fun r => some (.nrm, keepE keep r.1, r.2) := by
  refine Option.ext fun r => ?_
  rw [runW_iff]
  simp only [runC, Option.bind_eq_some_iff]
  constructor
  · rintro ⟨n, bl, h0, r1, h1, h2⟩; exact ⟨bl, h0, r1, doOpsR_up (leC_callW pg n) h1, h2⟩
  · rintro ⟨bl, h0, r1, h1, h2⟩
    obtain ⟨n, hn⟩ := doOpsR_lim h1
    exact ⟨n, bl, h0, r1, hn, h2⟩

theorem up2 {n1 n2 : Nat} {a : Cd} {e : Env} {H : Hp} {r : Ex × Env × Hp} (h : runC (callN pg n1) ro n1 a e H = some r) (hn : n1 ≤ n2) : runC (callN pg n2) ro n2 a e H = some r := runC_up (callN_up pg hn) hn _ _ _ _ h

/-- What comes behind. -/
noncomputable def thenW (pg : Pg) (ro : Nat) (b : Cd) : Ex × Env × Hp → Out
  | (.nrm, e', H') => runW pg ro b e' H'
  | r => some r

theorem runW_seq {a b : Cd} : runW pg ro (.seq a b) e H = (runW pg ro a e H).bind (thenW pg ro b) := by
  refine Option.ext fun r => ?_
  rw [runW_iff]
  simp only [runC, Option.bind_eq_some_iff]
  constructor
  · rintro ⟨n, ⟨ex, e1, H1⟩, h1, h2⟩
    refine ⟨_, runW_iff.2 ⟨n, h1⟩, ?_⟩
    cases ex with
    | nrm => exact runW_iff.2 ⟨n, h2⟩
    | ret => exact h2
    | exit id => exact h2
  · rintro ⟨⟨ex, e1, H1⟩, h1, h2⟩
    obtain ⟨n1, h1⟩ := runW_iff.1 h1
    cases ex with
    | nrm =>
      obtain ⟨n2, h2⟩ := runW_iff.1 h2
      exact ⟨max n1 n2, _, up2 h1 (Nat.le_max_left ..), up2 h2 (Nat.le_max_right ..)⟩
    | ret => exact ⟨n1, _, h1, h2⟩
    | exit id => exact ⟨n1, _, h1, h2⟩

theorem runW_cond {c : Opd} {a b : Cd} : runW pg ro (.cond c a b) e H = match ev e c with
    | .bool true => runW pg ro a e H
    | .bool false => runW pg ro b e H
    | _ => none := by
  refine Option.ext fun r => ?_
  rw [runW_iff]
  simp only [runC]
  generalize ev e c = v
  cases v <;> first
    | (simp; done)
    | (rename_i b
       cases b <;> exact runW_iff.symm)

theorem runW_condT {c : Opd} {a b : Cd} (h : ev e c = .bool true) : runW pg ro (.cond c a b) e H = runW pg ro a e H := by rw [runW_cond, h]
theorem runW_condF {c : Opd} {a b : Cd} (h : ev e c = .bool false) : runW pg ro (.cond c a b) e H = runW pg ro b e H := by rw [runW_cond, h]
theorem runW_condB {c : Opd} {a b : Cd} {t : Bool} (h : ev e c = .bool t) : runW pg ro (.cond c a b) e H = if t = true then runW pg ro a e H else runW pg ro b e H := by
  cases t
  · rw [runW_condF h]; rfl
  · rw [runW_condT h]; rfl

/-- Out of a block. -/
def outB (id : Nat) : Ex × Env × Hp → Ex × Env × Hp
  | (.exit j, e', H') => if j = id then (.nrm, e', H') else (.exit j, e', H')
  | r => r

theorem runW_block {id : Nat} {b : Cd} : runW pg ro (.block id b) e H = (runW pg ro b e H).map (outB id) := by
  refine Option.ext fun r => ?_
  rw [runW_iff]
  simp only [runC, Option.bind_eq_some_iff, Option.map_eq_some_iff]
  constructor
  · rintro ⟨n, ⟨ex, e1, H1⟩, h1, h2⟩
    refine ⟨_, runW_iff.2 ⟨n, h1⟩, ?_⟩
    cases ex with
    | nrm => cases h2; rfl
    | ret => cases h2; rfl
    | exit j => simp only at h2; simp only [outB]; split at h2 <;> (cases h2; simp_all)
  · rintro ⟨⟨ex, e1, H1⟩, h1, rfl⟩
    obtain ⟨n1, h1⟩ := runW_iff.1 h1
    refine ⟨n1, _, h1, ?_⟩
    cases ex with
    | nrm => rfl
    | ret => rfl
    | exit j => simp only [outB]; split <;> rfl

theorem runW_loop {keep : List Nat} {b : Cd} : runW pg ro (.loop keep b) e H = (runW pg ro b (keepE keep e) H).bind (thenW pg ro (.loop keep b)) := by
  refine Option.ext fun r => ?_
  rw [runW_iff]
  simp only [Option.bind_eq_some_iff]
  constructor
  · rintro ⟨n, h⟩
    cases n with
    | zero => simp [runC, loopN] at h
    | succ n =>
      have h0 := h
      simp only [runC, loopN, Option.bind_eq_some_iff] at h
      obtain ⟨⟨ex, e1, H1⟩, h1, h2⟩ := h
      refine ⟨_, runW_iff.2 ⟨n + 1, h1⟩, ?_⟩
      cases ex with
      | nrm =>
        refine runW_iff.2 ⟨n + 1, ?_⟩
        simp only [runC]
        exact loopN_up (fun _ _ _ h => h) (Nat.le_succ n) h2
      | ret => exact h2
      | exit id => exact h2
  · rintro ⟨⟨ex, e1, H1⟩, h1, h2⟩
    obtain ⟨n1, h1⟩ := runW_iff.1 h1
    cases ex with
    | nrm =>
      obtain ⟨n2, h2⟩ := runW_iff.1 h2
      refine ⟨max n1 n2 + 1, ?_⟩
      simp only [runC, loopN, Option.bind_eq_some_iff]
      refine ⟨_, up2 h1 (by omega), ?_⟩
      simp only [runC] at h2
      simp only
      refine loopN_up (fun e H r h => up2 h (by omega)) (by omega) h2
    | ret =>
      refine ⟨n1 + 1, ?_⟩
      simp only [runC, loopN, Option.bind_eq_some_iff]
      exact ⟨_, up2 h1 (by omega), h2⟩
    | exit id =>
      refine ⟨n1 + 1, ?_⟩
      simp only [runC, loopN, Option.bind_eq_some_iff]
      exact ⟨_, up2 h1 (by omega), h2⟩

/-- A function's end. -/
def finW (res : List RV) : Ex × Env × Hp → Option (IV × Hp)
  | (.exit _, _, _) => none
  | (_, e, H') => (resL e H' res).bind fun v => some (v, H')

theorem callW_eq {f : Nat} {args : List IV} {fn : Fn} (hf : pg f = some fn) (hl : args.length = fn.np) : callW pg ro f args H = (runW pg ro fn.cd (parE 0 args) H).bind (finW fn.res) := by
  refine Option.ext fun r => ?_
  rw [callW_iff]
  simp only [Option.bind_eq_some_iff]
  constructor
  · rintro ⟨n, h⟩
    cases n with
    | zero => simp [callN] at h
    | succ n =>
      simp only [callN, hf, Option.bind_some, hl, if_true, Option.bind_eq_some_iff] at h
      obtain ⟨⟨ex, e1, H1⟩, h1, h2⟩ := h
      refine ⟨_, runW_iff.2 ⟨n, h1⟩, ?_⟩
      cases ex with
      | nrm => exact h2
      | ret => exact h2
      | exit id => cases h2
  · rintro ⟨⟨ex, e1, H1⟩, h1, h2⟩
    obtain ⟨n, h1⟩ := runW_iff.1 h1
    refine ⟨n + 1, ?_⟩
    simp only [callN, hf, Option.bind_some, hl, if_true, Option.bind_eq_some_iff]
    refine ⟨_, h1, ?_⟩
    cases ex with
    | nrm => exact h2
    | ret => exact h2
    | exit id => cases h2

end

theorem callW_ok {P : Program} (hm : P.follows .mixedOrders = true) (hpr : PrOk P) {pg : Pg} (hpg : PgOk P pg) : CallOk P (callW pg) := by
  intro ro f args H x H' h
  obtain ⟨n, hn⟩ := callW_iff.1 h
  exact callN_ok hm hpr hpg n _ _ _ _ _ _ hn

end Go.Vs
/- The ideal machine's equations, for a run with unknown values. -/
namespace Go.Vs
open Go Go.RowKit

section
variable {pg : Pg} {cf : CallF} {ro : Nat} {e : Env} {H : Hp}

attribute [simp] List.getElem?_cons_zero List.getElem?_cons_succ
attribute [simp] runW_skip runW_ret runW_exit

/-! Continuations under names: a run is worked out from its head. -/
/-- Behind an operation. -/
def contO (cf : CallF) (ro : Nat) (d : Option Nat) (r : List Rop) (e : Env) : Option (IV × Hp) → Option (Env × Hp)
  | some (x, H) => doOps cf ro r (putE e d x) H
  | none => none
/-- Behind a region. -/
def keepO (keep : List Nat) : Option (Env × Hp) → Out
  | some (e, H) => some (.nrm, keepE keep e, H)
  | none => none
/-- Behind code. -/
noncomputable def seqO (pg : Pg) (ro : Nat) (b : Cd) : Out → Out
  | some r => thenW pg ro b r
  | none => none
/-- Behind a block's code. -/
def blkO (id : Nat) : Out → Out
  | some r => some (outB id r)
  | none => none
/-- A function's end. -/
def finO (res : List RV) : Out → Option (IV × Hp)
  | some r => finW res r
  | none => none
noncomputable def condO (pg : Pg) (ro : Nat) (a b : Cd) (e : Env) (H : Hp) : Option Bool → Out
  | some true => runW pg ro a e H
  | some false => runW pg ro b e H
  | none => none
def grdO (cf : CallF) (ro : Nat) (d : Option Nat) (i : Ins) (r : List Rop) (e : Env) (H : Hp) : Option Bool → Option (Env × Hp)
  | some true => contO cf ro d r e (doIns cf ro e H i)
  | some false => doOps cf ro r (putE e d (.tup [])) H
  | none => none

@[simp] theorem contO_some {d : Option Nat} {r : List Rop} {x : IV} : contO cf ro d r e (some (x, H)) = doOps cf ro r (putE e d x) H := rfl
@[simp] theorem keepO_some {keep : List Nat} : keepO keep (some (e, H)) = some (.nrm, keepE keep e, H) := rfl
@[simp] theorem seqO_nrm {b : Cd} : seqO pg ro b (some (.nrm, e, H)) = runW pg ro b e H := rfl
@[simp] theorem seqO_ret {b : Cd} : seqO pg ro b (some (.ret, e, H)) = some (.ret, e, H) := rfl
@[simp] theorem seqO_exit {b : Cd} {id : Nat} : seqO pg ro b (some (.exit id, e, H)) = some (.exit id, e, H) := rfl
@[simp] theorem blkO_nrm {id : Nat} : blkO id (some (.nrm, e, H)) = some (.nrm, e, H) := rfl
@[simp] theorem blkO_ret {id : Nat} : blkO id (some (.ret, e, H)) = some (.ret, e, H) := rfl
@[simp] theorem blkO_exit {id j : Nat} : blkO id (some (.exit j, e, H)) = if j = id then some (.nrm, e, H) else some (.exit j, e, H) := by
  simp only [blkO, outB]; split <;> rfl
@[simp] theorem finO_nrm {res : List RV} : finO res (some (.nrm, e, H)) = (resL e H res).map fun v => (v, H) := by
  simp only [finO, finW]; cases resL e H res <;> rfl
@[simp] theorem finO_ret {res : List RV} : finO res (some (.ret, e, H)) = (resL e H res).map fun v => (v, H) := by
  simp only [finO, finW]; cases resL e H res <;> rfl
@[simp] theorem condO_true {a b : Cd} : condO pg ro a b e H (some true) = runW pg ro a e H := rfl
@[simp] theorem condO_false {a b : Cd} : condO pg ro a b e H (some false) = runW pg ro b e H := rfl
@[simp] theorem grdO_t {d : Option Nat} {i : Ins} {r : List Rop} : grdO cf ro d i r e H (some true) = contO cf ro d r e (doIns cf ro e H i) := rfl
@[simp] theorem grdO_f {d : Option Nat} {i : Ins} {r : List Rop} : grdO cf ro d i r e H (some false) = doOps cf ro r (putE e d (.tup [])) H := rfl
def wantV (b : Bool) : IV → Option Bool
  | .bool c => some (c == b)
  | .tup _ => some false
  | _ => none
@[simp] theorem wantV_bool {b c : Bool} : wantV b (.bool c) = some (c == b) := rfl
@[simp] theorem wantV_tup {b : Bool} {vs : List IV} : wantV b (.tup vs) = some false := rfl

@[simp] theorem runW_seqO {a b : Cd} : runW pg ro (.seq a b) e H = seqO pg ro b (runW pg ro a e H) := by
  rw [runW_seq]; cases runW pg ro a e H <;> rfl
@[simp] theorem runW_rgO {ops : List Rop} {keep : List Nat} : runW pg ro (.rg ops keep) e H = keepO keep (doOps (callW pg) ro ops e H) := by
  rw [runW_rg]; cases doOps (callW pg) ro ops e H <;> rfl
@[simp] theorem runW_blockO {id : Nat} {b : Cd} : runW pg ro (.block id b) e H = blkO id (runW pg ro b e H) := by
  rw [runW_block]; cases runW pg ro b e H <;> rfl
theorem runW_loopO {keep : List Nat} {b : Cd} : runW pg ro (.loop keep b) e H = seqO pg ro (.loop keep b) (runW pg ro b (keepE keep e) H) := by
  rw [runW_loop]; cases runW pg ro b (keepE keep e) H <;> rfl
theorem callW_eqO {f : Nat} {args : List IV} {fn : Fn} (hf : pg f = some fn) (hl : args.length = fn.np) : callW pg ro f args H = finO fn.res (runW pg ro fn.cd (parE 0 args) H) := by
  rw [callW_eq hf hl]; cases runW pg ro fn.cd (parE 0 args) H <;> rfl

@[simp] theorem doOps_nil : doOps cf ro [] e H = some (e, H) := rfl
@[simp] theorem doOps_none {d : Option Nat} {i : Ins} {r : List Rop} : doOps cf ro (⟨d, none, i⟩ :: r) e H = contO cf ro d r e (doIns cf ro e H i) := by
  simp only [doOps, wantE, Option.bind_some, if_true]; cases doIns cf ro e H i <;> rfl

/-- Behind an operation beside which something loads. -/
noncomputable def contR (cf : CallF) (ro : Nat) (bl : List Nat) (c : Nat) (d : Option Nat) (r : List Rop) (e : Env) (H0 : Hp) : Option (IV × Hp) → Option (Env × Hp)
  | some (x, H) => open Classical in if ∀ b ∈ bl, H[b]? = H0[b]? then doOpsR cf ro bl c r (putE e d x) H else none
  | none => none
@[simp] theorem contR_same {bl : List Nat} {c : Nat} {d : Option Nat} {r : List Rop} {x : IV} : contR cf ro bl c d r e H (some (x, H)) = doOpsR cf ro bl c r (putE e d x) H := by
  simp [contR]
theorem contR_some {bl : List Nat} {c : Nat} {d : Option Nat} {r : List Rop} {x : IV} {H' : Hp} (h : ∀ b ∈ bl, H'[b]? = H[b]?) : contR cf ro bl c d r e H (some (x, H')) = doOpsR cf ro bl c r (putE e d x) H' := by
  simp only [contR]; rw [if_pos h]
@[simp] theorem contR_one {b c : Nat} {d : Option Nat} {r : List Rop} {x : IV} {H' : Hp} (h : H'[b]? = H[b]?) : contR cf ro [b] c d r e H (some (x, H')) = doOpsR cf ro [b] c r (putE e d x) H' :=
  contR_some (by simpa using h)
@[simp] theorem doOpsR_zero {bl : List Nat} {rs : List Rop} : doOpsR cf ro bl 0 rs e H = doOps cf ro rs e H := by cases rs <;> rfl
@[simp] theorem doOpsR_nil {bl : List Nat} {c : Nat} : doOpsR cf ro bl c [] e H = some (e, H) := by cases c <;> rfl
@[simp] theorem doOpsR_none {bl : List Nat} {c : Nat} {d : Option Nat} {i : Ins} {r : List Rop} : doOpsR cf ro bl (c + 1) (⟨d, none, i⟩ :: r) e H = contR cf ro bl c d r e H (doIns cf ro e H i) := by
  simp only [doOpsR, wantE, Option.bind_some, if_true]; cases doIns cf ro e H i <;> rfl
noncomputable def grdR (cf : CallF) (ro : Nat) (bl : List Nat) (c : Nat) (d : Option Nat) (i : Ins) (r : List Rop) (e : Env) (H : Hp) : Option Bool → Option (Env × Hp)
  | some true => contR cf ro bl c d r e H (doIns cf ro e H i)
  | some false => doOpsR cf ro bl c r (putE e d (.tup [])) H
  | none => none
@[simp] theorem grdR_t {bl : List Nat} {c : Nat} {d : Option Nat} {i : Ins} {r : List Rop} : grdR cf ro bl c d i r e H (some true) = contR cf ro bl c d r e H (doIns cf ro e H i) := rfl
@[simp] theorem grdR_f {bl : List Nat} {c : Nat} {d : Option Nat} {i : Ins} {r : List Rop} : grdR cf ro bl c d i r e H (some false) = doOpsR cf ro bl c r (putE e d (.tup [])) H := rfl
@[simp] theorem doOpsR_grd {bl : List Nat} {c : Nat} {d : Option Nat} {g : Nat} {b : Bool} {i : Ins} {r : List Rop} : doOpsR cf ro bl (c + 1) (⟨d, some (g, b), i⟩ :: r) e H = grdR cf ro bl c d i r e H (wantV b (get e g)) := by
  simp only [doOpsR, wantE]
  cases get e g <;> first
    | rfl
    | (rename_i c'
       simp only [wantV, Option.bind_some]
       cases c' == b
       · rfl
       · simp only [if_true, grdR]
         cases doIns cf ro e H i <;> rfl)
@[simp] theorem runW_rgrO {c : Nat} {prs : List Nat} {ops : List Rop} {keep : List Nat} : runW pg ro (.rgr c prs ops keep) e H = (mapO (fun t => blkOf H (get e t)) prs).bind fun bl => keepO keep (doOpsR (callW pg) ro bl c ops e H) := by
  rw [runW_rgr]
  congr 1
  funext bl
  cases doOpsR (callW pg) ro bl c ops e H <;> rfl
@[simp] theorem blkOf_ptr {b g i j : Nat} : blkOf H (.ptr b g i j) = if b < H.length then some b else none := rfl
@[simp] theorem doIns_ldr {ag : Bool} {n : Nat} {a b : Opd} : doIns cf ro e H (.ldr ag n a b) = if sameBlk (ev e a) (ev e b) = true then (rd H n (ev e a)).bind fun cs => (val1 ag cs).bind fun v => some (v, H) else none := rfl
@[simp] theorem sameBlk_ptr {b g i j b' g' i' j' : Nat} : sameBlk (.ptr b g i j) (.ptr b' g' i' j') = Nat.beq b b' := rfl
@[simp] theorem nat_beq_self {b : Nat} : Nat.beq b b = true := Nat.beq_refl b

attribute [simp] get parE
@[simp] theorem keepE_nil : keepE [] e = [] := rfl
@[simp] theorem keepE_cons {k : Nat} {ks : List Nat} : keepE (k :: ks) e = (k, get e k) :: keepE ks e := rfl
@[simp] theorem ev_t {n : Nat} : ev e (.t n) = get e n := rfl
@[simp] theorem ev_f {n : Nat} : ev e (.f n) = .fn n [] := rfl
@[simp] theorem ev_bool {b : Bool} : ev e (.c (.bool b)) = .bool b := rfl
@[simp] theorem ev_int {k : IntKind} {n : Int} : ev e (.c (.int k n)) = .int k n := rfl
@[simp] theorem ev_str {s : ByteArray} : ev e (.c (.string s)) = .str s := rfl
@[simp] theorem ev_nptr : ev e (.c (.pointer none)) = .nptr := rfl
@[simp] theorem ev_nsl : ev e (.c (.slice none 0 0)) = .nsl := rfl
@[simp] theorem ev_nfn : ev e (.c .nilFunc) = .nfn := rfl
@[simp] theorem ev_nif : ev e (.c .nilIface) = .nif := rfl
@[simp] theorem ev_agg {cs : Array Value} : ev e (.c (.agg cs)) = .agg (cs.toList.map ofS) := rfl
@[simp] theorem ofS_bool {b : Bool} : ofS (.bool b) = .bool b := rfl
@[simp] theorem ofS_int {k : IntKind} {n : Int} : ofS (.int k n) = .int k n := rfl
@[simp] theorem ofS_str {s : ByteArray} : ofS (.string s) = .str s := rfl
@[simp] theorem ofS_nptr : ofS (.pointer none) = .nptr := rfl
@[simp] theorem ofS_nsl : ofS (.slice none 0 0) = .nsl := rfl
@[simp] theorem putE_none {v : IV} : putE e none v = e := rfl
@[simp] theorem putE_some {d : Nat} {v : IV} : putE e (some d) v = (d, v) :: e := rfl

@[simp] theorem doIns_mv {x : Opd} : doIns cf ro e H (.mv x) = some (ev e x, H) := rfl
@[simp] theorem doIns_bin {op : BinOp} {x y : Opd} : doIns cf ro e H (.bin op x y) = (binV op (ev e x) (ev e y)).bind fun v => some (v, H) := rfl
@[simp] theorem doIns_un {op : UnOp} {x : Opd} : doIns cf ro e H (.un op x) = (unV op (ev e x)).bind fun v => some (v, H) := rfl
def asB : IV → Option Bool
  | .bool b => some b
  | _ => none
@[simp] theorem asB_bool {b : Bool} : asB (.bool b) = some b := rfl
@[simp] theorem doIns_pick {c a b : Opd} : doIns cf ro e H (.pick c a b) = (asB (ev e c)).bind fun t => some (if t = true then ev e a else ev e b, H) := by
  cases hc : ev e c <;> first
    | (simp only [doIns, hc]; rfl)
    | (rename_i t; cases t <;> (simp only [doIns, hc]; rfl))
@[simp] theorem runW_condV {c : Opd} {a b : Cd} : runW pg ro (.cond c a b) e H = condO pg ro a b e H (asB (ev e c)) := by
  rw [runW_cond]
  cases ev e c <;> first
    | rfl
    | (rename_i t; cases t <;> rfl)
@[simp] theorem doIns_alloc {z : List IV} : doIns cf ro e H (.alloc z) = some (.ptr H.length 0 0 0, H ++ [{ rows := [z] }]) := rfl

@[simp] theorem doOps_grd {d : Option Nat} {g : Nat} {b : Bool} {i : Ins} {r : List Rop} : doOps cf ro (⟨d, some (g, b), i⟩ :: r) e H = grdO cf ro d i r e H (wantV b (get e g)) := by
  simp only [doOps, wantE]
  cases get e g <;> first
    | rfl
    | (rename_i c
       simp only [wantV, Option.bind_some]
       cases c == b
       · rfl
       · simp only [if_true, grdO]
         cases doIns cf ro e H i <;> rfl)

/-! numbers -/
@[simp] theorem bin_add {k : IntKind} {a b : Int} : binV .add (.int k a) (.int k b) = some (.int k (k.wrap (a + b))) := by simp [binV, binI]
@[simp] theorem bin_sub {k : IntKind} {a b : Int} : binV .sub (.int k a) (.int k b) = some (.int k (k.wrap (a - b))) := by simp [binV, binI]
@[simp] theorem bin_mul {k : IntKind} {a b : Int} : binV .mul (.int k a) (.int k b) = some (.int k (k.wrap (a * b))) := by simp [binV, binI]
@[simp] theorem bin_and {k : IntKind} {a b : Int} : binV .and (.int k a) (.int k b) = some (.int k (bits .and k a b)) := by simp [binV, binI, bits]
@[simp] theorem bin_or {k : IntKind} {a b : Int} : binV .or (.int k a) (.int k b) = some (.int k (bits .or k a b)) := by simp [binV, binI, bits]
@[simp] theorem bin_xor {k : IntKind} {a b : Int} : binV .xor (.int k a) (.int k b) = some (.int k (bits .xor k a b)) := by simp [binV, binI, bits]
@[simp] theorem bin_shr {k k' : IntKind} {a b : Int} : binV .shr (.int k a) (.int k' b) = if b < 0 then none else some (.int k (a / 2 ^ (min b.toNat k.bits))) := by
  simp only [binV]
  split
  · rfl
  · rw [Int.fdiv_eq_ediv_of_nonneg _ (Int.le_of_lt (Int.pow_pos (by decide)))]
@[simp] theorem bin_shl {k k' : IntKind} {a b : Int} : binV .shl (.int k a) (.int k' b) = if b < 0 then none else some (.int k (k.wrap (a * 2 ^ (min b.toNat k.bits)))) := rfl
@[simp] theorem bits_i8 : IntKind.i8.bits = 8 := rfl
@[simp] theorem bits_i16 : IntKind.i16.bits = 16 := rfl
@[simp] theorem bits_i32 : IntKind.i32.bits = 32 := rfl
@[simp] theorem bits_i64 : IntKind.i64.bits = 64 := rfl
@[simp] theorem bits_u8 : IntKind.u8.bits = 8 := rfl
@[simp] theorem bits_u16 : IntKind.u16.bits = 16 := rfl
@[simp] theorem bits_u32 : IntKind.u32.bits = 32 := rfl
@[simp] theorem bits_u64 : IntKind.u64.bits = 64 := rfl
theorem bin_quo {k : IntKind} {a b : Int} (h : b ≠ 0) : binV .quo (.int k a) (.int k b) = some (.int k (k.wrap (a.tdiv b))) := by simp [binV, binI, h]
theorem bin_rem {k : IntKind} {a b : Int} (h : b ≠ 0) : binV .rem (.int k a) (.int k b) = some (.int k (a.tmod b)) := by simp [binV, binI, h]
@[simp] theorem bin_eql {k : IntKind} {a b : Int} : binV .eql (.int k a) (.int k b) = some (.bool (decide (a = b))) := by simp [binV, binI]; by_cases h : a = b <;> simp [h]
@[simp] theorem bin_neq {k : IntKind} {a b : Int} : binV .neq (.int k a) (.int k b) = some (.bool (!decide (a = b))) := by simp [binV, binI]; by_cases h : a = b <;> simp [h]
@[simp] theorem bin_lss {k : IntKind} {a b : Int} : binV .lss (.int k a) (.int k b) = some (.bool (decide (a < b))) := by simp [binV, binI]
@[simp] theorem bin_leq {k : IntKind} {a b : Int} : binV .leq (.int k a) (.int k b) = some (.bool (decide (a ≤ b))) := by simp [binV, binI]
@[simp] theorem bin_gtr {k : IntKind} {a b : Int} : binV .gtr (.int k a) (.int k b) = some (.bool (decide (a > b))) := by simp [binV, binI]
@[simp] theorem bin_geq {k : IntKind} {a b : Int} : binV .geq (.int k a) (.int k b) = some (.bool (decide (a ≥ b))) := by simp [binV, binI]
@[simp] theorem un_neg {k : IntKind} {a : Int} : unV .neg (.int k a) = some (.int k (k.wrap (0 - a))) := rfl
@[simp] theorem un_not {b : Bool} : unV .not (.bool b) = some (.bool !b) := rfl
def cviV (k : IntKind) : IV → Option IV
  | .int _ n => some (.int k (k.wrap n))
  | _ => none
@[simp] theorem cviV_int {k k' : IntKind} {n : Int} : cviV k (.int k' n) = some (.int k (k.wrap n)) := rfl
@[simp] theorem doIns_cvi {k : IntKind} {x : Opd} : doIns cf ro e H (.cvi k x) = (cviV k (ev e x)).bind fun v => some (v, H) := by
  simp only [doIns]; cases ev e x <;> rfl
def cvsV : IV → Option IV
  | .str s => some (.str s)
  | _ => none
@[simp] theorem cvsV_str {s : ByteArray} : cvsV (.str s) = some (.str s) := rfl
@[simp] theorem doIns_cvs {x : Opd} : doIns cf ro e H (.cvs x) = (cvsV (ev e x)).bind fun v => some (v, H) := by
  simp only [doIns]; cases ev e x <;> rfl

/-! '==' -/
@[simp] theorem doIns_eqb {neg : Bool} {x y : Opd} : doIns cf ro e H (.eqb neg x y) = (eqC 0 (ev e x) (ev e y)).bind fun b => some (.bool (neg ^^ b), H) := rfl
@[simp] theorem doIns_eqs {neg : Bool} {ks : List Nat} {x y : Opd} : doIns cf ro e H (.eqs neg ks x y) = (eqV ks (ev e x) (ev e y)).bind fun b => some (.bool (neg ^^ b), H) := rfl
@[simp] theorem doIns_eqn {neg : Bool} {k : Nat} {x : Opd} : doIns cf ro e H (.eqn k neg x) = (isNil k (ev e x)).bind fun b => some (.bool (neg ^^ b), H) := rfl
@[simp] theorem eqC_bool {a b : Bool} : eqC 0 (.bool a) (.bool b) = some (a == b) := rfl
@[simp] theorem eqC_int {k : IntKind} {a b : Int} : eqC 1 (.int k a) (.int k b) = some (decide (a = b)) := by simp [eqC]; by_cases h : a = b <;> simp [h]
@[simp] theorem eqC_str {a b : ByteArray} : eqC 2 (.str a) (.str b) = some (a == b) := rfl
@[simp] theorem eqV_agg {ks : List Nat} {xs ys : List IV} : eqV ks (.agg xs) (.agg ys) = eqL ks xs ys := rfl
@[simp] theorem eqL_nil : eqL [] [] [] = some true := rfl
@[simp] theorem eqL_cons {k : Nat} {ks : List Nat} {x y : IV} {xs ys : List IV} : eqL (k :: ks) (x :: xs) (y :: ys) = (eqC k x y).bind fun c => (eqL ks xs ys).bind fun d => some (c && d) := rfl
@[simp] theorem isNil_nptr : isNil 0 .nptr = some true := rfl
@[simp] theorem isNil_ptr {b g i j : Nat} : isNil 0 (.ptr b g i j) = some false := rfl
@[simp] theorem isNil_eptr {r : List (List IV)} {i j : Nat} : isNil 0 (.eptr r i j) = some false := rfl
@[simp] theorem isNil_nsl : isNil 1 .nsl = some true := rfl
@[simp] theorem isNil_imm {r : List (List IV)} {f : Bool} : isNil 1 (.imm r f) = some false := rfl
@[simp] theorem isNil_arr {b g o l c : Nat} {x : Bool} : isNil 1 (.arr b g o l c x) = some false := rfl

/-! cells -/
@[simp] theorem cellsO_agg {cs : List IV} : cellsO (.agg cs) = if cs.all cellOk then some cs else none := rfl
@[simp] theorem cellsO_bool {b : Bool} : cellsO (.bool b) = some [.bool b] := rfl
@[simp] theorem cellsO_int {k : IntKind} {n : Int} : cellsO (.int k n) = some [.int k n] := rfl
@[simp] theorem cellsO_str {s : ByteArray} : cellsO (.str s) = some [.str s] := rfl
@[simp] theorem cellsO_nptr : cellsO .nptr = some [.nptr] := rfl
@[simp] theorem cellsO_ptr {b g i j : Nat} : cellsO (.ptr b g i j) = some [.ptr b g i j] := rfl
@[simp] theorem cellsO_nsl : cellsO .nsl = some [.nsl] := rfl
@[simp] theorem cellsO_imm {r : List (List IV)} {f : Bool} : cellsO (.imm r f) = some [.imm r f] := rfl
@[simp] theorem cellsO_arr {b g o l c : Nat} {x : Bool} : cellsO (.arr b g o l c x) = some [.arr b g o l c x] := rfl
@[simp] theorem cellOk_bool {b : Bool} : cellOk (.bool b) = true := rfl
@[simp] theorem cellOk_int {k : IntKind} {n : Int} : cellOk (.int k n) = true := rfl
@[simp] theorem cellOk_str {s : ByteArray} : cellOk (.str s) = true := rfl
@[simp] theorem cellOk_nptr : cellOk .nptr = true := rfl
@[simp] theorem cellOk_ptr {b g i j : Nat} : cellOk (.ptr b g i j) = true := rfl
@[simp] theorem cellOk_nsl : cellOk .nsl = true := rfl
@[simp] theorem cellOk_imm {r : List (List IV)} {f : Bool} : cellOk (.imm r f) = true := rfl
@[simp] theorem cellOk_arr {b g o l c : Nat} {x : Bool} : cellOk (.arr b g o l c x) = true := rfl
attribute [simp] over sub mapO
@[simp] theorem val1_agg {cs : List IV} : val1 true cs = some (.agg cs) := rfl
@[simp] theorem val1_one {x : IV} : val1 false [x] = some x := rfl
@[simp] theorem offs_ptr {n b g i j : Nat} : offs n (.ptr b g i j) = some (.ptr b g i (j + n)) := rfl
@[simp] theorem offs_eptr {n i j : Nat} {r : List (List IV)} : offs n (.eptr r i j) = some (.eptr r i (j + n)) := rfl
@[simp] theorem resV_t {n : Nat} : resV e H (.t n) = some (get e n) := rfl
@[simp] theorem resV_cell {a n : Nat} {ag : Bool} : resV e H (.cell a ag n) = (rd H n (get e a)).bind (val1 ag) := rfl
theorem resL_one {r : RV} : resL e H [r] = resV e H r := by
  simp only [resL, mapO]; cases resV e H r <;> rfl
theorem resL_two {r s : RV} : resL e H [r, s] = (resV e H r).bind fun x => (resV e H s).bind fun y => some (.tup [x, y]) := by
  simp only [resL, mapO]; cases resV e H r <;> cases resV e H s <;> rfl
theorem resL_nil : resL e H [] = some (.tup []) := rfl
attribute [simp] resL_one resL_two resL_nil
@[simp] theorem doIns_build {z : List IV} {ps : List (Nat × Nat × Opd)} : doIns cf ro e H (.build z ps) = (doIns.fillB e z ps).bind fun cs => some (.agg cs, H) := rfl
attribute [simp] doIns.fillB
@[simp] theorem doIns_fad {n : Nat} {x : Opd} : doIns cf ro e H (.fad n x) = (offs n (ev e x)).bind fun v => some (v, H) := rfl
@[simp] theorem doIns_mksl {sz b : Nat} {z : List IV} {n c : Opd} : doIns cf ro e H (.mksl sz b z n c) = (asNat (ev e n)).bind fun n => (asNat (ev e c)).bind fun c =>
      if n ≤ c ∧ c * b ≤ room ∧ z.length = sz then some (.arr H.length 0 0 n c true, H ++ [{ rows := List.replicate c z }]) else none := rfl
@[simp] theorem isE_eptr {rows : List (List IV)} {i j : Nat} : doIns.isE (.eptr rows i j) = true := rfl
@[simp] theorem doIns_loadim {ag : Bool} {n : Nat} {a : Opd} : doIns cf ro e H (.load ag n a true) = if doIns.isE (ev e a) = true then (rd H n (ev e a)).bind fun cs => (val1 ag cs).bind fun v => some (v, H) else none := by
  cases h : doIns.isE (ev e a) <;> simp [doIns, h]
@[simp] theorem doIns_boxf {n : Nat} {x : Opd} : doIns cf ro e H (.boxf n x) = (cellsO (ev e x)).bind fun cs => if cs.length = n ∧ cs.all leafV = true then some (.eptr [cs] 0 0, H) else none := rfl
attribute [simp] leafV
@[simp] theorem doIns_box {n : Nat} {x : Opd} : doIns cf ro e H (.box n x) = (cellsO (ev e x)).bind fun cs => if cs.length = n then some (.ptr H.length 0 0 0, H ++ [{ rows := [cs] }]) else none := rfl
@[simp] theorem doIns_store {n : Nat} {a x : Opd} : doIns cf ro e H (.store n a x) = (cellsO (ev e x)).bind fun cs => if cs.length = n then (wr ro H cs (ev e a)).bind fun H' => some (.und, H') else none := rfl
@[simp] theorem doIns_load {ag : Bool} {n : Nat} {a : Opd} : doIns cf ro e H (.load ag n a false) = (rd H n (ev e a)).bind fun cs => (val1 ag cs).bind fun v => some (v, H) := by simp [doIns]
def fldV (ag : Bool) (o n : Nat) : IV → Option IV
  | .agg cs => (sub cs o n).bind (val1 ag)
  | _ => none
@[simp] theorem fldV_agg {ag : Bool} {o n : Nat} {cs : List IV} : fldV ag o n (.agg cs) = (sub cs o n).bind (val1 ag) := rfl
@[simp] theorem doIns_fld {ag : Bool} {o n : Nat} {x : Opd} : doIns cf ro e H (.fld ag o n x) = (fldV ag o n (ev e x)).bind fun v => some (v, H) := by
  cases h : ev e x <;> simp only [doIns, h, fldV, Option.bind_none]
  cases sub _ o n <;> rfl
def extV (i : Nat) : IV → Option IV
  | .tup vs => vs[i]?
  | _ => none
@[simp] theorem extV_tup {i : Nat} {vs : List IV} : extV i (.tup vs) = vs[i]? := rfl
@[simp] theorem doIns_extr {x : Opd} {i : Nat} : doIns cf ro e H (.ext x i) = (extV i (ev e x)).bind fun v => some (v, H) := by
  cases h : ev e x <;> simp only [doIns, h, extV, Option.bind_none]
  rename_i vs
  cases vs[i]? <;> rfl
def nckV : IV → Option IV
  | .ptr b g i j => some (.ptr b g i j)
  | .eptr r i j => some (.eptr r i j)
  | .fn f cs => some (.fn f cs)
  | .ifc t v => some (.ifc t v)
  | _ => none
@[simp] theorem nckV_ptr {b g i j : Nat} : nckV (.ptr b g i j) = some (.ptr b g i j) := rfl
@[simp] theorem nckV_eptr {i j : Nat} {r : List (List IV)} : nckV (.eptr r i j) = some (.eptr r i j) := rfl
@[simp] theorem nckV_fn {f : Nat} {cs : List IV} : nckV (.fn f cs) = some (.fn f cs) := rfl
@[simp] theorem doIns_nilck {x : Opd} : doIns cf ro e H (.nilck x) = (nckV (ev e x)).bind fun v => some (v, H) := by
  cases h : ev e x <;> simp only [doIns, h, nckV, Option.bind_none, Option.bind_some]
def asI : IV → Option Int
  | .int _ n => some n
  | _ => none
@[simp] theorem asI_int {k : IntKind} {n : Int} : asI (.int k n) = some n := rfl
@[simp] theorem isI_imm {r : List (List IV)} {f : Bool} : isI (.imm r f) = true := rfl
@[simp] theorem isI_nsl : isI .nsl = true := rfl
@[simp] theorem doIns_iad {sz : Nat} {x i : Opd} : doIns cf ro e H (.iad sz x i) = (asI (ev e i)).bind fun i => (idx H sz (ev e x) i).bind fun v => some (v, H) := by
  cases h : ev e i <;> simp only [doIns, h, asI, Option.bind_none, Option.bind_some]
@[simp] theorem doIns_iai {sz : Nat} {x i : Opd} : doIns cf ro e H (.iai sz x i) = (asI (ev e i)).bind fun i => if isI (ev e x) = true then (idx H sz (ev e x) i).bind fun v => some (v, H) else none := by
  cases hi : ev e i <;> simp only [doIns, hi, asI, Option.bind_none, Option.bind_some]
  split
  · rename_i hI; rw [idx_isI hI]
  · rfl
@[simp] theorem doIns_sli {sz : Nat} {x : Opd} {lo hi mx : Option Opd} : doIns cf ro e H (.sli sz x lo hi mx) = (optB e 0 lo).bind fun l => (optB e 0 hi).bind fun h => (optB e 0 mx).bind fun m =>
      if isI (ev e x) = true then (slSl H sz (ev e x) l (hi.map fun _ => h) (mx.map fun _ => m)).bind fun v => some (v, H) else none := by
  simp only [doIns]
  cases hI : isI (ev e x)
  · simp
  · simp only [if_true, slSl_isI (H := H) hI]
@[simp] theorem doIns_slsl {sz : Nat} {x : Opd} {lo hi mx : Option Opd} : doIns cf ro e H (.slsl sz x lo hi mx) = (optB e 0 lo).bind fun l => (optB e 0 hi).bind fun h => (optB e 0 mx).bind fun m =>
      (slSl H sz (ev e x) l (hi.map fun _ => h) (mx.map fun _ => m)).bind fun v => some (v, H) := rfl
@[simp] theorem optB_none {d : Nat} : optB e d none = some d := rfl
@[simp] theorem optB_some {d : Nat} {x : Opd} : optB e d (some x) = asNat (ev e x) := rfl
@[simp] theorem asNat_int {k : IntKind} {n : Int} : asNat (.int k n) = if 0 ≤ n then some n.toNat else none := rfl
@[simp] theorem doIns_apn {sz b : Nat} {y : Opd} : doIns cf ro e H (.apn sz b y) = appV ro H sz b .nsl (ev e y) := rfl
@[simp] theorem doIns_app {sz b : Nat} {x y : Opd} : doIns cf ro e H (.app sz b x y) = appV ro H sz b (ev e x) (ev e y) := rfl
@[simp] theorem doIns_bslice {n sz : Nat} {z : List IV} {ps : List (Nat × Opd)} : doIns cf ro e H (.bslice n sz z ps) = (doIns.fillP e sz (List.replicate n z) ps).bind fun rows =>
      some (.arr H.length 0 0 n n true, H ++ [{ rows := rows }]) := rfl
attribute [simp] doIns.fillP
@[simp] theorem doIns_mki {t : Nat} {x : Opd} : doIns cf ro e H (.mki t x) = some (.ifc t (ev e x), H) := rfl
@[simp] theorem doIns_mkf {f : Nat} {cs : List Opd} : doIns cf ro e H (.mkf f cs) = some (.fn f (cs.map (ev e)), H) := rfl
@[simp] theorem doIns_call {m : Nat} {f : Opd} {as : List Opd} : doIns cf ro e H (.call m f as) = doCall cf ro m (ev e f) (as.map (ev e)) H := rfl
@[simp] theorem doIns_lenq {st : Bool} {x : Opd} : doIns cf ro e H (.len st x) = (lenV st (ev e x)).bind fun n => some (.int .i64 n, H) := rfl
@[simp] theorem doIns_pr {p : Pr} {xs : List Opd} : doIns cf ro e H (.pr p xs) = (prV p (xs.map (ev e))).bind fun v => some (v, H) := rfl
@[simp] theorem doIns_mx {x : Opd} {r : List Opd} : doIns cf ro e H (.mx (x :: r)) = (mxF (ev e x) (r.map (ev e))).bind fun v => some (v, H) := rfl
@[simp] theorem doIns_mn {x : Opd} {r : List Opd} : doIns cf ro e H (.mn (x :: r)) = (mnF (ev e x) (r.map (ev e))).bind fun v => some (v, H) := rfl
@[simp] theorem mxF_nil {x : IV} : mxF x [] = some x := by cases x <;> rfl
@[simp] theorem mnF_nil {x : IV} : mnF x [] = some x := by cases x <;> rfl
@[simp] theorem mxF_cons {k k' : IntKind} {x y : Int} {r : List IV} : mxF (.int k x) (.int k' y :: r) = mxF (.int k (max x y)) r := by
  simp only [mxF]; congr 2; split <;> omega
@[simp] theorem mnF_cons {k k' : IntKind} {x y : Int} {r : List IV} : mnF (.int k x) (.int k' y :: r) = mnF (.int k (min x y)) r := by
  simp only [mnF]; congr 2; split <;> omega
theorem mod64_nonneg (x : Int) : 0 ≤ x % 18446744073709551616 := by omega
attribute [simp] mod64_nonneg
@[simp] theorem lenV_nsl : lenV false .nsl = some 0 := rfl
@[simp] theorem lenV_imm {r : List (List IV)} {f : Bool} : lenV false (.imm r f) = some r.length := rfl
@[simp] theorem lenV_arr {b g o l c : Nat} {x : Bool} : lenV false (.arr b g o l c x) = some l := rfl
@[simp] theorem lenV_str {s : ByteArray} : lenV true (.str s) = some s.size := rfl

@[simp] theorem prV_ixb {s : ByteArray} {c : Int} : prV .ixb [.str s, .int .u8 c] = some (.int .i64 (ixB s c)) := rfl
@[simp] theorem prV_cmps {a b : ByteArray} : prV .cmps [.str a, .str b] = some (.int .i64 (Extern.BytealgCompare.cmp a b)) := rfl
@[simp] theorem prV_add64 {x y c : Int} : prV .add64 [.int .u64 x, .int .u64 y, .int .u64 c] = if 0 ≤ x ∧ 0 ≤ y ∧ 0 ≤ c ∧ c ≤ 1 then some (.tup [.int .u64 ((x + y + c) % 18446744073709551616), .int .u64 ((x + y + c) / 18446744073709551616)]) else none := rfl

/-! memory -/
@[simp] theorem rd_ptr {n b g i j : Nat} : rd H n (.ptr b g i j) = (H[b]?).bind fun B => if B.gen = g then (B.rows[i]?).bind fun row => sub row j n else none := by
  simp only [rd, blkAt]
  cases H[b]? with
  | none => rfl
  | some B => by_cases h : B.gen = g <;> simp [h]
@[simp] theorem rd_eptr {n i j : Nat} {rows : List (List IV)} : rd H n (.eptr rows i j) = (rows[i]?).bind fun row => sub row j n := rfl
@[simp] theorem wr_ptr {b g i j : Nat} {cs : List IV} : wr ro H cs (.ptr b g i j) = if ro ≤ b then (H[b]?).bind fun B => if B.gen = g then if B.frz = true then none else (B.rows[i]?).bind fun row => if j + cs.length ≤ row.length then some (H.set b { rows := B.rows.set i (over row j cs), gen := B.gen }) else none else none else none := by
  simp only [wr, wbl, blkAt]
  split
  · cases H[b]? with
    | none => rfl
    | some B => by_cases h : B.gen = g <;> by_cases h2 : B.frz = true <;> simp [h, h2]
  · rfl
@[simp] theorem idx_imm {sz : Nat} {rows : List (List IV)} {full : Bool} {i : Int} : idx H sz (.imm rows full) i = if 0 ≤ i ∧ i < rows.length ∧ szOk sz rows = true then some (.eptr rows i.toNat 0) else none := rfl
@[simp] theorem idx_arr {sz b g off len cap : Nat} {ex : Bool} {i : Int} : idx H sz (.arr b g off len cap ex) i = (H[b]?).bind fun B => if B.gen = g then if 0 ≤ i ∧ i < len ∧ szOk sz B.rows = true ∧ off + len ≤ B.rows.length then some (.ptr b g (off + i.toNat) 0) else none else none := by
  simp only [idx, blkAt]
  cases H[b]? with
  | none => rfl
  | some B => by_cases h : B.gen = g <;> simp [h]
@[simp] theorem le_len_add {k : Nat} (h : ro ≤ H.length) : ro ≤ H.length + k := by omega
theorem appn_at0 {α : Type} {L Y : List α} {n : Nat} (h : L.length = n) : (L ++ Y)[n]? = Y[0]? := by subst h; rw [List.getElem?_append_right (Nat.le_refl _), Nat.sub_self]
theorem appn_at {α : Type} {L Y : List α} {n k : Nat} (h : L.length = n) : (L ++ Y)[n + k]? = Y[k]? := by subst h; rw [List.getElem?_append_right (by omega)]; congr 1; omega
theorem appn_set0 {α : Type} {L Y : List α} {B : α} {n : Nat} (h : L.length = n) : (L ++ Y).set n B = L ++ Y.set 0 B := by subst h; rw [List.set_append_right _ _ (Nat.le_refl _), Nat.sub_self]
theorem appn_set {α : Type} {L Y : List α} {B : α} {n k : Nat} (h : L.length = n) : (L ++ Y).set (n + k) B = L ++ Y.set k B := by subst h; rw [List.set_append_right _ _ (by omega)]; congr 2; omega
attribute [simp] appn_at0 appn_at appn_set0 appn_set

/-! slices -/
@[simp] theorem rowsOf_nsl : rowsOf H .nsl = some [] := rfl
@[simp] theorem rowsOf_imm {rows : List (List IV)} {f : Bool} : rowsOf H (.imm rows f) = some rows := rfl
@[simp] theorem rowsOf_arr {b g off len cap : Nat} {ex : Bool} : rowsOf H (.arr b g off len cap ex) = (H[b]?).bind fun B => if B.gen = g then if off + len ≤ B.rows.length then some ((B.rows.drop off).take len) else none else none := by
  simp only [rowsOf, blkAt]
  cases H[b]? with
  | none => rfl
  | some B => by_cases h : B.gen = g <;> simp [h]

theorem blkAt_eq {b g : Nat} : blkAt H b g = (H[b]?).bind fun B => if B.gen = g then some B else none := by
  simp only [blkAt]; cases H[b]? <;> rfl
@[simp] theorem slSl_nsl {sz l : Nat} {h m : Option Nat} : slSl H sz .nsl l h m = if l = 0 ∧ h.getD 0 = 0 ∧ m.getD 0 = 0 then some .nsl else none := rfl
@[simp] theorem slSl_imm {sz l : Nat} {h m : Option Nat} {rows : List (List IV)} {full : Bool} : slSl H sz (.imm rows full) l h m =
    if l ≤ h.getD rows.length ∧ h.getD rows.length ≤ m.getD rows.length ∧ m.getD rows.length ≤ rows.length ∧ szOk sz rows = true then
      some (.imm ((rows.drop l).take (h.getD rows.length - l)) (if m.isSome = true then m.getD 0 == h.getD rows.length else full && h.getD rows.length == rows.length)) else none := rfl
@[simp] theorem slSl_arr {sz l b g off len cap : Nat} {ex : Bool} {h m : Option Nat} : slSl H sz (.arr b g off len cap ex) l h m = (H[b]?).bind fun B => if B.gen = g then
    if l ≤ h.getD len ∧ h.getD len ≤ m.getD cap ∧ m.getD cap ≤ cap ∧ off + h.getD len ≤ B.rows.length ∧ szOk sz B.rows = true then some (.arr b g (off + l) (h.getD len - l) (m.getD cap - l) (m.isSome || ex)) else none else none := by
  simp only [slSl, blkAt_eq]
  cases H[b]? with
  | none => rfl
  | some B => by_cases hg : B.gen = g <;> simp [hg]

theorem app_nsl {sz bytes : Nat} {y : IV} {ys : List (List IV)} (hy : rowsOf H y = some ys) (hs : szOk sz ys = true) (h0 : ys.length ≠ 0) (hr : ys.length * bytes ≤ room) :
    appV ro H sz bytes .nsl y = some (.arr H.length 0 0 ys.length ys.length false, H ++ [{ rows := ys }]) := by
  have h3 : ys ≠ [] := by intro h; simp [h] at h0
  simp [appV, hy, hs, h3, newArr, hr]
theorem app_none {sz bytes : Nat} {x y : IV} (hx : x = .nsl ∨ ∃ rows f, x = .imm rows f) (hy : rowsOf H y = some []) : appV ro H sz bytes x y = some (x, H) := by
  rcases hx with rfl | ⟨rows, f, rfl⟩ <;> simp [appV, hy, szOk]
theorem app_grow {sz bytes b g off len : Nat} {y : IV} {ys : List (List IV)} {B : Bk} (hy : rowsOf H y = some ys) (hs : szOk sz ys = true) (h0 : ys.length ≠ 0) (hB : H[b]? = some B) (hg : B.gen = g) (hf : B.frz = false) (hsB : szOk sz B.rows = true)
    (hl : off + len ≤ B.rows.length) (hro : ro ≤ b) (hp : 0 < B.rows.length) (hr : (len + ys.length) * bytes ≤ room) :
    appV ro H sz bytes (.arr b g off len len false) y = some (.arr b (g + 1) 0 (len + ys.length) (len + ys.length) false, H.set b { rows := (B.rows.drop off).take len ++ ys, gen := g + 1 }) := by
  have h1 : ¬ B.rows.length < off + len := by omega
  have h2 : ¬ len + ys.length ≤ len := by omega
  have h3 : ys ≠ [] := by intro h; simp [h] at h0
  simp [appV, hy, hs, h3, blkAt, hB, hg, hsB, h1, h2, hro, hf, hp, hr]
theorem szOk_cons {sz : Nat} {r : List IV} {rs : List (List IV)} (h : r.length = sz) : szOk sz (r :: rs) = true := by simp [szOk, h]
@[simp] theorem szOk_c {sz : Nat} {r : List IV} {rs : List (List IV)} : szOk sz (r :: rs) = (r.length == sz) := rfl
@[simp] theorem szOk_nil {sz : Nat} : szOk sz [] = true := rfl
theorem szOk_all {sz : Nat} {rs : List (List IV)} (h : ∀ r ∈ rs, r.length = sz) : szOk sz rs = true := by
  cases rs with
  | nil => rfl
  | cons r rs => exact szOk_cons (h r (List.mem_cons_self ..))

/-! calls -/
@[simp] theorem doCall0 {cf : CallF} {f : Nat} {caps args : List IV} : doCall cf ro 0 (.fn f caps) args H = cf ro f (args ++ caps) H := rfl

/-- A value that names no block, of such a depth. -/
def plainD : Nat → IV → Bool
  | 0, _ => false
  | k + 1, v => match v with
    | .ptr _ _ _ _ => false
    | .arr _ _ _ _ _ _ => false
    | .agg cs => cs.all (plainD k)
    | .tup cs => cs.all (plainD k)
    | .fn _ cs => cs.all (plainD k)
    | .ifc _ x => plainD k x
    | _ => true

theorem mapO_id {α : Type} {f : α → Option α} : ∀ {l : List α}, (∀ x ∈ l, f x = some x) → mapO f l = some l
  | [], _ => rfl
  | x :: l, h => by
    simp only [mapO, h x (List.mem_cons_self ..), Option.bind_some, mapO_id fun y hy => h y (List.mem_cons_of_mem _ hy)]

theorem frz0_plain : ∀ (k : Nat) (H : Hp) (v : IV), plainD k v = true → frz0 k H v = some v
  | 0, _, _, h => by simp [plainD] at h
  | k + 1, H, v, h => by
    cases v <;> simp only [plainD, Bool.false_eq_true, List.all_eq_true] at h <;> simp only [frz0]
    case agg cs => rw [mapO_id fun x hx => frz0_plain k H x (h x hx)]; rfl
    case tup cs => rw [mapO_id fun x hx => frz0_plain k H x (h x hx)]; rfl
    case fn f cs => rw [mapO_id fun x hx => frz0_plain k H x (h x hx)]; rfl
    case ifc t x => rw [frz0_plain k H x h]; rfl

theorem frz_plain : ∀ (k : Nat) (H : Hp) (m : Nat) (v : IV), plainD k v = true → frz k H m v = some v
  | 0, _, _, _, h => by simp [plainD] at h
  | k + 1, H, m, v, h => by
    cases v <;> simp only [plainD, Bool.false_eq_true, List.all_eq_true] at h <;> simp only [frz]
    case agg cs => rw [mapO_id fun x hx => frz_plain k H m x (h x hx)]; rfl
    case tup cs => rw [mapO_id fun x hx => frz_plain k H m x (h x hx)]; rfl
    case fn f cs => rw [mapO_id fun x hx => frz_plain k H m x (h x hx)]; rfl
    case ifc t x => rw [frz_plain k H m x h]; rfl

theorem flatMap_nil {α β : Type} {f : α → List β} : ∀ {l : List α}, (∀ x ∈ l, f x = []) → l.flatMap f = []
  | [], _ => rfl
  | x :: l, h => by rw [List.flatMap_cons, h x (List.mem_cons_self ..), flatMap_nil fun y hy => h y (List.mem_cons_of_mem _ hy)]; rfl

theorem blks_plain : ∀ (k j : Nat) (H : Hp) (v : IV), plainD j v = true → blks k H v = []
  | 0, _, _, _, _ => rfl
  | k + 1, 0, H, v, h => by simp [plainD] at h
  | k + 1, j + 1, H, v, h => by
    cases v <;> simp only [plainD, Bool.false_eq_true, List.all_eq_true] at h <;> simp only [blks]
    case agg cs => exact flatMap_nil fun x hx => blks_plain k j H x (h x hx)
    case tup cs => exact flatMap_nil fun x hx => blks_plain k j H x (h x hx)
    case fn f cs => exact flatMap_nil fun x hx => blks_plain k j H x (h x hx)
    case ifc t x => exact blks_plain k j H x h

theorem frzArg_plain {v : IV} (h : plainD frzD v = true) : frzArg H v = v := by
  unfold frzArg; rw [frz0_plain _ _ _ h]; rfl
@[simp] theorem frzArg_ptr {b g i j : Nat} : frzArg H (.ptr b g i j) = .ptr b g i j := rfl
@[simp] theorem frzArg_bool {b : Bool} : frzArg H (.bool b) = .bool b := rfl
@[simp] theorem frzArg_int {k : IntKind} {n : Int} : frzArg H (.int k n) = .int k n := rfl
@[simp] theorem frzArg_str {s : ByteArray} : frzArg H (.str s) = .str s := rfl
@[simp] theorem frzArg_imm {r : List (List IV)} {f : Bool} : frzArg H (.imm r f) = .imm r f := rfl
@[simp] theorem frzArg_nsl : frzArg H .nsl = .nsl := rfl
@[simp] theorem frzArg_nptr : frzArg H .nptr = .nptr := rfl

/-- A call that tells a plain value. -/
theorem call2 {f : Nat} {caps args args' : List IV} {x : IV} {H2 : Hp} (ha : (args ++ caps).map (frzArg H) = args') (h : callW pg H.length f args' H = some (x, H2)) (hx : plainD frzD x = true) (hfl : flatV x = true ∨ (args ++ caps).flatMap (blks frzD H) = []) :
    doCall (callW pg) ro 2 (.fn f caps) args H = some (x, H) := by
  simp only [doCall, callP, ha, h, Option.bind_some, frz_plain _ _ _ _ hx]
  rcases hfl with h1 | h1
  · simp [h1]
  · simp [h1]

/-- The same, of plain arguments and a flat value. -/
theorem call2p {f : Nat} {args : List IV} {x : IV} {H2 : Hp} (h : callW pg H.length f args H = some (x, H2)) (ha : args.all (plainD frzD) = true) (hx : plainD frzD x = true) :
    doCall (callW pg) ro 2 (.fn f []) args H = some (x, H) := by
  rw [List.all_eq_true] at ha
  refine call2 (H2 := H2) (args' := args) ?_ h hx (.inr ?_)
  · rw [List.append_nil]
    have : ∀ {l : List IV}, (∀ x ∈ l, plainD frzD x = true) → l.map (frzArg H) = l := by
      intro l
      induction l with
      | nil => intro _; rfl
      | cons y l ih => intro hl; rw [List.map_cons, frzArg_plain (hl y (List.mem_cons_self ..)), ih fun z hz => hl z (List.mem_cons_of_mem _ hz)]
    exact this ha
  · rw [List.append_nil]
    exact flatMap_nil fun y hy => blks_plain _ _ _ _ (ha y hy)

end

theorem list_map_one (f : IV → IV) (x : IV) : [x].map f = [f x] := rfl

end Go.Vs
/- A law's call: from the ideal machine to the row. -/
namespace Go.Vs
open Go Go.RowKit

theorem prOk (P : Program) : PrOk P := by
  refine ⟨fun f fn p hf hn ho hb => ?_⟩
  have h2 : Extern.allNextRows.lookup "" = none := by kernel_rfl
  rcases prOf_name hn with ⟨rfl, hm⟩ | ⟨rfl, hm⟩ | ⟨rfl, hm⟩ | ⟨rfl, hm⟩
  · have h1 : Extern.allNextRows.lookup "math/bits.Add64" = none := by kernel_rfl
    have h3 : Extern.allGenericRows.lookup "math/bits.Add64" = none := by kernel_rfl
    have h4 : Extern.allTypedRows.lookup "math/bits.Add64" = none := by kernel_rfl
    have h5 : Extern.allRows.lookup "math/bits.Add64" = some add64Entry := by kernel_rfl
    constructor
    · simp only [Extern.findNext, hm, ho, h1, h2]; rfl
    · simp only [Extern.find, hm, h3, h4, h5]; rfl
  · have h1 : Extern.allNextRows.lookup "internal/bytealg.IndexByteString" = none := by kernel_rfl
    have h3 : Extern.allGenericRows.lookup "internal/bytealg.IndexByteString" = none := by kernel_rfl
    have h4 : Extern.allTypedRows.lookup "internal/bytealg.IndexByteString" = none := by kernel_rfl
    have h5 : Extern.allRows.lookup "internal/bytealg.IndexByteString" = some Extern.BytealgIndexByte.indexByte := by kernel_rfl
    constructor
    · simp only [Extern.findNext, hm, ho, h1, h2]; rfl
    · simp only [Extern.find, hm, h3, h4, h5]; rfl
  · have h1 : Extern.allNextRows.lookup "internal/bytealg.abigen_runtime_cmpstring" = none := by kernel_rfl
    have h3 : Extern.allGenericRows.lookup "internal/bytealg.abigen_runtime_cmpstring" = none := by kernel_rfl
    have h4 : Extern.allTypedRows.lookup "internal/bytealg.abigen_runtime_cmpstring" = none := by kernel_rfl
    have h5 : Extern.allRows.lookup "internal/bytealg.abigen_runtime_cmpstring" = some Extern.BytealgCompare.compare := by kernel_rfl
    constructor
    · simp only [Extern.findNext, hm, ho, h1, h2]; rfl
    · simp only [Extern.find, hm, h3, h4, h5]; rfl
  · have h1 : Extern.allNextRows.lookup "internal/abi.NoEscape" = none := by kernel_rfl
    have h3 : Extern.allGenericRows.lookup "internal/abi.NoEscape" = none := by kernel_rfl
    have h4 : Extern.allTypedRows.lookup "internal/abi.NoEscape" = none := by kernel_rfl
    have h5 : Extern.allRows.lookup "internal/abi.NoEscape" = some Extern.AbiNoEscape.same := by kernel_rfl
    constructor
    · simp only [Extern.findNext, hm, ho, h1, h2]; rfl
    · simp only [Extern.find, hm, h3, h4, h5]; rfl

/-- Before a law's call: no blocks; each cell is claimed. -/
def K0 (W : World) : Kp := ⟨fun _ => none, fun b i => (W.cell? (ad b i)).bind fun v => if v.oneCell' = true then some v else none⟩

theorem K0_at {W : World} {b i : Nat} {v : Value} (h : W.cell? (ad b i) = some v) (h1 : v.oneCell' = true) : (K0 W).κ b i = some v := by
  simp [K0, h, h1]

theorem K0_rel (W : World) : Rel (K0 W) 0 [] W := by
  refine ⟨fun b L h => (by cases h), fun b b' L L' h => (by cases h), fun b i v h => ?_, fun b L B h => (by cases h), Nat.le_refl _⟩
  simp only [K0, Option.bind_eq_some_iff] at h
  obtain ⟨u, hu, h⟩ := h
  split at h
  · cases h; exact ⟨hu, by assumption⟩
  · cases h

theorem law_calls {P : Program} (hm : P.follows .mixedOrders = true) {pg : Pg} (hpg : PgOk P pg) {f : Nat} {args : List IV} {H' : Hp} (h : callW pg 0 f args [] = some (.bool true, H')) {W : World} {vs : Array Value} (ha : ArgsOk (K0 W) args vs) :
    Calls P f vs W fun e W' => e = .returned (.bool true) ∧ Below W.heap.size W W' := by
  obtain ⟨_, _, hc⟩ := callW_ok hm (prOk P) hpg _ _ _ _ _ _ h
  refine Calls.mono (hc (K0 W) W vs (K0_rel W) ha) fun e W' he => ?_
  obtain ⟨v, rfl, K', _, _, hv, hF⟩ := he
  have e := hv.bool_inv
  subst e
  exact ⟨rfl, ⟨hF.bel.os, hF.bel.tape, hF.bel.output, hF.bel.size, fun k hk => hF.keep k hk fun b L _ hL => (by cases hL)⟩⟩

/-- A closed call, worked out. -/
theorem callW_of {pg : Pg} {ro f n : Nat} {args : List IV} {H : Hp} {x : IV} (h : (callN pg n ro f args H).map (·.1) = some x) : ∃ H', callW pg ro f args H = some (x, H') := by
  obtain ⟨⟨y, H'⟩, h1, h2⟩ := Option.map_eq_some_iff.1 h
  cases h2
  exact ⟨H', callW_iff.2 ⟨n, h1⟩⟩

end Go.Vs
