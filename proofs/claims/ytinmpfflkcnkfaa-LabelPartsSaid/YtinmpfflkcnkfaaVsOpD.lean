/- Slices cut, bytes to text, the greatest and the least: their simulation. -/
import Derived.Test.YtinmpfflkcnkfaaVsOpC
namespace Go.Vs
open Go Go.RowKit

variable {P : Program} {K : Kp} {e : Env} {a : Act} {o : Oper} {w : World}

theorem sim_slst (he : EnvOk K e a) {t : TypeId} {x : Operand} {lo hi : Option Operand} {x' : Opd} {lo' hi' : Option Opd} {s : ByteArray} {l h : Nat} {z : IV} (ho : o.op = .slice t x lo hi none) (ht : P.underlying t = some .string) (hx : cOpd x = some x') (hlo : cOpt lo = some lo') (hhi : cOpt hi = some hi')
    (hs : ev e x' = .str s) (hl : optB e 0 lo' = some l) (hh : optB e s.size hi' = some h) (hz : slStr s l h = some z) : Gives P a o w K z := by
  unfold slStr at hz
  split at hz
  · rename_i hc
    simp at hz; subst hz
    have h1 := he.ev hx
    rw [hs] at h1
    refine gives_of (s := Instr.sliceAt t (a.eval x) (lo.map a.eval) (hi.map a.eval) none) (fun w' => by simp [execOp, ho]) ⟨_, ?_, .str _ _⟩
    rw [h1.str_inv]
    have b1 : BndOk P w a lo 0 l h := optB_run he hlo hl hc.1
    have b2 : BndOk P w a hi s.size h s.size := optB_run he hhi hh hc.2
    have ex : ByteArray.extract s 0 s.size = s := by
      apply ByteArray.ext
      simp
    rcases b1 with ⟨rfl, rfl⟩ | ⟨z1, rfl, b1⟩ <;> rcases b2 with ⟨rfl, rfl⟩ | ⟨z2, rfl, b2⟩ <;>
      simp [Instr.sliceAt, run_underlying ht, Instr.slice, Instr.sliceBounds, *]
  · cases hz

theorem extract_rows {α : Type} (l : List α) (i h : Nat) : ∀ r, r < h - i → ((l.drop i).take (h - i))[r]? = l[i + r]? := by
  intro r hr
  rw [List.getElem?_take, if_pos hr, List.getElem?_drop]

theorem Claimed.sub {rows : List (List IV)} {b q sz : Nat} {us : Nat → Nat → Value} (hc : Claimed K rows b q sz us) (l h : Nat) : Claimed K ((rows.drop l).take (h - l)) b (q + l * sz) sz (fun r c => us (l + r) c) := by
  have key : ∀ (r : Nat) (row : List IV), ((rows.drop l).take (h - l))[r]? = some row → rows[l + r]? = some row := by
    intro r row hr
    rw [← hr, List.getElem?_take]
    split
    · rw [List.getElem?_drop]
    · rename_i hn; rw [List.getElem?_take, if_neg hn] at hr; cases hr
  refine ⟨fun r row hr => hc.len _ row (key r row hr), fun r row c hr hcs => ?_, fun r row c x hr hx => hc.val _ row c x (key r row hr) hx⟩
  rw [show q + l * sz + r * sz + c = q + (l + r) * sz + c by rw [Nat.add_mul]; omega]
  exact hc.cl _ row c (key r row hr) hcs

theorem run_sliceAt {t u : TypeId} (ht : P.underlying t = some (.slice u)) (x : Value) (lo hi mx : Option Value) : (Instr.sliceAt t x lo hi mx).run P w = (Instr.slice t x lo hi mx).run P w := by
  simp [Instr.sliceAt, run_underlying ht]

/-- The slice of a slice, its bounds known. -/
theorem run_slice {t u : TypeId} {n : Nat} (ht : P.underlying t = some (.slice u)) (hs : szT P u = some n) {lo hi mx : Option Operand} (hm : mx.isSome = true → hi.isSome = true) {A : Option Addr} {len cap l h m : Nat}
    (b3 : BndOk P w a mx cap m cap) (b2 : BndOk P w a hi len h m) (b1 : BndOk P w a lo 0 l h) :
    (Instr.sliceAt t (.slice A len cap) (lo.map a.eval) (hi.map a.eval) (mx.map a.eval)).run P w = .ok (.slice (if m = l then A else A.map (·.add (l * n))) (h - l) (m - l)) w := by
  rw [run_sliceAt ht]
  rcases b3 with ⟨rfl, rfl⟩ | ⟨z3, rfl, b3⟩
  · rcases b2 with ⟨rfl, rfl⟩ | ⟨z2, rfl, b2⟩ <;> rcases b1 with ⟨rfl, rfl⟩ | ⟨z1, rfl, b1⟩ <;>
      simp [run_underlying ht, Instr.slice, Instr.sliceBounds, run_sizeOf' hs, *]
  · rcases b2 with ⟨rfl, rfl⟩ | ⟨z2, rfl, b2⟩
    · simp at hm
    · rcases b1 with ⟨rfl, rfl⟩ | ⟨z1, rfl, b1⟩ <;>
        simp [run_underlying ht, Instr.slice, Instr.sliceBounds, run_sizeOf' hs, *]

theorem sim_slsl {ro : Nat} {H : Hp} (hR : Rel K ro H w) (he : EnvOk K e a) {t u : TypeId} {n : Nat} {x : Operand} {lo hi mx : Option Operand} {x' : Opd} {lo' hi' mx' : Option Opd} {l h m : Nat} {z : IV} (ho : o.op = .slice t x lo hi mx) (ht : P.underlying t = some (.slice u)) (hs : szT P u = some n) (hm : mx.isSome = true → hi.isSome = true)
    (hx : cOpd x = some x') (hlo : cOpt lo = some lo') (hhi : cOpt hi = some hi') (hmx : cOpt mx = some mx') (hl : optB e 0 lo' = some l) (hh : optB e 0 hi' = some h) (hmm : optB e 0 mx' = some m)
    (hz : slSl H n (ev e x') l (hi'.map fun _ => h) (mx'.map fun _ => m) = some z) : Gives P a o w K z := by
  have h1 := he.ev hx
  have isS : ∀ {y : Option Operand} {y' : Option Opd}, cOpt y = some y' → y.isSome = y'.isSome := by
    intro y y' h; cases y <;> simp [cOpt] at h
    · subst h; rfl
    · obtain ⟨_, _, rfl⟩ := h; rfl
  have shift : ∀ {y : Option Operand} {y' : Option Opd} {q d c : Nat}, cOpt y = some y' → optB e 0 y' = some q → (y'.map fun _ => q).getD d ≤ c → BndOk P w a y d ((y'.map fun _ => q).getD d) c := by
    intro y y' q d c h1 h2 h3
    cases y' with
    | none => have := isS h1; cases y <;> simp at this; exact .inl ⟨rfl, rfl⟩
    | some y'' =>
      simp at h3 ⊢
      have : optB e d (some y'') = some q := h2
      exact optB_run he h1 this h3
  refine gives_of (s := Instr.sliceAt t (a.eval x) (lo.map a.eval) (hi.map a.eval) (mx.map a.eval)) (fun w' => by simp [execOp, ho]) ?_
  revert hz
  generalize ev e x' = X at h1
  intro hz
  have bl : ∀ c, l ≤ c → BndOk P w a lo 0 l c := fun c hc => optB_run he hlo hl hc
  cases X <;> simp only [slSl, reduceCtorEq] at hz
  case nsl =>
    split at hz
    · rename_i hc
      simp at hz; subst hz
      rw [h1.nsl_inv]
      obtain ⟨h0, hh0, hm0⟩ := hc
      have b3 := shift hmx hmm (d := 0) (c := 0) (by omega)
      have b2 := shift hhi hh (d := 0) (c := (mx'.map fun _ => m).getD 0) (by omega)
      have := run_slice ht hs hm (A := none) b3 b2 (bl _ (by omega))
      refine ⟨_, this, ?_⟩
      rw [hh0, hm0, h0]
      simp
      exact .nsl _
    · cases hz
  case imm rows full =>
    split at hz
    · rename_i hc
      simp at hz; subst hz
      obtain ⟨hlh, hhm, hmr, hsz⟩ := hc
      obtain ⟨A, cap, b, q, sz, us, hv, hA, hcap, hf, hcl⟩ := h1.imm_inv
      rw [hv]
      have hmle : (mx'.map fun _ => m).getD rows.length ≤ (mx'.map fun _ => m).getD cap := by cases mx' <;> simp [hcap]
      have hmc : (mx'.map fun _ => m).getD cap ≤ cap := by cases mx' with
        | none => simp
        | some _ => simp at hmr ⊢; omega
      have b3 := shift hmx hmm (d := cap) (c := cap) hmc
      have b2 := shift hhi hh (d := rows.length) (c := (mx'.map fun _ => m).getD cap) (by omega)
      have := run_slice ht hs hm (A := some A) b3 b2 (bl _ hlh)
      refine ⟨_, this, ?_⟩
      generalize hH : (hi'.map fun _ => h).getD rows.length = HH at *
      generalize hM : (mx'.map fun _ => m).getD cap = MM at *
      have hA' : (if MM = l then some A else (some A).map (·.add (l * n))) = some (if MM = l then A else A.add (l * n)) := by split <;> rfl
      rw [hA']
      refine .imm _ _ _ _ _ _ b (q + l * sz) sz (fun r c => us (l + r) c) ?_ ?_ ?_ ?_ (hcl.sub l HH).len (hcl.sub l HH).cl (hcl.sub l HH).val
      · simp; omega
      · intro hne
        have hlt : l < HH ∧ l < rows.length := by
          constructor
          · rcases Nat.lt_or_ge l HH with h | h
            · exact h
            · exfalso; apply hne; simp [show HH - l = 0 by omega]
          · rcases Nat.lt_or_ge l rows.length with h | h
            · exact h
            · exfalso; apply hne; simp [List.drop_eq_nil_of_le h]
        have hne' : rows ≠ [] := by rintro rfl; simp at hlt
        rw [if_neg (by omega), hA hne', ad_add, szOk_len hsz hcl.len hne']
      · simp; omega
      · intro hfull
        cases mx' with
        | none =>
          simp at hfull hM
          have := hf hfull.1
          simp; omega
        | some y =>
          simp at hfull hM
          simp; omega
    · cases hz
  case arr b g off len cap ex =>
    simp only [Option.bind_eq_some_iff] at hz
    obtain ⟨B, hB, hz⟩ := hz
    split at hz
    · rename_i hc
      simp at hz; subst hz
      obtain ⟨hlh, hhm, hmc, hle, hsz⟩ := hc
      obtain ⟨hB, hgen⟩ := blkAt_some hB
      obtain ⟨L, hL, hgL, hcur, _⟩ := h1.arr_inv
      obtain ⟨B', hB', ok⟩ := hR.blk b L hL
      obtain rfl : B = B' := by rw [hB] at hB'; exact Option.some.inj hB'
      obtain ⟨A, cap', hv, hA, hcc, hlc, hex, hext⟩ := hcur (by rw [← ok.gen]; exact hgen)
      rw [hv]
      have hmle : (mx'.map fun _ => m).getD cap ≤ (mx'.map fun _ => m).getD cap' := by cases mx' <;> simp [hcc]
      have hmc' : (mx'.map fun _ => m).getD cap' ≤ cap' := by cases mx' with
        | none => simp
        | some _ => simp at hmc ⊢; omega
      have b3 := shift hmx hmm (d := cap') (c := cap') hmc'
      have b2 := shift hhi hh (d := len) (c := (mx'.map fun _ => m).getD cap') (by omega)
      have := run_slice ht hs hm (A := some A) b3 b2 (bl _ hlh)
      refine ⟨_, this, ?_⟩
      generalize hH : (hi'.map fun _ => h).getD len = HH at *
      generalize hM : (mx'.map fun _ => m).getD cap' = MM at *
      generalize hM' : (mx'.map fun _ => m).getD cap = MM' at *
      have hA' : (if MM = l then some A else (some A).map (·.add (l * n))) = some (if MM = l then A else A.add (l * n)) := by split <;> rfl
      rw [hA']
      refine .arr _ _ _ _ _ _ _ _ L hL hgL (fun _ => ⟨_, _, rfl, fun hpos => ?_, by omega, by omega, fun hx => ?_, ?_⟩) ⟨_, _, rfl⟩
      · rw [if_neg (by omega), hA (by omega), ad_add]
        rcases Nat.eq_zero_or_pos l with h0 | h0
        · subst h0; simp
        · have hne : B.rows ≠ [] := by
            intro h; simp [h] at hle; omega
          rw [szOk_len hsz ok.len hne, Nat.add_mul, Nat.add_assoc]
      · cases mx' with
        | none => simp at hx hM hM'; have := hex hx; omega
        | some y => simp at hM hM'; omega
      · refine Nat.le_trans (Nat.mul_le_mul_right _ ?_) hext
        omega
    · cases hz

end Go.Vs
