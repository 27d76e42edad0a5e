/- make, the room of a slice: their simulation. -/
import Derived.Test.YtinmpfflkcnkfaaVsOpJ
namespace Go.Vs
open Go Go.RowKit

variable {P : Program} {K : Kp} {e : Env} {a : Act} {o : Oper} {w : World}

theorem wrap_nat {n : Int} (h0 : 0 ≤ n) (h : n ≤ 9223372036854775807) : IntKind.i64.wrap n = n := by
  simp only [IntKind.wrap, IntKind.bits, IntKind.signed]
  have : n % 2 ^ 64 = n := Int.emod_eq_of_lt h0 (by omega)
  simp
  omega

theorem asNat_some {x : IV} {n : Nat} (h : asNat x = some n) : ∃ k, x = .int k n := by
  cases x <;> simp only [asNat, reduceCtorEq] at h
  split at h
  · simp at h; subst h
    exact ⟨_, by congr 1; omega⟩
  · cases h

theorem sim_mksl (he : EnvOk K e a) {t u : TypeId} {sz bytes n c : Nat} {x y : Operand} {x' y' : Opd} {z : List IV} (hl : Nat) (ho : o.op = .makeSlice t x y) (ht : P.underlying t = some (.slice u)) (hs : szT P u = some sz) (hb : byT P u = some bytes) (hz : zT P u = some z) (hx : cOpd x = some x') (hy : cOpd y = some y')
    (hn : asNat (ev e x') = some n) (hc : asNat (ev e y') = some c) (hle : n ≤ c) (hroom : c * bytes ≤ room) (hzl : z.length = sz) (hsp : 0 < sz) (hbp : 0 < bytes) : Makes P a o w K hl (.arr hl 0 0 n c true) (List.replicate c z) := by
  obtain ⟨v, hrun, hsz, h1, hv⟩ := zT_some (K := K) hz
  have hz0 := zeros_at (K := K) c (by omega) hsz h1 hv
  rw [hzl] at hz0
  obtain ⟨k1, e1⟩ := asNat_some hn
  obtain ⟨k2, e2⟩ := asNat_some hc
  have hx1 := he.ev hx
  have hy1 := he.ev hy
  rw [e1] at hx1; rw [e2] at hy1
  obtain ⟨i, hi, hib⟩ : ∃ i, P.info? u = some i ∧ i.bytes = bytes := by
    unfold byT at hb
    cases h : P.info? u with
    | none => simp [h] at hb
    | some i => simp [h] at hb; exact ⟨i, rfl, hb⟩
  have hc47 : c ≤ 2 ^ 47 := by
    have : c * 1 ≤ c * bytes := Nat.mul_le_mul_left _ hbp
    simp only [room] at hroom; omega
  have w1 : IntKind.i64.wrap (n : Int) = n := wrap_nat (by omega) (by omega)
  have w2 : IntKind.i64.wrap (c : Int) = c := wrap_nat (by omega) (by omega)
  have hbc : ¬ ((i.bytes : Int) * (c : Int) > 2 ^ 48) := by
    rw [hib, ← Int.natCast_mul, Nat.mul_comm]
    simp only [room] at hroom; omega
  refine ⟨.slice (some ⟨w.heap.size, 0, none⟩) n c, _, u, sz, ?_, hz0.len, by rw [hz0.size]; exact Nat.le_refl _, hz0.one, hz0.val, fun K' h => ?_⟩
  · by_cases hc0 : c = 0
    · subst hc0
      have hn0 : n = 0 := by omega
      subst hn0
      have e0 : Array.range 0 = #[] := rfl
      simp at w1
      simp [execOp, ho, Instr.makeSlice, run_underlying ht, hx1.int_inv, hy1.int_inv, asInt, asIntOf, typeInfo, hi, w1, run_sizeOf' hs, newRow_run, e0]
    · have hne : ¬ c * sz = 0 := by
        intro h; rcases Nat.mul_eq_zero.1 h with h | h <;> omega
      have h2 : ¬ ((c : Int) < 0) := by omega
      have h3 : ¬ ((n : Int) < 0) := by omega
      have h4 : ¬ ((n : Int) > (c : Int)) := by omega
      simp only [execOp, ho, Instr.makeSlice, Sem.run_bind, run_underlying ht, Result.andThen_ok, hx1.int_inv, hy1.int_inv, asInt, asIntOf, Sem.run_pure, typeInfo, run_program, hi, w1, w2, h2, h3, h4, hbc, decide_false, Bool.or_self, Bool.false_eq_true, if_false, run_askRoom, Int.toNat_natCast, run_sizeOf' hs, hne, hrun, newRow_run]
  · refine .arr _ _ _ _ _ _ _ _ _ h (Nat.zero_le _) (fun _ => ⟨_, c, rfl, fun _ => by simp [ad], Nat.le_refl _, hle, fun _ => rfl, ?_⟩) ⟨_, _, rfl⟩
    rw [Nat.zero_add, hz0.size, List.length_replicate]
    exact Nat.le_refl _

theorem sim_capo {ro : Nat} {H : Hp} (hR : Rel K ro H w) (he : EnvOk K e a) {t u : TypeId} {x : Operand} {x' : Opd} {ats : Array TypeId} {n : Nat} (hat : ats[0]? = some t) (ht : P.underlying t = some (.slice u)) (hx : cOpd x = some x') (ho : o.op = .call { callee := .builtin .cap, args := #[x], argTypes := ats })
    (hz : ev e x' = .nsl ∧ n = 0 ∨ (∃ rows, ev e x' = .imm rows true ∧ n = rows.length) ∨ ∃ b g off len B, ev e x' = .arr b g off len n true ∧ blkAt H b g = some B) : Gives P a o w K (.int .i64 n) := by
  have h1 := he.ev hx
  refine gives_of (s := Builtin.cap_ ats o.type #[a.eval x]) (fun w' => by simp [execOp, ho, resolve, invoke, builtin]) ⟨_, ?_, .int _ _ _⟩
  rcases hz with ⟨h, rfl⟩ | ⟨rows, h, rfl⟩ | ⟨b, g, off, len, B, h, hB⟩
  · rw [h] at h1
    simp [Builtin.cap_, hat, run_underlying ht, h1.nsl_inv, goInt]
  · rw [h] at h1
    obtain ⟨A, cap, b, q', sz, us, hv, _, _, hf, _⟩ := h1.imm_inv
    simp [Builtin.cap_, hat, run_underlying ht, hv, goInt, hf rfl]
  · rw [h] at h1
    obtain ⟨hB, hgen⟩ := blkAt_some hB
    obtain ⟨L, hL, hgL, hcur, _⟩ := h1.arr_inv
    obtain ⟨B', hB', ok⟩ := hR.blk b L hL
    obtain rfl : B = B' := by rw [hB] at hB'; exact Option.some.inj hB'
    obtain ⟨A, cap', hv, _, _, _, hex, _⟩ := hcur (by rw [← ok.gen]; exact hgen)
    simp [Builtin.cap_, hat, run_underlying ht, hv, goInt, hex rfl]

end Go.Vs
