import Derived.Test.YtnfddeiegbifhaaDoorTu4
import Derived.Test.YtnfddeiegbifhaaDoorVsIns4
/- One set's samples: how many are up to a time, the last one. -/
namespace Go.Proofs.YtnfddeiegbifhaaDoor
open Go Go.Vs
variable {ro : Nat} {H : Hp}

theorem known_c : ∃ H', callW pg 0 6 [] [] = some (.bool true, H') := callW_of (n := 60) (by kernel_rfl)
theorem known_2 : doCall (callW pg) 0 2 (.fn 6 []) [] [] = some (.bool true, []) := by
  obtain ⟨Hk, hkn⟩ := known_c
  exact call2p hkn rfl rfl

def smp (t V : Int) : List IV := [.int .i64 t, .bool false, .int .i64 V]

theorem cl_2 {t V n : Int} (h : t ≤ n) : doCall (callW pg) ro 2 (.fn 55 []) [.agg (smp t V), .int .i64 n] H = some (.int .i64 (-1), H) := by
  have hb : ∃ H', callW pg H.length 55 [.agg (smp t V), .int .i64 n] H = some (.int .i64 (-1), H') := by
    refine ⟨H ++ [{ rows := [smp t V] }], ?_⟩
    rw [callW_eqO (fn := fn55) rfl rfl]
    unfold smp
    simp [-getElem?_pos, fn55, blkAt_eq, h]
  obtain ⟨H', hb⟩ := hb
  exact call2p hb (by simp [smp, plainD, frzD]) rfl

theorem w01 : IntKind.i64.wrap 1 = 1 := by decide
theorem w00 : IntKind.i64.wrap 0 = 0 := by decide
theorem wu1 : IntKind.u64.wrap 1 = 1 := by decide

theorem bs_2 {t V n : Int} {f : Bool} (h : t ≤ n) : doCall (callW pg) ro 2 (.fn 54 []) [.imm [smp t V] f, .int .i64 n, .fn 55 []] H = some (.tup [.int .i64 1, .bool false], H) := by
  have L : ∀ e H ro, runW pg ro fn54L0 e H = seqO pg ro fn54L0 (runW pg ro fn54B0 (keepE [0, 1, 2, 8, 9, 10] e) H) := fun e H ro => runW_loopO
  have hc := fun ro => cl_2 (ro := ro) (H := H) (V := V) h
  have w2 : IntKind.i64.wrap ((0 : Int) + 1) = 1 := by decide
  have hs : binV .shr (.int .u64 1) (.int .u64 1) = some (.int .u64 0) := by rfl
  refine call2 (H2 := H) (args' := [.imm [smp t V] f, .int .i64 n, .fn 55 []]) (by
    have : frzArg H (.imm [smp t V] f) = .imm [smp t V] f := rfl
    simp [this]; rfl) ?_ rfl (.inl rfl)
  rw [callW_eqO (fn := fn54) rfl rfl]
  unfold smp at hc ⊢
  simp [-getElem?_pos, fn54, L, fn54B0, w01, w00, wu1, hs, hc, w2, Vs.idx]

theorem upto_2 {t V n : Int} {f : Bool} (h : t ≤ n) : doCall (callW pg) ro 2 (.fn 30 []) [.imm [smp t V] f, .int .i64 n] H = some (.int .i64 1, H) := by
  have hb := fun ro => bs_2 (ro := ro) (H := H) (V := V) (f := f) h
  refine call2 (H2 := H) (args' := [.imm [smp t V] f, .int .i64 n]) (by
    have : frzArg H (.imm [smp t V] f) = .imm [smp t V] f := rfl
    simp [this]) ?_ rfl (.inl rfl)
  rw [callW_eqO (fn := fn30) rfl rfl]
  simp [-getElem?_pos, fn30, hb]

/-- Samples that are frozen, or lie in the heap. -/
def Smp1 (H : Hp) (S : IV) (t V : Int) : Prop := ∃ f, frzArg H S = .imm [smp t V] f
theorem last_2 {S : IV} {t V n : Int} (hS : Smp1 H S t V) (h : t ≤ n) : doCall (callW pg) ro 2 (.fn 24 []) [S, .int .i64 n] H = some (.tup [.agg (smp t V), .bool true], H) := by
  obtain ⟨f, hf⟩ := hS
  have hb : ∃ H', callW pg H.length 24 [.imm [smp t V] f, .int .i64 n] H = some (.tup [.agg (smp t V), .bool true], H') := by
    have hu := fun ro X => upto_2 (ro := ro) (H := H ++ X) (V := V) (f := f) h
    have w2 : IntKind.i64.wrap (1 - 1) = 0 := by decide
    refine ⟨H ++ [{ rows := [smp t V] }], ?_⟩
    rw [callW_eqO (fn := fn24) rfl rfl]
    unfold smp at hu ⊢
    simp [-getElem?_pos, fn24, hu, w00, w2, Vs.idx, blkAt_eq]
  obtain ⟨H', hb⟩ := hb
  exact call2 (args' := [.imm [smp t V] f, .int .i64 n]) (by simp [hf]) hb rfl (.inl rfl)

theorem there_2 {S C : IV} {t V n : Int} {f : Bool} {Ci : IV} (hf : frzArg H (.agg [S, C]) = .agg [.imm [smp t V] f, Ci]) (hC : cellOk Ci = true) (h : t ≤ n) (h2 : n - 100 < t) (hn : 0 ≤ n ∧ n ≤ 1000000) : doCall (callW pg) ro 2 (.fn 23 []) [.agg [S, C], .int .i64 n] H = some (.bool true, H) := by
  have hb : ∃ H', callW pg H.length 23 [.agg [.imm [smp t V] f, Ci], .int .i64 n] H = some (.bool true, H') := by
    have hl := fun ro X => last_2 (ro := ro) (H := H ++ X) (S := .imm [smp t V] f) (V := V) ⟨f, rfl⟩ h
    have wn : IntKind.i64.wrap (n - 100) = n - 100 := by rw [IntKind.wrap_i64]; omega
    refine ⟨H ++ [{ rows := [[.imm [smp t V] f, Ci]] }, { rows := [smp t V] }], ?_⟩
    rw [callW_eqO (fn := fn23) rfl rfl]
    unfold smp at hl ⊢
    simp [-getElem?_pos, fn23, hl, blkAt_eq, hC, wn, h2]
  obtain ⟨H', hb⟩ := hb
  exact call2 (args' := [.agg [.imm [smp t V] f, Ci], .int .i64 n]) (by simp [hf]) hb rfl (.inl rfl)
end Go.Proofs.YtnfddeiegbifhaaDoor
