import Derived.Test.YtdeennacdlpheaaTvb0
import Derived.Test.YtdeennacdlpheaaTvb1
import Derived.Test.YtdeennacdlpheaaTvb2
import Derived.Test.YtdeennacdlpheaaTvb3
import Derived.Test.YtdeennacdlpheaaTvb4
/- The law 'VectorBare'. -/
namespace Go.Proofs.Ytdeennacdlpheaa
open Go Go.Vs

theorem rest6_ok : ∀ (k : Nat), k < 6 → ∀ s : Bool, endsT 4 (runC (callN pg 60) 0 60 rest6 [(1, .bool s), (5, .nsl), (6, .int .i64 (k + 1))] []) = some (.bool true)
  | 0, _, false => r6_0_0
  | 0, _, true => r6_0_1
  | 1, _, false => r6_1_0
  | 1, _, true => r6_1_1
  | 2, _, false => r6_2_0
  | 2, _, true => r6_2_1
  | 3, _, false => r6_3_0
  | 3, _, true => r6_3_1
  | 4, _, false => r6_4_0
  | 4, _, true => r6_4_1
  | 5, _, false => r6_5_0
  | 5, _, true => r6_5_1

theorem Bare.law {n : Int} (hn : 0 ≤ n ∧ n < 256) (s : Bool) : ∃ H', callW pg 0 6 [.int .u8 n, .bool s] [] = some (.bool true, H') := by
  obtain ⟨k, hk, hk6⟩ : ∃ k : Nat, n.tmod 6 = k ∧ k < 6 := ⟨(n.tmod 6).toNat, by rw [Int.tmod_eq_emod_of_nonneg hn.1]; omega, by rw [Int.tmod_eq_emod_of_nonneg hn.1]; omega⟩
  have r1 : binV .rem (.int .u8 n) (.int .u8 6) = some (.int .u8 k) := by rw [bin_rem (by decide), hk]
  have w1 : IntKind.i64.wrap (k : Int) = k := by rw [IntKind.wrap_i64]; omega
  have w2 : IntKind.i64.wrap ((k : Int) + 1) = k + 1 := by rw [IntKind.wrap_i64]; omega
  obtain ⟨H', h⟩ := ends_of (rest6_ok k hk6 s)
  refine ⟨H', ?_⟩
  have e : fn6.cd = .seq (hd fn6.cd) (.seq (hd (tl fn6.cd)) (.seq (hd (tl (tl fn6.cd))) (.seq (hd (tl (tl (tl fn6.cd)))) rest6))) := rfl
  rw [callW_eqO (fn := fn6) rfl rfl, e]
  have c1 : runW pg 0 (hd fn6.cd) (parE 0 [.int .u8 n, .bool s]) [] = some (.nrm, [(0, .int .u8 n), (1, .bool s)], []) := by simp [fn6, hd, tl]
  have c2 : runW pg 0 (hd (tl fn6.cd)) [(0, .int .u8 n), (1, .bool s)] [] = some (.nrm, [(0, .int .u8 n), (1, .bool s), (16, .bool false)], []) := by
    simp [fn6, hd, tl, known_2]
  have c3 : runW pg 0 (hd (tl (tl fn6.cd))) [(0, .int .u8 n), (1, .bool s), (16, .bool false)] [] = some (.nrm, [(0, .int .u8 n), (1, .bool s), (5, .nsl)], []) := by
    simp [fn6, hd, tl]
  have c4 : runW pg 0 (hd (tl (tl (tl fn6.cd)))) [(0, .int .u8 n), (1, .bool s), (5, .nsl)] [] = some (.nrm, [(1, .bool s), (5, .nsl), (6, .int .i64 (k + 1))], []) := by
    simp [fn6, hd, tl, r1, w1, w2]
  rw [runW_seqO, c1, seqO_nrm, runW_seqO, c2, seqO_nrm, runW_seqO, c3, seqO_nrm, runW_seqO, c4, seqO_nrm]
  exact h
theorem Bare.wf (x0 : (Ty.int .u8).den) (x1 : (Ty.bool).den) (h0 : (Ty.int .u8).ok x0) (_ : (Ty.bool).ok x1) :
    ∃ H', callW pg 0 6 [(Ty.int .u8).arg x0, (Ty.bool).arg x1] [] = some (.bool true, H') := Bare.law (wf_u8 _ h0) x1
end Go.Proofs.Ytdeennacdlpheaa
