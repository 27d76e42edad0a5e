/- Bits of signed numbers. -/
import Derived.Test.YtdaajnaphkepmaaVsLaw
import Derived.Laws.BitsAllLaws
namespace Go.Vs
open Go

theorem ofInt_nat (a : Int) : (BitVec.ofInt 64 a).toNat = (a % 18446744073709551616).toNat := by
  rw [BitVec.toNat_ofInt]; rfl

theorem i64_and32 (n : Int) : bits .and .i64 n 4294967295 = n % 4294967296 := by
  show IntKind.i64.wrap ((BitVec.ofInt 64 n &&& BitVec.ofInt 64 4294967295).toNat : Int) = _
  rw [BitVec.toNat_and, ofInt_nat, ofInt_nat]
  have e : ((4294967295 : Int) % 18446744073709551616).toNat = 2 ^ 32 - 1 := rfl
  rw [e, Nat.and_two_pow_sub_one_eq_mod, IntKind.wrap_i64]
  have : (0 : Int) ≤ n % 18446744073709551616 := by omega
  omega

theorem i64_or32 {h l : Int} (h0 : -2147483648 ≤ h) (h1 : h < 2147483648) (l0 : 0 ≤ l) (l1 : l < 4294967296) : bits .or .i64 (h * 4294967296) l = h * 4294967296 + l := by
  show IntKind.i64.wrap ((BitVec.ofInt 64 (h * 4294967296) ||| BitVec.ofInt 64 l).toNat : Int) = _
  rw [BitVec.toNat_or, ofInt_nat, ofInt_nat]
  have e1 : ((h * 4294967296) % 18446744073709551616).toNat = (h % 4294967296).toNat <<< 32 := by
    rw [Nat.shiftLeft_eq]; omega
  have e2 : (l % 18446744073709551616).toNat = l.toNat := by omega
  rw [e1, e2, ← Nat.shiftLeft_add_eq_or_of_lt (by omega), Nat.shiftLeft_eq, IntKind.wrap_i64]
  omega

end Go.Vs
