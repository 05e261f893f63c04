/- Laws on the bits of naturals as int. -/
import Derived.Test.YtkmkidbajmbigaaDoorBase
import Derived.Laws.BitsAllLaws
namespace Go.Proofs.YtkmkidbajmbigaaDoor
open Go
theorem i64_and_nat (a b : Nat) (ha : a < 9223372036854775808) (hb : b < 9223372036854775808) : bits .and .i64 (a : Int) (b : Int) = ((a &&& b : Nat) : Int) := by
  have hx : a &&& b < 2 ^ 63 := Nat.and_lt_two_pow _ (by omega)
  show IntKind.i64.wrap ((BitVec.ofInt 64 (a : Int) &&& BitVec.ofInt 64 (b : Int)).toNat : Int) = _
  rw [BitVec.toNat_and, ofInt_u64 a (by omega), ofInt_u64 b (by omega), IntKind.wrap_i64]
  omega
theorem i64_or_nat (a b : Nat) (ha : a < 9223372036854775808) (hb : b < 9223372036854775808) : bits .or .i64 (a : Int) (b : Int) = ((a ||| b : Nat) : Int) := by
  have hx : a ||| b < 2 ^ 63 := Nat.or_lt_two_pow (by omega) (by omega)
  show IntKind.i64.wrap ((BitVec.ofInt 64 (a : Int) ||| BitVec.ofInt 64 (b : Int)).toNat : Int) = _
  rw [BitVec.toNat_or, ofInt_u64 a (by omega), ofInt_u64 b (by omega), IntKind.wrap_i64]
  omega
theorem i64_mask (a k : Nat) (ha : a < 9223372036854775808) (hk : k < 62) : bits .and .i64 (a : Int) ((2 ^ k - 1 : Nat) : Int) = ((a % 2 ^ k : Nat) : Int) := by
  have : 2 ^ k ≤ 2 ^ 62 := Nat.pow_le_pow_right (by omega) (by omega)
  rw [i64_and_nat a _ ha (by omega), Nat.and_two_pow_sub_one_eq_mod]
theorem i64_join (a c k : Nat) (ha : a * 2 ^ k + c < 9223372036854775808) (hc : c < 2 ^ k) : bits .or .i64 ((a * 2 ^ k : Nat) : Int) (c : Int) = ((a * 2 ^ k + c : Nat) : Int) := by
  rw [i64_or_nat _ c (by omega) (by omega), Nat.mul_comm, ← Nat.two_pow_add_eq_or_of_lt hc]
end Go.Proofs.YtkmkidbajmbigaaDoor
