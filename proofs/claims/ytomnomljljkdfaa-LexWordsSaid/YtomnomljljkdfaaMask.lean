/- The low bits of a whole number. Conditions: none. -/
import Derived.Test.YtomnomljljkdfaaToks
namespace Go.Proofs.Ytomnomljljkdfaa
open Go.RowKit
theorem mask16 (n : Int) : bits .and .i64 n 65535 = n % 65536 := by
  have h127 : (BitVec.ofInt 64 65535).toNat = 2 ^ 16 - 1 := by decide
  have key : (BitVec.ofInt 64 n &&& BitVec.ofInt 64 65535).toNat = (n % ((2 ^ 64 : Nat) : Int)).toNat % 2 ^ 16 := by
    rw [BitVec.toNat_and, BitVec.toNat_ofInt, h127, Nat.and_two_pow_sub_one_eq_mod]
  show IntKind.i64.wrap ((BitVec.ofInt 64 n &&& BitVec.ofInt 64 65535).toNat : Nat) = _
  rw [key, IntKind.wrap_i64]
  omega
end Go.Proofs.Ytomnomljljkdfaa
