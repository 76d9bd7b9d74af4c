/-
  Words as naturals: and, or, andNot.
-/
import Derived.Test.YtfejmcoaljelpaaBits7
import Derived.Test.YtfejmcoaljelpaaPop
namespace Go.Proofs.Ytfejmcoaljelpaa.Bits
open Go.RowKit

theorem and_u64 (a b : Nat) (ha : a < 18446744073709551616) (hb : b < 18446744073709551616) : Go.bits .and .u64 (a : Int) (b : Int) = ((a &&& b : Nat) : Int) := by
  have h1 : (BitVec.ofInt IntKind.u64.bits (a : Int)).toNat = a := by
    rw [BitVec.toNat_ofInt]; show ((a : Int) % 18446744073709551616).toNat = a; omega
  have h2 : (BitVec.ofInt IntKind.u64.bits (b : Int)).toNat = b := by
    rw [BitVec.toNat_ofInt]; show ((b : Int) % 18446744073709551616).toNat = b; omega
  simp only [Go.bits, BitVec.toNat_and, h1, h2]
  have h3 : a &&& b < 18446744073709551616 := Nat.lt_of_le_of_lt Nat.and_le_left ha
  rw [IntKind.wrap_u64]
  omega
theorem or_u64 (a b : Nat) (ha : a < 18446744073709551616) (hb : b < 18446744073709551616) : Go.bits .or .u64 (a : Int) (b : Int) = ((a ||| b : Nat) : Int) := by
  have h1 : (BitVec.ofInt IntKind.u64.bits (a : Int)).toNat = a := by
    rw [BitVec.toNat_ofInt]; show ((a : Int) % 18446744073709551616).toNat = a; omega
  have h2 : (BitVec.ofInt IntKind.u64.bits (b : Int)).toNat = b := by
    rw [BitVec.toNat_ofInt]; show ((b : Int) % 18446744073709551616).toNat = b; omega
  simp only [Go.bits, BitVec.toNat_or, h1, h2]
  have h3 : a ||| b < 2 ^ 64 := Nat.or_lt_two_pow (by simpa using ha) (by simpa using hb)
  rw [IntKind.wrap_u64]
  have : (2 : Nat) ^ 64 = 18446744073709551616 := by decide
  omega
end Go.Proofs.Ytfejmcoaljelpaa.Bits
