/-
  Bitwise operators, as sums and on natural numbers. No program in sight.
-/
import Derived.Test.YtfeceamhlphelaaMem
import Derived.Laws.BitsAllLaws
namespace Go.Proofs.Ytfeceamhlphelaa
open Go.RowKit

def Bytes (b : List Int) : Prop := ∀ x ∈ b, 0 ≤ x ∧ x < 256

theorem wrap_i64_small (x : Int) (h0 : -9223372036854775808 ≤ x) (h1 : x < 9223372036854775808) : IntKind.i64.wrap x = x := IntWalk.i64_in _ (by omega)

theorem ofInt_i64 (a : Nat) (ha : a < 9223372036854775808) : (BitVec.ofInt 64 (a : Int)).toNat = a := by
  rw [BitVec.ofInt_natCast, BitVec.toNat_ofNat]; exact Nat.mod_eq_of_lt (by omega)
theorem i64_or_nat (a b : Nat) (ha : a < 9223372036854775808) (hb : b < 9223372036854775808) : bits .or .i64 (a : Int) (b : Int) = ((a ||| b : Nat) : Int) := by
  have hx : a ||| b < 2 ^ 63 := Nat.or_lt_two_pow (by omega) (by omega)
  show IntKind.i64.wrap ((BitVec.ofInt 64 (a : Int) ||| BitVec.ofInt 64 (b : Int)).toNat : Int) = _
  rw [BitVec.toNat_or, ofInt_i64 a ha, ofInt_i64 b hb, wrap_i64_small _ (by omega) (by omega)]
theorem i64_and_nat (a b : Nat) (ha : a < 9223372036854775808) (hb : b < 9223372036854775808) : bits .and .i64 (a : Int) (b : Int) = ((a &&& b : Nat) : Int) := by
  have hx : a &&& b < 2 ^ 63 := Nat.and_lt_two_pow _ (by omega)
  show IntKind.i64.wrap ((BitVec.ofInt 64 (a : Int) &&& BitVec.ofInt 64 (b : Int)).toNat : Int) = _
  rw [BitVec.toNat_and, ofInt_i64 a ha, ofInt_i64 b hb, wrap_i64_small _ (by omega) (by omega)]
theorem i64_xor_nat (a b : Nat) (ha : a < 9223372036854775808) (hb : b < 9223372036854775808) : bits .xor .i64 (a : Int) (b : Int) = ((a ^^^ b : Nat) : Int) := by
  have hx : a ^^^ b < 2 ^ 63 := Nat.xor_lt_two_pow (by omega) (by omega)
  show IntKind.i64.wrap ((BitVec.ofInt 64 (a : Int) ^^^ BitVec.ofInt 64 (b : Int)).toNat : Int) = _
  rw [BitVec.toNat_xor, ofInt_i64 a ha, ofInt_i64 b hb, wrap_i64_small _ (by omega) (by omega)]

/-- The lowest bit, of a negative number too. -/
theorem i64_and_one (x : Int) : bits .and .i64 x 1 = x % 2 := by
  show IntKind.i64.wrap ((BitVec.ofInt 64 x &&& BitVec.ofInt 64 1).toNat : Int) = _
  have e : (BitVec.ofInt 64 (1 : Int)).toNat = 1 := by decide
  rw [BitVec.toNat_and, e, Nat.and_one_is_mod, BitVec.toNat_ofInt, wrap_i64_small _ (by omega) (by omega)]
  omega

theorem pow_cast (b k : Nat) : ((b ^ k : Nat) : Int) = (b : Int) ^ k := by push_cast; rfl

/-- Or of numbers with no common bit. -/
theorem i64_or_join (a y : Int) (m : Nat) (ha0 : 0 ≤ a) (ha : a < 2 ^ m) (hy : 0 ≤ y) (hs : y * 2 ^ m < 9223372036854775808) (hm : m ≤ 62) : bits .or .i64 a (y * 2 ^ m) = a + y * 2 ^ m := by
  obtain ⟨A, rfl⟩ := Int.eq_ofNat_of_zero_le ha0
  obtain ⟨Y, rfl⟩ := Int.eq_ofNat_of_zero_le hy
  have e2 : (Y : Int) * 2 ^ m = ((Y * 2 ^ m : Nat) : Int) := by push_cast; rfl
  rw [e2] at hs ⊢
  have e3 : ((2 : Int) ^ m) = ((2 ^ m : Nat) : Int) := by push_cast; rfl
  rw [e3] at ha
  have hA : A < 2 ^ m := by omega
  have hp : 2 ^ m ≤ 2 ^ 62 := Nat.pow_le_pow_right (by omega) hm
  rw [i64_or_nat _ _ (by omega) (by omega), Nat.or_comm, nat_join m _ _ (Nat.mul_mod_left _ _) hA]
  push_cast
  omega

theorem ofInt_u8 (a : Nat) (ha : a < 256) : (BitVec.ofInt 8 (a : Int)).toNat = a := by
  rw [BitVec.ofInt_natCast, BitVec.toNat_ofNat]; exact Nat.mod_eq_of_lt (by omega)
theorem u8_or_nat (a b : Nat) (ha : a < 256) (hb : b < 256) : bits .or .u8 (a : Int) (b : Int) = ((a ||| b : Nat) : Int) := by
  have hx : a ||| b < 2 ^ 8 := Nat.or_lt_two_pow (by omega) (by omega)
  show IntKind.u8.wrap ((BitVec.ofInt 8 (a : Int) ||| BitVec.ofInt 8 (b : Int)).toNat : Int) = _
  rw [BitVec.toNat_or, ofInt_u8 a ha, ofInt_u8 b hb]
  show ((a ||| b : Nat) : Int) % 256 = _
  omega
theorem u8_and_one (a : Int) (h : 0 ≤ a ∧ a < 256) : bits .and .u8 a 1 = a % 2 := by
  obtain ⟨A, rfl⟩ := Int.eq_ofNat_of_zero_le h.1
  show IntKind.u8.wrap ((BitVec.ofInt 8 (A : Int) &&& BitVec.ofInt 8 1).toNat : Int) = _
  have e : (BitVec.ofInt 8 (1 : Int)).toNat = 1 := by decide
  rw [BitVec.toNat_and, e, Nat.and_one_is_mod, ofInt_u8 A (by omega)]
  show ((A % 2 : Nat) : Int) % 256 = _
  omega
/-- Or of bytes with no common bit. -/
theorem u8_or_join (a y : Int) (m : Nat) (ha0 : 0 ≤ a) (ha : a < 2 ^ m) (hy : y = 0 ∨ y = 1) (hm : m < 8) : bits .or .u8 a (y * 2 ^ m) = a + y * 2 ^ m ∧ 0 ≤ y * 2 ^ m ∧ y * 2 ^ m < 256 := by
  obtain ⟨A, rfl⟩ := Int.eq_ofNat_of_zero_le ha0
  have hy0 : 0 ≤ y := by omega
  obtain ⟨Y, rfl⟩ := Int.eq_ofNat_of_zero_le hy0
  have e2 : (Y : Int) * 2 ^ m = ((Y * 2 ^ m : Nat) : Int) := by push_cast; rfl
  have e3 : ((2 : Int) ^ m) = ((2 ^ m : Nat) : Int) := by push_cast; rfl
  rw [e2]
  rw [e3] at ha
  have hA : A < 2 ^ m := by omega
  have hp : 2 ^ m ≤ 2 ^ 7 := Nat.pow_le_pow_right (by omega) (by omega)
  have hY : Y = 0 ∨ Y = 1 := by omega
  have hs : Y * 2 ^ m < 256 := by rcases hY with rfl | rfl <;> omega
  refine ⟨?_, by omega, by omega⟩
  rw [u8_or_nat _ _ (by omega) hs, Nat.or_comm, nat_join m _ _ (Nat.mul_mod_left _ _) hA]
  push_cast
  omega

theorem xor_lt256 {a b : Nat} (ha : a < 256) (hb : b < 256) : a ^^^ b < 256 := Nat.xor_lt_two_pow (n := 8) ha hb
theorem xor_cancel {a b x : Nat} (h : a ^^^ x = b ^^^ x) : a = b := by
  have := congrArg (· ^^^ x) h
  simpa [Nat.xor_assoc] using this
theorem xor_cancel_left {a x y : Nat} (h : a ^^^ x = a ^^^ y) : x = y := by
  rw [Nat.xor_comm a x, Nat.xor_comm a y] at h
  exact xor_cancel h

theorem u8_xor_nat (a b : Nat) (ha : a < 256) (hb : b < 256) : bits .xor .u8 (a : Int) (b : Int) = ((a ^^^ b : Nat) : Int) := by
  have hx : a ^^^ b < 2 ^ 8 := Nat.xor_lt_two_pow (by omega) (by omega)
  show IntKind.u8.wrap ((BitVec.ofInt 8 (a : Int) ^^^ BitVec.ofInt 8 (b : Int)).toNat : Int) = _
  rw [BitVec.toNat_xor, ofInt_u8 a ha, ofInt_u8 b hb]
  show ((a ^^^ b : Nat) : Int) % 256 = _
  omega

end Go.Proofs.Ytfeceamhlphelaa
