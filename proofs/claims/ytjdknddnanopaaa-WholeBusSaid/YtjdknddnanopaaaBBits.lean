
/-
  Bitwise operators on ints, as sums. No program in sight.
-/
import Derived.Test.YtjdknddnanopaaaBPlain3
import Derived.Laws.BitsAllLaws
namespace Go.Proofs.Ytjdknddnanopaaa.Bus
open Go.RowKit

theorem wrap_i64_small (x : Int) (h0 : -9223372036854775808 ≤ x) (h1 : x < 9223372036854775808) : IntKind.i64.wrap x = x := IntWalk.i64_in _ (by omega)

theorem ofInt_i64 (a : Nat) (ha : a < 9223372036854775808) : (BitVec.ofInt 64 (a : Int)).toNat = a := by
  rw [BitVec.ofInt_natCast, BitVec.toNat_ofNat]; exact Nat.mod_eq_of_lt (by omega)
theorem i64_or_nat (a b : Nat) (ha : a < 9223372036854775808) (hb : b < 9223372036854775808) : bits .or .i64 (a : Int) (b : Int) = ((a ||| b : Nat) : Int) := by
  have hx : a ||| b < 2 ^ 63 := Nat.or_lt_two_pow (by omega) (by omega)
  show IntKind.i64.wrap ((BitVec.ofInt 64 (a : Int) ||| BitVec.ofInt 64 (b : Int)).toNat : Int) = _
  rw [BitVec.toNat_or, ofInt_i64 a ha, ofInt_i64 b hb, wrap_i64_small _ (by omega) (by omega)]
theorem i64_and_nat (a b : Nat) (ha : a < 9223372036854775808) (hb : b < 9223372036854775808) : bits .and .i64 (a : Int) (b : Int) = ((a &&& b : Nat) : Int) := by
  have hx : a &&& b < 2 ^ 63 := Nat.and_lt_two_pow _ (by omega)
  show IntKind.i64.wrap ((BitVec.ofInt 64 (a : Int) &&& BitVec.ofInt 64 (b : Int)).toNat : Int) = _
  rw [BitVec.toNat_and, ofInt_i64 a ha, ofInt_i64 b hb, wrap_i64_small _ (by omega) (by omega)]
theorem i64_xor_nat (a b : Nat) (ha : a < 9223372036854775808) (hb : b < 9223372036854775808) : bits .xor .i64 (a : Int) (b : Int) = ((a ^^^ b : Nat) : Int) := by
  have hx : a ^^^ b < 2 ^ 63 := Nat.xor_lt_two_pow (by omega) (by omega)
  show IntKind.i64.wrap ((BitVec.ofInt 64 (a : Int) ^^^ BitVec.ofInt 64 (b : Int)).toNat : Int) = _
  rw [BitVec.toNat_xor, ofInt_i64 a ha, ofInt_i64 b hb, wrap_i64_small _ (by omega) (by omega)]

/-- The lowest bit, of a negative number too. -/
theorem i64_and_one (x : Int) : bits .and .i64 x 1 = x % 2 := by
  show IntKind.i64.wrap ((BitVec.ofInt 64 x &&& BitVec.ofInt 64 1).toNat : Int) = _
  have e : (BitVec.ofInt 64 (1 : Int)).toNat = 1 := by decide
  rw [BitVec.toNat_and, e, Nat.and_one_is_mod, BitVec.toNat_ofInt, wrap_i64_small _ (by omega) (by omega)]
  omega

theorem pow_cast (b k : Nat) : ((b ^ k : Nat) : Int) = (b : Int) ^ k := by push_cast; rfl

/-- Or of numbers with no common bit. -/
theorem i64_or_join (a y : Int) (m : Nat) (ha0 : 0 ≤ a) (ha : a < 2 ^ m) (hy : 0 ≤ y) (hs : y * 2 ^ m < 9223372036854775808) (hm : m ≤ 62) : bits .or .i64 a (y * 2 ^ m) = a + y * 2 ^ m := by
  obtain ⟨A, rfl⟩ := Int.eq_ofNat_of_zero_le ha0
  obtain ⟨Y, rfl⟩ := Int.eq_ofNat_of_zero_le hy
  have e2 : (Y : Int) * 2 ^ m = ((Y * 2 ^ m : Nat) : Int) := by push_cast; rfl
  rw [e2] at hs ⊢
  have e3 : ((2 : Int) ^ m) = ((2 ^ m : Nat) : Int) := by push_cast; rfl
  rw [e3] at ha
  have hA : A < 2 ^ m := by omega
  have hp : 2 ^ m ≤ 2 ^ 62 := Nat.pow_le_pow_right (by omega) hm
  rw [i64_or_nat _ _ (by omega) (by omega), Nat.or_comm, nat_join m _ _ (Nat.mul_mod_left _ _) hA]
  push_cast
  omega

theorem pow256 (k : Nat) : (256 : Int) ^ k = 2 ^ (8 * k) := by rw [show (256 : Int) = 2 ^ 8 by rfl, ← Int.pow_mul]

/-- One byte more. -/
theorem le_step {b : List Int} (h : ∀ x ∈ b, 0 ≤ x ∧ x < 256) {k : Nat} {y : Int} (hk : k ≤ 3) (hy : b[k]? = some y) :
    bits .or .i64 (leTo b k) (wrap64 (y * 2 ^ (8 * k))) = leTo b (k + 1) := by
  obtain ⟨h1, h2⟩ := leTo_range h k
  obtain ⟨y1, y2⟩ := h y (List.mem_of_getElem? hy)
  rw [pow256] at h2
  have hp : (2 : Int) ^ (8 * k) ≤ 2 ^ 24 := by
    have : k = 0 ∨ k = 1 ∨ k = 2 ∨ k = 3 := by omega
    rcases this with rfl | rfl | rfl | rfl <;> decide
  have hp0 : (0 : Int) < 2 ^ (8 * k) := Int.pow_pos (by omega)
  have hm : y * 2 ^ (8 * k) ≤ 255 * 2 ^ (8 * k) := Int.mul_le_mul_of_nonneg_right (by omega) (by omega)
  have hm0 : 0 ≤ y * 2 ^ (8 * k) := Int.mul_nonneg y1 (by omega)
  have hw : wrap64 (y * 2 ^ (8 * k)) = y * 2 ^ (8 * k) := by unfold wrap64; omega
  rw [hw, i64_or_join _ _ _ h1 h2 y1 (by omega) (by omega), leTo, hy, pow256]
  rfl

theorem le_step_add {b : List Int} (h : ∀ x ∈ b, 0 ≤ x ∧ x < 256) {k : Nat} {y : Int} (hk : k ≤ 3) (hy : b[k]? = some y) :
    leTo b k + wrap64 (y * 2 ^ (8 * k)) = leTo b (k + 1) ∧ 0 ≤ leTo b (k + 1) ∧ leTo b (k + 1) < 4294967296 := by
  obtain ⟨y1, y2⟩ := h y (List.mem_of_getElem? hy)
  have hp : (2 : Int) ^ (8 * k) ≤ 2 ^ 24 := by
    have : k = 0 ∨ k = 1 ∨ k = 2 ∨ k = 3 := by omega
    rcases this with rfl | rfl | rfl | rfl <;> decide
  have hp0 : (0 : Int) < 2 ^ (8 * k) := Int.pow_pos (by omega)
  have hm : y * 2 ^ (8 * k) ≤ 255 * 2 ^ (8 * k) := Int.mul_le_mul_of_nonneg_right (by omega) (by omega)
  have hm0 : 0 ≤ y * 2 ^ (8 * k) := Int.mul_nonneg y1 (by omega)
  have hw : wrap64 (y * 2 ^ (8 * k)) = y * 2 ^ (8 * k) := by unfold wrap64; omega
  refine ⟨?_, ?_⟩
  · rw [hw, leTo, hy, pow256]
    rfl
  · obtain ⟨h1, h2⟩ := leTo_range h (k + 1)
    refine ⟨h1, Int.lt_of_lt_of_le h2 ?_⟩
    have : k = 0 ∨ k = 1 ∨ k = 2 ∨ k = 3 := by omega
    rcases this with rfl | rfl | rfl | rfl <;> decide

theorem le_small {b : List Int} (h : ∀ x ∈ b, 0 ≤ x ∧ x < 256) {k : Nat} (hk : k ≤ 4) : 0 ≤ leTo b k ∧ leTo b k < 4294967296 := by
  obtain ⟨h1, h2⟩ := leTo_range h k
  refine ⟨h1, Int.lt_of_lt_of_le h2 ?_⟩
  have : k = 0 ∨ k = 1 ∨ k = 2 ∨ k = 3 ∨ k = 4 := by omega
  rcases this with rfl | rfl | rfl | rfl | rfl <;> decide
end Go.Proofs.Ytjdknddnanopaaa.Bus
