
/-
  The statement MappingSpoiled, walked.
-/
import Derived.Test.YtjdknddnanopaaaBW24
namespace Go.Proofs.Ytjdknddnanopaaa.Bus
open Go.RowKit
set_option linter.unusedVariables false

theorem u8_xor_nat (a b : Nat) (ha : a < 256) (hb : b < 256) : bits .xor .u8 (a : Int) (b : Int) = ((a ^^^ b : Nat) : Int) := by
  have hx : a ^^^ b < 2 ^ 8 := Nat.xor_lt_two_pow (by omega) (by omega)
  show IntKind.u8.wrap ((BitVec.ofInt 8 (a : Int) ^^^ BitVec.ofInt 8 (b : Int)).toNat : Int) = _
  rw [BitVec.toNat_xor, ofInt_u8 a ha, ofInt_u8 b hb]
  show ((a ^^^ b : Nat) : Int) % 256 = _
  omega

/-- A flipped bit changes a byte. -/
theorem flip_ne (u : Int) (hu : 0 ≤ u ∧ u < 256) (m : Nat) (hm : m < 8) : u ≠ bits .xor .u8 u (2 ^ m) ∧ 0 ≤ bits .xor .u8 u (2 ^ m) ∧ bits .xor .u8 u (2 ^ m) < 256 := by
  obtain ⟨U, rfl⟩ := Int.eq_ofNat_of_zero_le hu.1
  have e3 : ((2 : Int) ^ m) = ((2 ^ m : Nat) : Int) := by push_cast; rfl
  have hp : 2 ^ m ≤ 2 ^ 7 := Nat.pow_le_pow_right (by omega) (by omega)
  have hp0 : 0 < 2 ^ m := Nat.pow_pos (by omega)
  rw [e3, u8_xor_nat U _ (by omega) (by omega)]
  have hx := xor_lt256 (a := U) (b := 2 ^ m) (by omega) (by omega)
  refine ⟨fun h => ?_, by omega, by omega⟩
  have h' : U ^^^ 0 = U ^^^ 2 ^ m := by rw [Nat.xor_zero]; omega
  have := xor_cancel_left h'
  omega

end Go.Proofs.Ytjdknddnanopaaa.Bus
