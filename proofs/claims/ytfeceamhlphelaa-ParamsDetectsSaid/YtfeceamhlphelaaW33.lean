/-
  Params: within, the number of pages, a number's bytes, the bits that are 0.
-/
import Derived.Test.YtfeceamhlphelaaPlainP
import Derived.Test.YtfeceamhlphelaaW1
import Derived.Lib.Tables
import Derived.Lib.BitFns
import Derived.Lib.Tables
import Derived.Lib.BitFns
namespace Go.Proofs.Ytfeceamhlphelaa
open Go.RowKit
set_option linter.unusedVariables false

theorem within51 (n lo hi : Int) (w : World) : Calls Try.prog 87 #[.int .i64 n, .int .i64 lo, .int .i64 hi] w fun e w' => e = .returned (.bool (decide (lo ≤ n ∧ n ≤ hi))) ∧ w = w' := by
  by_cases h1 : lo ≤ n
  · have d1 : decide (lo ≤ n) = true := by simpa using h1
    by_cases h2 : n ≤ hi
    · have d2 : decide (n ≤ hi) = true := by simpa using h2
      rw [decide_eq_true (show lo ≤ n ∧ n ≤ hi from ⟨h1, h2⟩)]
      go_enter Try.func87, Try.ntmps87
      go_wp2
      go_ret
      exact ⟨rfl, rfl⟩
    · have d2 : decide (n ≤ hi) = false := by simpa using h2
      rw [decide_eq_false (show ¬ (lo ≤ n ∧ n ≤ hi) from fun h => h2 h.2)]
      go_enter Try.func87, Try.ntmps87
      go_wp2
      go_ret
      exact ⟨rfl, rfl⟩
  · have d1 : decide (lo ≤ n) = false := by simpa using h1
    rw [decide_eq_false (show ¬ (lo ≤ n ∧ n ≤ hi) from fun h => h1 h.1)]
    go_enter Try.func87, Try.ntmps87
    go_wp2
    go_ret
    exact ⟨rfl, rfl⟩

theorem pgs_any (n : Nat) (hn : n < 1000000000000) (w : World) : Calls Try.prog 88 #[.int .i64 (n : Int)] w fun e w' => e = .returned (.int .i64 (pgs n : Nat)) ∧ w = w' := by
  have e4 : (((n : Int)) + 6 - 1) / 6 = ((pgs n : Nat) : Int) := by unfold pgs; omega
  go_enter Try.func88, Try.ntmps88
  go_wp2
  go_ret
  refine ⟨?_, rfl⟩
  show Ending.returned (Value.int .i64 (((n : Int) + 6 - 1) / 6)) = _
  rw [e4]

/-- The complement of a byte. -/
theorem pop_not : ∀ n : Fin 256, Lib.pop8 (255 - (n.val : Int)) = zcB n.val := by decide +kernel
theorem pop_not' {x : Int} (h : 0 ≤ x ∧ x < 256) : Lib.pop8 (255 - x) = zcB x := by
  have := pop_not ⟨x.toNat, by omega⟩
  simp only [Int.toNat_of_nonneg h.1] at this
  exact this
theorem not_u8 : ∀ n : Fin 256, bits .xor .u8 IntKind.u8.max (n.val : Int) = 255 - (n.val : Int) := by decide +kernel
theorem not_u8' {x : Int} (h : 0 ≤ x ∧ x < 256) : bits .xor .u8 IntKind.u8.max x = 255 - x := by
  have := not_u8 ⟨x.toNat, by omega⟩
  simp only [Int.toNat_of_nonneg h.1] at this
  exact this
theorem ones_any (x : Int) (h : 0 ≤ x ∧ x < 256) (w : World) : Calls Try.prog 108 #[.int .u8 (bits .xor .u8 IntKind.u8.max x)] w fun e w' => e = .returned (.int .i64 (zcB x)) ∧ w = w' := by
  rw [not_u8' h]
  have e1 := pop_not' h
  have e2 := zcB_range (x := x)
  have h0 : 0 ≤ 255 - x := by omega
  have h1 : 255 - x ≤ 255 := by omega
  have e3 : (Lib.pop8 (255 - x) + 9223372036854775808) % 18446744073709551616 - 9223372036854775808 = zcB x := by rw [e1]; omega
  generalize zcB x = Z at *
  generalize 255 - x = y at *
  go_enter Try.func108, Try.ntmps108
  go_wp2
  go_ret
  refine ⟨?_, rfl⟩
  rw [← e3]
  rfl

set_option maxRecDepth 100000 in
theorem zeros_any (A : Option Addr) (n c : Nat) (b : List Int) (w : World) (hA : Rd w w.heap.size A (kcells .u8 b)) (hn : b.length = n) (hb : Bytes b) (hn2 : n ≤ 1000000) :
    Calls Try.prog 85 #[.slice A n c] w fun e w' => e = .returned (.int .i64 (zerosB b)) ∧ w = w' := by
  have HA := Lib.hid hA
  have HN := Lib.hid hn
  have HB := Lib.hid hb
  clear hA hn hb
  go_enter Try.func85, Try.ntmps85
  go_wp2
  go_loopw [3, 8] (fun z i wr => ∃ k : Nat, k ≤ n ∧ i = .int .i64 k ∧ z = .int .i64 (zerosB (b.take k)) ∧ w = wr) (fun _ i _ => n - (intOf i).toNat)
  case atStart => exact ⟨0, by omega, rfl, by simp [zerosB], rfl⟩
  case round =>
    obtain ⟨k, hk, rfl, rfl, rfl⟩ := hrel
    by_cases hlt : k < n
    · obtain ⟨x, hx⟩ := getElem?_of_lt (l := b) (k := k) (by rw [HN.out]; exact hlt)
      have hxb := HB.out x (List.mem_of_getElem? hx)
      obtain ⟨ba, off, rfl, _, c0⟩ := HA.out.kint hx
      have HT : Hid (zerosB (b.take (k + 1)) = zerosB (b.take k) + zcB x) := by rw [Hid, take_snoc_get b k x hx, zeros_step]
      have hz := zeros_range (b.take k)
      rw [List.length_take, HN.out] at hz
      have hzc := zcB_range (x := x)
      have HO := Lib.hid (fun w => ones_any x hxb w)
      generalize zerosB (b.take k) = Z at *
      clear hx hxb
      go_wp2_with (fail)
      (with_reducible refine (HO.out w).mono ?_)
      rintro e w1 ⟨rfl, rfl⟩
      go_wp2
      go_roundw
      case rel => exact ⟨k + 1, by omega, by go_num, by rw [HT.out], by first | rfl | trivial⟩
      case measure => simp [intOf]; omega
    · have hkn : k = n := by omega
      subst hkn
      have e : b.take k = b := by rw [← HN.out]; exact List.take_length
      rw [e]
      go_wp2
      go_ret
      exact ⟨rfl, rfl⟩

set_option maxRecDepth 100000 in
theorem shl_or {n x : Int} (hn : 0 ≤ n ∧ n < 18446744073709551616) (hx : 0 ≤ x ∧ x < 256) : bits .or .u64 (n * 256 % 18446744073709551616) x = (n * 256 + x) % 18446744073709551616 := by
  obtain ⟨N, rfl⟩ := Int.eq_ofNat_of_zero_le hn.1
  obtain ⟨X, rfl⟩ := Int.eq_ofNat_of_zero_le hx.1
  have e : (N : Int) * 256 % 18446744073709551616 = ((N * 256 % 18446744073709551616 : Nat) : Int) := by omega
  rw [e, u64_or_nat _ _ (by omega) (by omega), nat_join 8 _ _ (by omega) (by omega)]
  omega

set_option maxRecDepth 100000 in
theorem number_any (A : Option Addr) (n c : Nat) (b : List Int) (w : World) (hA : Rd w w.heap.size A (kcells .u8 b)) (hn : b.length = n) (hb : Bytes b) (hn2 : n ≤ 1000000) :
    Calls Try.prog 84 #[.slice A n c] w fun e w' => e = .returned (.int .u64 (numB b)) ∧ w = w' := by
  have HA := Lib.hid hA
  have HN := Lib.hid hn
  have HB := Lib.hid hb
  clear hA hn hb
  go_enter Try.func84, Try.ntmps84
  go_wp2
  go_loopw [3, 8] (fun z i wr => ∃ k : Nat, k ≤ n ∧ i = .int .i64 k ∧ z = .int .u64 (numB (b.take k)) ∧ w = wr) (fun _ i _ => n - (intOf i).toNat)
  case atStart => exact ⟨0, by omega, rfl, by simp [numB], rfl⟩
  case round =>
    obtain ⟨k, hk, rfl, rfl, rfl⟩ := hrel
    by_cases hlt : k < n
    · obtain ⟨x, hx⟩ := getElem?_of_lt (l := b) (k := k) (by rw [HN.out]; exact hlt)
      have hxb := HB.out x (List.mem_of_getElem? hx)
      obtain ⟨ba, off, rfl, _, c0⟩ := HA.out.kint hx
      have HT : Hid (numB (b.take (k + 1)) = (numB (b.take k) * 256 + x) % 18446744073709551616) := by rw [Hid, take_snoc_get b k x hx, num_step]
      have hz := num_range (b.take k)
      have HO := Lib.hid (shl_or hz hxb)
      generalize numB (b.take k) = Z at *
      have q1 := hxb.1
      have q2 := hxb.2
      clear hx hxb
      go_wp2
      go_roundw
      case rel => exact ⟨k + 1, by omega, by go_num, by rw [HT.out, ← HO.out]; rfl, by first | rfl | trivial⟩
      case measure => simp [intOf]; omega
    · have hkn : k = n := by omega
      subst hkn
      have e : b.take k = b := by rw [← HN.out]; exact List.take_length
      rw [e]
      go_wp2
      go_ret
      exact ⟨rfl, rfl⟩
end Go.Proofs.Ytfeceamhlphelaa
