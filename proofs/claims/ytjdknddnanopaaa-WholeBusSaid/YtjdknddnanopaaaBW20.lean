
/-
  mapping.Sum and the reference's.
-/
import Derived.Test.YtjdknddnanopaaaBW17
namespace Go.Proofs.Ytjdknddnanopaaa.Bus
open Go.RowKit
set_option linter.unusedVariables false

set_option maxRecDepth 100000 in
theorem and256 : ∀ q < 256, ((q * 2) &&& 256) = if 128 ≤ q then 256 else 0 := by decide

set_option maxRecDepth 100000 in
set_option maxHeartbeats 2000000 in
theorem Sum_any (A : Option Addr) (n c B : Nat) (b : List Int) (w : World) (hA : Rd w B A (kcells .u8 b)) (hn : b.length = n) (hc : n ≤ c) (hcc : c ≤ maxLen) (hr : Bytes b) :
    Calls Try.prog 94 #[.slice A n c] w fun e w' => e = .returned (.int .i64 (sumF b : Nat)) ∧ w = w' := by
  unfold maxLen at hcc
  have HN := Lib.hid hn
  have HA := Lib.hid hA
  have HR := Lib.hid hr
  clear hn hA hr
  go_enter Try.func94, Try.ntmps94
  go_wp2
  go_loopw [3, 8] (fun sm i wr => ∃ k : Nat, k ≤ n ∧ i = .int .i64 k ∧ sm = .int .i64 (sumF (b.take k) : Nat) ∧ w = wr) (fun _ i _ => n - (intOf i).toNat)
  case atStart => exact ⟨0, Nat.zero_le _, rfl, rfl, rfl⟩
  case round =>
    obtain ⟨k, hk, rfl, rfl, rfl⟩ := hrel
    by_cases hlt : k < n
    · obtain ⟨x, hx⟩ := getElem?_of_lt (l := b) (k := k) (by rw [HN.out]; exact hlt)
      obtain ⟨bb, off, rfl, hbl, c0⟩ := HA.out.kint hx
      have hx0 := HR.out x (List.mem_of_getElem? hx)
      have HS := Lib.hid (sumF_take hx)
      have hs256 : sumF (b.take k) < 256 := sumF_lt (fun y hy => HR.out y (List.mem_of_mem_take hy))
      obtain ⟨s, hs⟩ : ∃ s, sumF (b.take k) = s := ⟨_, rfl⟩
      rw [hs] at HS hs256 ⊢
      clear hx hs
      obtain ⟨X, rfl⟩ := Int.eq_ofNat_of_zero_le hx0.1
      have hX : X < 256 := by omega
      have e1 : bits .xor .i64 (s : Int) (X : Int) = ((s ^^^ X : Nat) : Int) := i64_xor_nat _ _ (by omega) (by omega)
      have hd := xor_lt256 hs256 hX
      have HST : Hid (stepF s X = crcK 8 (s ^^^ X)) := rfl
      generalize s ^^^ X = d at *
      go_wp2
      go_loopw [3, 16] (fun sm i wr => ∃ j q : Nat, j ≤ 8 ∧ i = .int .i64 j ∧ sm = .int .i64 q ∧ q = crcK j d ∧ w = wr) (fun _ i _ => 8 - (intOf i).toNat)
      case atStart => exact ⟨0, d, by omega, rfl, rfl, rfl, rfl⟩
      case round =>
        obtain ⟨j, q, hj, rfl, rfl, hq, rfl⟩ := hrel
        have hq256 : q < 256 := by rw [hq]; exact crcK_lt j hd
        have HQ := Lib.hid hq
        clear hq
        by_cases hlt : j < 8
        · have ea : bits .and .i64 ((q : Int) * 2) 256 = ((if 128 ≤ q then 256 else 0 : Nat) : Int) := by
            rw [← and256 q hq256, ← i64_and_nat _ _ (by omega) (by omega)]
            push_cast; rfl
          by_cases hbig : 128 ≤ q
          · have e2 : (bits .and .i64 ((q : Int) * 2) 256 != 0) = true := by rw [ea, if_pos hbig]; decide
            have e3 : bits .xor .i64 ((q : Int) * 2) 263 = (((2 * q) ^^^ 263 : Nat) : Int) := by
              rw [← i64_xor_nat _ _ (by omega) (by omega)]
              rw [show (q : Int) * 2 = ((2 * q : Nat) : Int) by push_cast; omega]
              rfl
            have HN : Hid (crcK (j + 1) d = (2 * q) ^^^ 263) := by
              show crc1 (crcK j d) = _
              rw [← HQ.out, crc1, if_pos hbig]
            clear ea
            generalize (2 * q) ^^^ 263 = z at *
            go_wp2
            go_roundw
            case rel => exact ⟨j + 1, z, by omega, by go_num, rfl, HN.out.symm, trivial⟩
            case measure => simp [intOf]; omega
          · have e2 : (bits .and .i64 ((q : Int) * 2) 256 != 0) = false := by rw [ea, if_neg hbig]; decide
            have HN : Hid (crcK (j + 1) d = 2 * q) := by
              show crc1 (crcK j d) = _
              rw [← HQ.out, crc1, if_neg hbig]
            clear ea
            go_wp2
            go_roundw
            case rel => exact ⟨j + 1, 2 * q, by omega, by go_num, by push_cast; congr 1; omega, HN.out.symm, trivial⟩
            case measure => simp [intOf]; omega
        · have hj8 : j = 8 := by omega
          subst hj8
          go_wp2
          go_roundw
          case rel => exact ⟨k + 1, by omega, by go_num, by rw [HS.out, HST.out, HQ.out], trivial⟩
          case measure => simp [intOf]; omega
    · have hkn : k = n := by omega
      subst hkn
      have ht : b.take k = b := List.take_of_length_le (by rw [HN.out]; omega)
      rw [ht]
      go_wp2
      go_ret
      exact ⟨rfl, rfl⟩

end Go.Proofs.Ytjdknddnanopaaa.Bus
