/-
  The statement MappingCounts, walked; short.
-/
import Derived.Test.YteooabcgojadcaaW22
namespace Go.Proofs.Yteooabcgojadcaa
open Go.RowKit
set_option linter.unusedVariables false

theorem short_yes (A A' : Option Addr) (n c n' c' : Nat) (w : World) (h1 : n ≤ 200) (h2 : n' ≤ 40) : Calls Try.prog 39 #[.slice A n c, .slice A' n' c'] w fun e w' => e = .returned (.bool true) ∧ w = w' := by
  go_enter Try.func39, Try.ntmps39
  go_wp2
  go_ret
  refine ⟨?_, rfl⟩
  simp
  omega
theorem short_no (A A' : Option Addr) (n c n' c' : Nat) (w : World) (hm : n ≤ maxLen) (hm' : n' ≤ maxLen) (h : 200 < n ∨ 40 < n') : Calls Try.prog 39 #[.slice A n c, .slice A' n' c'] w fun e w' => e = .returned (.bool false) ∧ w = w' := by
  unfold maxLen at hm hm'
  by_cases h1 : 200 < n
  · clear h
    go_enter Try.func39, Try.ntmps39
    go_wp2
    go_ret
    refine ⟨?_, rfl⟩
    first | rfl | (simp; omega)
  · have h2 : 40 < n' := by omega
    have h3 : n ≤ 200 := by omega
    clear h h1
    go_enter Try.func39, Try.ntmps39
    go_wp2
    go_ret
    refine ⟨?_, rfl⟩
    first | rfl | (simp; omega)

set_option maxRecDepth 100000 in
set_option maxHeartbeats 1000000 in
theorem mcounts_long (a : Int) (A : Option Addr) (n c : Nat) (w : World) (hn : n ≤ maxLen) (h : 100 < n) :
    Calls Try.prog 11 #[.int .u8 a, .slice A n c] w fun e w' => e = .returned (.bool true) ∧ Below w.heap.size w w' := by
  unfold maxLen at hn
  go_enter Try.func11, Try.ntmps11
  go_wp2_with (fail)
  refine (awake54_any _).mono ?_
  rintro e w1 ⟨rfl, hb⟩
  have HB := Lib.hid hb
  clear hb
  go_wp2_with (fail)
  refine (awake54_any _).mono ?_
  rintro e w3 ⟨rfl, hb⟩
  have HB3 : Hid (Below w.heap.size w w3) := HB.out.trans (hb.mono HB.out.size)
  clear hb
  go_wp2
  go_ret
  exact ⟨rfl, HB3.out⟩

set_option maxRecDepth 100000 in
set_option maxHeartbeats 2000000 in
theorem mcounts_main (a : Int) (A : Option Addr) (n c : Nat) (b : List Int) (w : World) (ha : 0 ≤ a ∧ a < 256) (hA : Rd w w.heap.size A (kcells .u8 b)) (hn : b.length = n) (hc : n ≤ c) (hcc : c ≤ maxLen) (hr : ∀ x ∈ b, 0 ≤ x ∧ x < 256) (h100 : n ≤ 100) :
    Calls Try.prog 11 #[.int .u8 a, .slice A n c] w fun e w' => e = .returned (.bool true) ∧ Below w.heap.size w w' := by
  have HA := Lib.hid hA
  have HN := Lib.hid hn
  have HR := Lib.hid hr
  obtain ⟨ha1, ha2⟩ := ha
  clear hA hn hr hcc
  go_enter Try.func11, Try.ntmps11
  go_wp2_with (fail)
  refine (awake54_any _).mono ?_
  rintro e w1 ⟨rfl, hb⟩
  have HB := Lib.hid hb
  have HA1 := Lib.hid (HA.out.below hb (Nat.le_refl _))
  clear hb
  go_wp2
  go_loopw [5, 21] (fun s i wr => ∃ (k : Nat) (q : Int), k ≤ n ∧ i = .int .i64 k ∧ s = .int .i64 q ∧ 0 ≤ q ∧ q < 256 ∧ w1 = wr) (fun _ i _ => n - (intOf i).toNat)
  case atStart => exact ⟨0, a, Nat.zero_le _, rfl, rfl, ha1, ha2, rfl⟩
  case round =>
    obtain ⟨k, q, hk, rfl, rfl, hq1, hq2, rfl⟩ := hrel
    by_cases hlt : k < n
    · obtain ⟨x, hx⟩ := getElem?_of_lt (l := b) (k := k) (by rw [HN.out]; exact hlt)
      obtain ⟨bb, off, rfl, hbl, c0⟩ := HA1.out.kint hx
      obtain ⟨hx1, hx2⟩ := HR.out x (List.mem_of_getElem? hx)
      obtain ⟨z, hz⟩ : ∃ z, (q + 1 + x) % 256 = z := ⟨_, rfl⟩
      have hz2 : (q + 1 + x).tmod 256 = z := by rw [Int.tmod_eq_emod_of_nonneg (by omega)]; exact hz
      have hz3 : 0 ≤ z ∧ z < 256 := by omega
      have HM : Hid (missO q z = x) := by rw [← hz]; exact miss_back q x ⟨hx1, hx2⟩
      obtain ⟨hz3, hz4⟩ := hz3
      clear hx
      go_wp2_with (fail)
      (with_reducible refine (missed_any q z w1).mono ?_)
      rintro e w3 ⟨rfl, rfl⟩
      rw [HM.out]
      go_wp2
      go_roundw
      case rel => exact ⟨k + 1, z, by omega, by go_num, rfl, hz3, hz4, by first | rfl | trivial⟩
      case measure => simp [intOf]; omega
    · go_wp2
      go_ret
      exact ⟨rfl, HB.out⟩
end Go.Proofs.Yteooabcgojadcaa
