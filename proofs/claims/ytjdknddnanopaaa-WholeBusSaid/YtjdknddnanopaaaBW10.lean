
/-
  The reference's Find and Same.
-/
import Derived.Test.YtjdknddnanopaaaBW7
import Derived.Test.YtjdknddnanopaaaBPlain5
namespace Go.Proofs.Ytjdknddnanopaaa.Bus
open Go.RowKit
set_option linter.unusedVariables false

/-- What the reference's Find returns. -/
def findR (l : List Ob) (i s : Int) : Value := match locO l i s with
  | some p => .tuple #[.int .i64 p, .int .i64 0]
  | none => .tuple #[.int .i64 0, .int .i64 (ferr l i)]

set_option maxHeartbeats 2000000 in
theorem refFind_any (A : Option Addr) (n c : Nat) (l : List Ob) (i s : Int) (w : World) (hA : Rd w w.heap.size A (ocells l)) (hn : l.length = n) (hc : n ≤ c) (hcc : c ≤ maxLen) :
    Calls Try.prog 117 #[.slice A n c, .int .i64 i, .int .i64 s] w fun e w' => e = .returned (findR l i s) ∧ Below w.heap.size w w' := by
  unfold maxLen at hcc
  have HN := Lib.hid hn
  have HA := Lib.hid hA
  clear hn hA
  go_enter Try.func117, Try.ntmps117
  go_wp2
  go_loopw [8, 13] (fun sm i' wr => ∃ k : Nat, k ≤ n ∧ i' = .int .i64 k ∧ sm = .bool (hasO (l.take k) i) ∧ locO (l.take k) i s = none ∧ Below w.heap.size w wr) (fun _ i _ => n - (intOf i).toNat)
  case atStart => exact ⟨0, Nat.zero_le _, rfl, rfl, rfl, Below.refl _ _⟩
  case round =>
    obtain ⟨k, hk, rfl, rfl, hL, hB⟩ := hrel
    have hsz : w.heap.size ≤ wr.heap.size := hB.size
    by_cases hlt : k < n
    · obtain ⟨x, hx⟩ := getElem?_of_lt (l := l) (k := k) (by rw [HN.out]; exact hlt)
      obtain ⟨b, off, hAe, hbl, c0, c1, c2, c3, c4, c5, c6, c7, c8⟩ := (HA.out.below hB (Nat.le_refl _)).ob hx
      subst hAe
      have HX := Lib.hid hx
      have HB := Lib.hid hB
      have HL := Lib.hid hL
      have HS := Lib.hid (hasO_snoc i hx)
      clear hx hB hL
      by_cases h1 : x.i = i
      · by_cases h2 : x.s = s
        · have HM : Hid (findR l i s = .tuple #[.int .i64 k, .int .i64 0]) := by
            have := locO_hit HL.out HX.out h1 h2
            show _ = _
            unfold findR
            rw [this]
          rw [h1] at c0
          rw [h2] at c1
          clear h1 h2 HS
          go_wp2
          go_ret2
          exact ⟨by rw [HM.out]; rfl, HB.out.alloc hsz _⟩
        · have HM : Hid (locO (l.take (k + 1)) i s = none) := locO_miss HL.out HX.out (fun h => h2 h.2)
          have h2' : (x.s == s) = false := by simpa using h2
          have HS2 : Hid (hasO (l.take (k + 1)) i = true) := by rw [Hid, HS.out, h1]; simp
          rw [h1] at c0
          clear h1 h2 HS
          go_wp2
          go_roundw
          case rel => exact ⟨k + 1, by omega, by go_num, by rw [HS2.out], HM.out, HB.out.alloc hsz _⟩
          case measure => simp [intOf]; omega
      · have HM : Hid (locO (l.take (k + 1)) i s = none) := locO_miss HL.out HX.out (fun h => h1 h.1)
        have h1' : (x.i == i) = false := by simpa using h1
        have HS2 : Hid (hasO (l.take (k + 1)) i = hasO (l.take k) i) := by rw [Hid, HS.out]; simp [h1]
        clear h1 HS
        go_wp2
        go_roundw
        case rel => exact ⟨k + 1, by omega, by go_num, by rw [HS2.out], HM.out, HB.out.alloc hsz _⟩
        case measure => simp [intOf]; omega
    · have hkn : k = n := by omega
      subst hkn
      have ht : l.take k = l := List.take_of_length_le (by rw [HN.out]; omega)
      rw [ht] at hL ⊢
      have HB := Lib.hid hB
      cases hh : hasO l i
      · have HM : Hid (findR l i s = .tuple #[.int .i64 0, .int .i64 5]) := by show _ = _; unfold findR ferr; rw [hL, hh]; rfl
        clear hL ht hh hB
        go_wp2
        go_ret2
        exact ⟨by rw [HM.out]; rfl, HB.out⟩
      · have HM : Hid (findR l i s = .tuple #[.int .i64 0, .int .i64 10]) := by show _ = _; unfold findR ferr; rw [hL, hh]; rfl
        clear hL ht hh hB
        go_wp2
        go_ret2
        exact ⟨by rw [HM.out]; rfl, HB.out⟩

end Go.Proofs.Ytjdknddnanopaaa.Bus
