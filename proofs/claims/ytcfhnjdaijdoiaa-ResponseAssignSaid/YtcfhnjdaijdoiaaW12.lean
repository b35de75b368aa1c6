/-
  The statement ResponseAssign, walked.
-/
import Derived.Test.YtcfhnjdaijdoiaaW6
import Derived.Test.YtcfhnjdaijdoiaaW7
import Derived.Test.YtcfhnjdaijdoiaaW11
namespace Go.Proofs.Ytcfhnjdaijdoiaa
open Go.RowKit
set_option linter.unusedVariables false

set_option maxHeartbeats 1000000 in
theorem assign_refused (A : Option Addr) (n c : Nat) (l : List Tsk) (w : World) (hA : Rd w w.heap.size A (tcells l)) (hn : l.length = n) (hc : n ≤ c) (hcc : c ≤ maxLen) (hk : 40 < n ∨ (decide (check l = 0) && shortB l) = false) :
    Calls Try.prog 11 #[.slice A n c] w fun e w' => e = .returned (.bool true) ∧ Below w.heap.size w w' := by
  have HA := Lib.hid hA
  have HN := Lib.hid hn
  clear hA hn
  by_cases h40 : 40 < n
  · clear hk
    go_enter Try.func11, Try.ntmps11
    go_wp2_with (fail)
    refine (awake43 _).mono ?_
    rintro e w1 ⟨rfl, hb⟩
    have HB := Lib.hid hb
    clear hb
    go_wp2_with (fail)
    refine (awake43 _).mono ?_
    rintro e w3 ⟨rfl, hb⟩
    have HB3 : Hid (Below w.heap.size w w3) := HB.out.trans (hb.mono HB.out.size)
    clear hb
    go_wp2
    go_ret
    exact ⟨rfl, HB3.out⟩
  · have HK : Hid ((decide (check l = 0) && shortB l) = false) := by
      rcases hk with h | h
      · exact absurd h h40
      · exact h
    clear hk
    go_enter Try.func11, Try.ntmps11
    go_wp2_with (fail)
    refine (awake43 _).mono ?_
    rintro e w1 ⟨rfl, hb⟩
    have HB := Lib.hid hb
    have hs := hb.size
    clear hb
    go_wp2_with (fail)
    (with_reducible refine (short_any A n c l _ ((HA.out.below HB.out (Nat.le_refl _)).more hs) HN.out hc hcc).mono ?_)
    rintro e w2 ⟨rfl, hb⟩
    rw [HK.out]
    have HB2 : Hid (Below w.heap.size w w2) := HB.out.trans (hb.mono hs)
    clear hb
    go_wp2_with (fail)
    refine (awake43 _).mono ?_
    rintro e w3 ⟨rfl, hb⟩
    have HB3 : Hid (Below w.heap.size w w3) := HB2.out.trans (hb.mono HB2.out.size)
    clear hb
    go_wp2
    go_ret
    exact ⟨rfl, HB3.out⟩

set_option maxHeartbeats 2000000 in
theorem assign_main (A : Option Addr) (n c : Nat) (l : List Tsk) (w : World) (hA : Rd w w.heap.size A (tcells l)) (hn : l.length = n) (hc : n ≤ c) (hcc : c ≤ maxLen) (hk : check l = 0) (hsh : shortB l = true) :
    Calls Try.prog 11 #[.slice A n c] w fun e w' => e = .returned (.bool true) ∧ Below w.heap.size w w' := by
  have h1 := ne_nil
  have hn8 := (good_of_check hk).2
  rw [hn] at hn8
  have HK := Lib.hid hk
  have HKS : Hid ((decide (check l = 0) && shortB l) = true) := by simp [Hid, hk, hsh]
  have HA := Lib.hid hA
  have HN := Lib.hid hn
  clear hA hn hk hsh
  go_enter Try.func11, Try.ntmps11
  go_wp2_with (fail)
  refine (awake43 _).mono ?_
  rintro e w1 ⟨rfl, hb⟩
  have HB := Lib.hid hb
  have hs := hb.size
  clear hb
  go_wp2_with (fail)
  (with_reducible refine (short_any A n c l _ ((HA.out.below HB.out (Nat.le_refl _)).more hs) HN.out hc hcc).mono ?_)
  rintro e w2 ⟨rfl, hb⟩
  rw [HKS.out]
  have HB2 : Hid (Below w.heap.size w w2) := HB.out.trans (hb.mono hs)
  have hs2 := HB2.out.size
  clear hb
  go_wp2_with (fail)
  (with_reducible refine (Assign_ok A n c l _ ((HA.out.below HB2.out (Nat.le_refl _)).more hs2) HN.out hc hcc HK.out).mono ?_)
  rintro e w3 ⟨X, cx, rfl, hx1, hx2, hr, hb⟩
  have HX := Lib.hid hr
  have HB3 : Hid (Below w.heap.size w w3) := HB2.out.trans (hb.mono hs2)
  have hs3 := HB3.out.size
  clear hr hb
  go_wp2_with (fail)
  (with_reducible refine (refAssign_any A n c l _ ((HA.out.below HB3.out (Nat.le_refl _)).more hs3) HN.out hc hcc HK.out).mono ?_)
  rintro e w4 ⟨Y, cy, rfl, hy1, hy2, hr, hb⟩
  have HY := Lib.hid hr
  have HX2 : Hid (Rd w4 w4.heap.size X (tcells (assign l))) := (HX.out.below hb (Nat.le_refl _)).more hb.size
  have HB4 : Hid (Below w.heap.size w w4) := HB3.out.trans (hb.mono hs3)
  have HM : Hid ((assign l).length = n) := by rw [assign_length]; exact HN.out
  clear hr hb HX
  have e1 : ((n : Int) != (n : Int)) = false := by simp
  have e2 : (meets (assign l) != meets (assign l)) = false := by simp
  generalize assign l = m at *
  go_wp2
  go_loopw [49] (fun i wr => ∃ k : Nat, k ≤ n ∧ i = .int .i64 k ∧ ∃ q, wr = w4.drewN q) (fun i _ => n - (intOf i).toNat)
  case atStart => exact ⟨0, Nat.zero_le _, rfl, 0, rfl⟩
  case round =>
    obtain ⟨k, hk, rfl, q, rfl⟩ := hrel
    by_cases hlt : k < n
    · obtain ⟨x, hx⟩ := getElem?_of_lt (l := m) (k := k) (by rw [HM.out]; exact hlt)
      obtain ⟨b, off, rfl, hbl, c0, c1, c2, c3, c4⟩ := HX2.out.tsk hx
      obtain ⟨b', off', rfl, hbl', d0, d1, d2, d3, d4⟩ := HY.out.tsk hx
      clear hx
      go_wp2
      go_quiet (fail)
      go_wp2
      go_roundw
      case rel => exact ⟨k + 1, by omega, by go_num, _, rfl⟩
      case measure => simp [intOf]; omega
    · go_wp2
      go_ret
      exact ⟨rfl, Below.drewN HB4.out q⟩
end Go.Proofs.Ytcfhnjdaijdoiaa
