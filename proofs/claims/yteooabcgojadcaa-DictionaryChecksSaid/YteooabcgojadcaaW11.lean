/-
  The statement DictionaryChecks, walked.
-/
import Derived.Test.YteooabcgojadcaaW10
namespace Go.Proofs.Yteooabcgojadcaa
open Go.RowKit
set_option linter.unusedVariables false

theorem ne_ptr (b o : Nat) (w : World) : (binOp .neq 25 (.pointer (some ⟨b, o, none⟩)) (.pointer none)).run Try.prog w = .ok (.bool true) w := by kernel_rfl
theorem ne_ptr0 (w : World) : (binOp .neq 25 (.pointer none) (.pointer none)).run Try.prog w = .ok (.bool false) w := by kernel_rfl

set_option maxRecDepth 100000 in
set_option maxHeartbeats 1000000 in
theorem dchecks_long (A : Option Addr) (n c : Nat) (w : World) (hn : n ≤ maxLen) (h200 : 200 < n) :
    Calls Try.prog 3 #[.slice A n c] w fun e w' => e = .returned (.bool true) ∧ Below w.heap.size w w' := by
  unfold maxLen at hn
  go_enter Try.func3, Try.ntmps3
  go_wp2_with (fail)
  refine (awake53_any _).mono ?_
  rintro e w1 ⟨rfl, hb⟩
  have HB := Lib.hid hb
  clear hb
  go_wp2_with (fail)
  refine (awake53_any _).mono ?_
  rintro e w3 ⟨rfl, hb⟩
  have HB3 : Hid (Below w.heap.size w w3) := HB.out.trans (hb.mono HB.out.size)
  clear hb
  go_wp2
  go_ret
  exact ⟨rfl, HB3.out⟩

set_option maxRecDepth 100000 in
set_option maxHeartbeats 2000000 in
theorem dchecks_main (A : Option Addr) (n c : Nat) (l : List Ob) (w : World) (hA : Rd w w.heap.size A (ocells l)) (hn : l.length = n) (hc : n ≤ c) (hcc : c ≤ maxLen) (h200 : n ≤ 200) :
    Calls Try.prog 3 #[.slice A n c] w fun e w' => e = .returned (.bool true) ∧ Below w.heap.size w w' := by
  have h1 := ne_ptr
  have h2 := ne_ptr0
  have HA := Lib.hid hA
  have HN := Lib.hid hn
  clear hA hn
  go_enter Try.func3, Try.ntmps3
  go_wp2_with (fail)
  refine (awake53_any _).mono ?_
  rintro e w1 ⟨rfl, hb⟩
  have HB1 := Lib.hid hb
  clear hb
  go_wp2_with (fail)
  (with_reducible refine (refCheck_any A n c l _ ((HA.out.below HB1.out (Nat.le_refl _)).more HB1.out.size) HN.out hc hcc).mono ?_)
  rintro e w2 ⟨rfl, hb⟩
  have HB2 : Hid (Below w.heap.size w w2) := HB1.out.trans (hb.mono HB1.out.size)
  clear hb HB1
  by_cases hk : checkO l = 0
  · have HK := Lib.hid hk
    rw [hk]
    clear hk
    go_wp2_with (fail)
    (with_reducible refine (New_ok A n c l _ ((HA.out.below HB2.out (Nat.le_refl _)).more HB2.out.size) HN.out hc hcc HK.out).mono ?_)
    rintro e w3 ⟨d, v, bp, bk, rfl, hD⟩
    have HD : Hid (Dic w2 w3 d v bp bk l) := Dic.of hD (fine_of HK.out) HN.out
    have HB3 : Hid (Below w.heap.size w w3) := HB2.out.trans (hD.below.mono HB2.out.size)
    clear hD
    go_wp2_with (fail)
    (with_reducible refine (check_any A n c l _ ((HA.out.below HB3.out (Nat.le_refl _)).more HB3.out.size) HN.out hc hcc).mono ?_)
    rintro e w4 ⟨rfl, hb⟩
    have HB4 : Hid (Below w.heap.size w w4) := HB3.out.trans (hb.mono HB3.out.size)
    have HD4 : Hid (Dic w2 w4 d v bp bk l) := HD.out.later hb
    rw [HK.out, errV_zero]
    clear hb HD HB3
    go_wp2_with (fail)
    (with_reducible refine (num_nil _).mono ?_)
    rintro e w5 ⟨rfl, rfl⟩
    go_wp2_with (fail)
    (with_reducible refine (num_nil _).mono ?_)
    rintro e w5 ⟨rfl, rfl⟩
    go_wp2_with (fail)
    (with_reducible refine (List_any HD4.out).mono ?_)
    rintro e w5 ⟨v5, rfl, hown, hb⟩
    obtain ⟨A5, c5, rfl, hc51, hc52, hr5⟩ := own_read hown
    rw [HN.out] at hc51 ⊢
    have HB5 : Hid (Below w.heap.size w w5) := HB4.out.trans (hb.mono HB4.out.size)
    have HR5 := Lib.hid hr5
    clear hown hb hr5 HD4 HB4
    go_wp2_with (fail)
    (with_reducible refine (same_eq A5 A n c5 c l _ HR5.out ((HA.out.below HB5.out (Nat.le_refl _)).more HB5.out.size) HN.out (by omega)).mono ?_)
    rintro e w6 ⟨rfl, q, rfl⟩
    go_wp2
    go_ret
    exact ⟨rfl, Below.drewN HB5.out q⟩
  · obtain ⟨k, hkk⟩ : ∃ k, checkO l = k := ⟨_, rfl⟩
    have HK := Lib.hid hkk
    rw [hkk] at hk ⊢
    have HE := Lib.hid (errV_ne hk)
    have hk1 : (k == 0) = false := by simpa using hk
    have hk2 : (k != 0) = true := by simpa using hk
    have HKN := Lib.hid hk
    have hkkk : (k != k) = false := by simp
    clear hk hkk
    go_wp2_with (fail)
    (with_reducible refine (New_err A n c l _ ((HA.out.below HB2.out (Nat.le_refl _)).more HB2.out.size) HN.out hc hcc k HK.out HKN.out).mono ?_)
    rintro e w3 ⟨rfl, hb⟩
    have HB3 : Hid (Below w.heap.size w w3) := HB2.out.trans (hb.mono HB2.out.size)
    clear hb HB2
    go_wp2_with (fail)
    (with_reducible refine (check_any A n c l _ ((HA.out.below HB3.out (Nat.le_refl _)).more HB3.out.size) HN.out hc hcc).mono ?_)
    rintro e w4 ⟨rfl, hb⟩
    have HB4 : Hid (Below w.heap.size w w4) := HB3.out.trans (hb.mono HB3.out.size)
    rw [HK.out, HE.out]
    clear hb HB3
    go_wp2_with (fail)
    (with_reducible refine (num_err k _).mono ?_)
    rintro e w5 ⟨rfl, rfl⟩
    go_wp2_with (fail)
    (with_reducible refine (num_err k _).mono ?_)
    rintro e w5 ⟨rfl, rfl⟩
    go_wp2
    go_ret
    exact ⟨rfl, HB4.out⟩
end Go.Proofs.Yteooabcgojadcaa
