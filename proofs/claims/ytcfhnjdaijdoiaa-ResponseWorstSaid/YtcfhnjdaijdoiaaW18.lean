/-
  The statement ResponseWorst, walked.
-/
import Derived.Test.YtcfhnjdaijdoiaaW17
namespace Go.Proofs.Ytcfhnjdaijdoiaa
open Go.RowKit
set_option linter.unusedVariables false

set_option maxRecDepth 100000 in
set_option maxHeartbeats 1000000 in
theorem rworst_far (A : Option Addr) (n c : Nat) (l : List Tsk) (w : World) (hA : Rd w w.heap.size A (tcells l)) (hn : l.length = n) (hc : n ≤ c) (hcc : c ≤ maxLen) (h40 : 40 < n) :
    Calls Try.prog 16 #[.slice A n c] w fun e w' => e = .returned (.bool true) ∧ Below w.heap.size w w' := by
  clear hA hn
  go_enter Try.func16, Try.ntmps16
  go_wp2_with (fail)
  refine (awake43 _).mono ?_
  rintro e w1 ⟨rfl, hb⟩
  have HB := Lib.hid hb
  clear hb
  go_wp2_with (fail)
  refine (awake43 _).mono ?_
  rintro e w3 ⟨rfl, hb⟩
  have HB3 : Hid (Below w.heap.size w w3) := HB.out.trans (hb.mono HB.out.size)
  clear hb
  go_wp2
  go_ret
  exact ⟨rfl, HB3.out⟩

set_option maxRecDepth 100000 in
set_option maxHeartbeats 2000000 in
theorem rworst_err (A : Option Addr) (n c : Nat) (l : List Tsk) (w : World) (hA : Rd w w.heap.size A (tcells l)) (hn : l.length = n) (hc : n ≤ c) (hcc : c ≤ maxLen) (h40 : n ≤ 40) (k : Int) (hk : check l = k) (hk0 : k ≠ 0) :
    Calls Try.prog 16 #[.slice A n c] w fun e w' => e = .returned (.bool true) ∧ Below w.heap.size w w' := by
  have q0 : (k != 0) = true := by simpa using hk0
  have HA := Lib.hid hA
  have HN := Lib.hid hn
  have HK := Lib.hid hk
  have HK0 := Lib.hid hk0
  clear hA hn hk hk0
  go_enter Try.func16, Try.ntmps16
  go_wp2_with (fail)
  refine (awake43 _).mono ?_
  rintro e w1 ⟨rfl, hb⟩
  have HB := Lib.hid hb
  have hs := hb.size
  clear hb
  go_wp2_with (fail)
  (with_reducible refine (Worst_err A n c l _ ((HA.out.below HB.out (Nat.le_refl _)).more hs) HN.out hc hcc k HK.out HK0.out).mono ?_)
  rintro e w2 ⟨rfl, hb⟩
  have HB2 : Hid (Below w.heap.size w w2) := HB.out.trans (hb.mono hs)
  have hs2 := HB2.out.size
  clear hb
  go_wp2_with (fail)
  (with_reducible refine (Meets_err A n c l _ ((HA.out.below HB2.out (Nat.le_refl _)).more hs2) HN.out hc hcc k HK.out HK0.out).mono ?_)
  rintro e w3 ⟨rfl, hb⟩
  have HB3 : Hid (Below w.heap.size w w3) := HB2.out.trans (hb.mono hs2)
  have hs3 := HB3.out.size
  clear hb
  go_wp2_with (fail)
  (with_reducible refine (Busy_err A n c l 0 _ ((HA.out.below HB3.out (Nat.le_refl _)).more hs3) HN.out hc hcc k HK.out HK0.out).mono ?_)
  rintro e w4 ⟨rfl, hb⟩
  have HB4 : Hid (Below w.heap.size w w4) := HB3.out.trans (hb.mono hs3)
  have hs4 := HB4.out.size
  clear hb
  go_wp2_with (fail)
  (with_reducible refine (Slack_err A n c l 0 _ ((HA.out.below HB4.out (Nat.le_refl _)).more hs4) HN.out hc hcc k HK.out HK0.out).mono ?_)
  rintro e w5 ⟨rfl, hb⟩
  have HB5 : Hid (Below w.heap.size w w5) := HB4.out.trans (hb.mono hs4)
  have hs5 := HB5.out.size
  clear hb
  go_wp2_with (fail)
  (with_reducible refine (Assign_err A n c l _ ((HA.out.below HB5.out (Nat.le_refl _)).more hs5) HN.out hc hcc k HK.out HK0.out).mono ?_)
  rintro e w6 ⟨rfl, hb⟩
  have HB6 : Hid (Below w.heap.size w w6) := HB5.out.trans (hb.mono hs5)
  have hs6 := HB6.out.size
  clear hb
  go_wp2_with (fail)
  (with_reducible refine (refCheck_any A n c l _ ((HA.out.below HB6.out (Nat.le_refl _)).more hs6) HN.out hc hcc).mono ?_)
  rintro e w7 ⟨rfl, hb⟩
  rw [HK.out]
  have HB7 : Hid (Below w.heap.size w w7) := HB6.out.trans (hb.mono hs6)
  clear hb
  go_wp2_with (fail)
  refine (num_err k _).mono ?_
  rintro e w8 ⟨rfl, rfl⟩
  go_wp2_with (fail)
  refine (num_err k _).mono ?_
  rintro e w8 ⟨rfl, rfl⟩
  go_wp2_with (fail)
  refine (num_err k _).mono ?_
  rintro e w8 ⟨rfl, rfl⟩
  go_wp2_with (fail)
  refine (num_err k _).mono ?_
  rintro e w8 ⟨rfl, rfl⟩
  go_wp2_with (fail)
  refine (num_err k _).mono ?_
  rintro e w8 ⟨rfl, rfl⟩
  go_wp2
  go_ret
  exact ⟨rfl, HB7.out⟩

set_option maxRecDepth 100000 in
set_option maxHeartbeats 2000000 in
theorem rworst_ok (A : Option Addr) (n c : Nat) (l : List Tsk) (w : World) (hA : Rd w w.heap.size A (tcells l)) (hn : l.length = n) (hc : n ≤ c) (hcc : c ≤ maxLen) (hk : check l = 0) :
    Calls Try.prog 16 #[.slice A n c] w fun e w' => e = .returned (.bool true) ∧ Below w.heap.size w w' := by
  have h1 := eq_nil
  have q0 : ((0 : Int) != 0) = false := rfl
  have hn8 := (good_of_check hk).2
  rw [hn] at hn8
  have hnm : n ≤ maxLen := Nat.le_trans hc hcc
  have HA := Lib.hid hA
  have HN := Lib.hid hn
  have HK := Lib.hid hk
  clear hA hn hk
  go_enter Try.func16, Try.ntmps16
  go_wp2_with (fail)
  refine (awake43 _).mono ?_
  rintro e w1 ⟨rfl, hb⟩
  have HB := Lib.hid hb
  have hs := hb.size
  clear hb
  go_wp2_with (fail)
  (with_reducible refine (Worst_ok A n c l _ ((HA.out.below HB.out (Nat.le_refl _)).more hs) HN.out hc hcc HK.out).mono ?_)
  rintro e w2 ⟨X, cx, rfl, hx1, hx2, hr, hb⟩
  have HX2 := Lib.hid hr
  have HB2 : Hid (Below w.heap.size w w2) := HB.out.trans (hb.mono hs)
  have hs2 := HB2.out.size
  clear hr hb
  go_wp2_with (fail)
  (with_reducible refine (Meets_ok A n c l _ ((HA.out.below HB2.out (Nat.le_refl _)).more hs2) HN.out hc hcc HK.out).mono ?_)
  rintro e w3 ⟨rfl, hb⟩
  have HX3 : Hid (Rd w3 w3.heap.size X (icells (l.map (worst l)))) := (HX2.out.below hb (Nat.le_refl _)).more hb.size
  have HB3 : Hid (Below w.heap.size w w3) := HB2.out.trans (hb.mono hs2)
  have hs3 := HB3.out.size
  clear hb HX2
  go_wp2_with (fail)
  (with_reducible refine (Busy_any A n c l 0 _ ((HA.out.below HB3.out (Nat.le_refl _)).more hs3) HN.out hc hcc HK.out).mono ?_)
  rintro e w4 ⟨v, k, hr, rfl, hb⟩
  have HX4 : Hid (Rd w4 w4.heap.size X (icells (l.map (worst l)))) := (HX3.out.below hb (Nat.le_refl _)).more hb.size
  have HB4 : Hid (Below w.heap.size w w4) := HB3.out.trans (hb.mono hs3)
  have hs4 := HB4.out.size
  clear hb HX3 hr
  go_wp2_with (fail)
  (with_reducible refine (Slack_any A n c l 0 _ ((HA.out.below HB4.out (Nat.le_refl _)).more hs4) HN.out hc hcc HK.out).mono ?_)
  rintro e w5 ⟨v2, k2, hr, rfl, hb⟩
  have HX5 : Hid (Rd w5 w5.heap.size X (icells (l.map (worst l)))) := (HX4.out.below hb (Nat.le_refl _)).more hb.size
  have HB5 : Hid (Below w.heap.size w w5) := HB4.out.trans (hb.mono hs4)
  have hs5 := HB5.out.size
  clear hb HX4 hr
  go_wp2_with (fail)
  (with_reducible refine (Assign_ok A n c l _ ((HA.out.below HB5.out (Nat.le_refl _)).more hs5) HN.out hc hcc HK.out).mono ?_)
  rintro e w6 ⟨Y, cy, rfl, hy1, hy2, hr, hb⟩
  have HX6 : Hid (Rd w6 w6.heap.size X (icells (l.map (worst l)))) := (HX5.out.below hb (Nat.le_refl _)).more hb.size
  have HB6 : Hid (Below w.heap.size w w6) := HB5.out.trans (hb.mono hs5)
  have hs6 := HB6.out.size
  clear hb HX5 hr
  go_wp2_with (fail)
  (with_reducible refine (refCheck_any A n c l _ ((HA.out.below HB6.out (Nat.le_refl _)).more hs6) HN.out hc hcc).mono ?_)
  rintro e w7 ⟨rfl, hb⟩
  rw [HK.out]
  have HX7 : Hid (Rd w7 w7.heap.size X (icells (l.map (worst l)))) := (HX6.out.below hb (Nat.le_refl _)).more hb.size
  have HB7 : Hid (Below w.heap.size w w7) := HB6.out.trans (hb.mono hs6)
  have hs7 := HB7.out.size
  clear hb HX6
  go_wp2_with (fail)
  (with_reducible refine (refWorst_any A n c l _ ((HA.out.below HB7.out (Nat.le_refl _)).more hs7) HN.out HK.out).mono ?_)
  rintro e w8 ⟨Z, cz, rfl, hz1, hz2, hr, hb⟩
  have HZ8 := Lib.hid hr
  have HX8 : Hid (Rd w8 w8.heap.size X (icells (l.map (worst l)))) := (HX7.out.below hb (Nat.le_refl _)).more hb.size
  have HB8 : Hid (Below w.heap.size w w8) := HB7.out.trans (hb.mono hs7)
  have hs8 := HB8.out.size
  have HWN : Hid ((l.map (worst l)).length = n) := by rw [List.length_map]; exact HN.out
  clear hb HX7 hr
  generalize l.map (worst l) = ws at *
  go_wp2_with (fail)
  (with_reducible refine (ints_any X Z n n cx cz ws ws _ HX8.out HZ8.out HWN.out HWN.out hnm hnm).mono ?_)
  rintro e w9 ⟨rfl, q, rfl⟩
  have HB9 : Hid (Below w.heap.size w (w8.drewN q)) := Below.drewN HB8.out q
  have hs9 := HB9.out.size
  rw [show decide (ws = ws) = true from by simp]
  go_wp2_with (fail)
  (with_reducible refine (refMeets_any A n c l _ ((HA.out.below HB9.out (Nat.le_refl _)).more hs9) HN.out HK.out).mono ?_)
  rintro e w10 ⟨rfl, hb⟩
  have HB10 : Hid (Below w.heap.size w w10) := HB9.out.trans (hb.mono hs9)
  clear hb
  generalize meets l = bm at *
  have hbm : (bm == bm) = true := by simp
  go_wp2
  go_ret
  exact ⟨by simp, HB10.out⟩
end Go.Proofs.Ytcfhnjdaijdoiaa
