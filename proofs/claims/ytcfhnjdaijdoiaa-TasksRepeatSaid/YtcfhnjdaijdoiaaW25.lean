/-
  The statement TasksCheck, walked.
-/
import Derived.Test.YtcfhnjdaijdoiaaW24
import Derived.Test.YtcfhnjdaijdoiaaW14
import Derived.Test.YtcfhnjdaijdoiaaW17
namespace Go.Proofs.Ytcfhnjdaijdoiaa
open Go.RowKit
set_option linter.unusedVariables false

theorem givenC_bad {l : List Tsk} {k : Int} (T : Int) (hk : check l = k) (hk0 : k ≠ 0) : givenC l T = k := by
  unfold givenC; rw [hk, if_pos hk0]

set_option maxHeartbeats 1000000 in
theorem tcheck_long (A : Option Addr) (n c : Nat) (w : World) (hn : n ≤ maxLen) (h40 : 40 < n) :
    Calls Try.prog 9 #[.slice A n c] w fun e w' => e = .returned (.bool true) ∧ Below w.heap.size w w' := by
  unfold maxLen at hn
  go_enter Try.func9, Try.ntmps9
  go_wp2_with (fail)
  refine (awake42 _).mono ?_
  rintro e w1 ⟨rfl, hb⟩
  have HB := Lib.hid hb
  clear hb
  go_wp2_with (fail)
  refine (awake42 _).mono ?_
  rintro e w3 ⟨rfl, hb⟩
  have HB3 : Hid (Below w.heap.size w w3) := HB.out.trans (hb.mono HB.out.size)
  clear hb
  go_wp2
  go_ret
  exact ⟨rfl, HB3.out⟩

set_option maxHeartbeats 2000000 in
theorem tcheck_bad (A : Option Addr) (n c : Nat) (l : List Tsk) (w : World) (hA : Rd w w.heap.size A (tcells l)) (hn : l.length = n) (hc : n ≤ c) (hcc : c ≤ maxLen) (h40 : n ≤ 40) (k : Int) (hk : check l = k) (hk0 : k ≠ 0) :
    Calls Try.prog 9 #[.slice A n c] w fun e w' => e = .returned (.bool true) ∧ Below w.heap.size w w' := by
  have HA := Lib.hid hA
  have HN := Lib.hid hn
  have HK := Lib.hid hk
  have HK0 := Lib.hid hk0
  have HG : Hid (givenC l 1 = k) := givenC_bad 1 hk hk0
  have HE : Hid (errV k = .iface 47 (.int .i64 k)) := errV_ne hk0
  have hkb : (k == 0) = false := by simpa using hk0
  clear hA hn hk
  go_enter Try.func9, Try.ntmps9
  go_wp2_with (fail)
  refine (awake42 _).mono ?_
  rintro e w1 ⟨rfl, hb⟩
  have HB := Lib.hid hb
  have hs := hb.size
  clear hb
  go_wp2_with (fail)
  (with_reducible refine (refCheck_any A n c l _ ((HA.out.below HB.out (Nat.le_refl _)).more hs) HN.out hc hcc).mono ?_)
  rintro e w2 ⟨rfl, hb⟩
  rw [HK.out]
  have HB2 : Hid (Below w.heap.size w w2) := HB.out.trans (hb.mono hs)
  have hs2 := HB2.out.size
  clear hb
  go_wp2_with (fail)
  (with_reducible refine (Hyper_err A n c l _ ((HA.out.below HB2.out (Nat.le_refl _)).more hs2) HN.out hc hcc k HK.out HK0.out).mono ?_)
  rintro e w3 ⟨rfl, hb⟩
  have HB3 : Hid (Below w.heap.size w w3) := HB2.out.trans (hb.mono hs2)
  have hs3 := HB3.out.size
  clear hb
  go_wp2_with (fail)
  (with_reducible refine (Load_err A n c l _ ((HA.out.below HB3.out (Nat.le_refl _)).more hs3) HN.out hc hcc k HK.out HK0.out).mono ?_)
  rintro e w4 ⟨rfl, hb⟩
  have HB4 : Hid (Below w.heap.size w w4) := HB3.out.trans (hb.mono hs3)
  have hs4 := HB4.out.size
  clear hb
  go_wp2_with (fail)
  (with_reducible refine (check_any A n c l _ ((HA.out.below HB4.out (Nat.le_refl _)).more hs4) HN.out hc hcc).mono ?_)
  rintro e w5 ⟨rfl, hb⟩
  rw [HK.out, HE.out]
  have HB5 : Hid (Below w.heap.size w w5) := HB4.out.trans (hb.mono hs4)
  have hs5 := HB5.out.size
  clear hb
  go_wp2_with (fail)
  refine (num_err k _).mono ?_
  rintro e w6 ⟨rfl, rfl⟩
  go_wp2_with (fail)
  (with_reducible refine (Timeline_err A n c 1 l _ ((HA.out.below HB5.out (Nat.le_refl _)).more hs5) HN.out hc hcc k HG.out HK0.out).mono ?_)
  rintro e w6 ⟨rfl, hb⟩
  have HB6 : Hid (Below w.heap.size w w6) := HB5.out.trans (hb.mono hs5)
  have hs6 := HB6.out.size
  clear hb
  go_wp2_with (fail)
  (with_reducible refine (Jobs_err A n c 1 l _ ((HA.out.below HB6.out (Nat.le_refl _)).more hs6) HN.out hc hcc k HG.out HK0.out).mono ?_)
  rintro e w7 ⟨rfl, hb⟩
  have HB7 : Hid (Below w.heap.size w w7) := HB6.out.trans (hb.mono hs6)
  have hs7 := HB7.out.size
  clear hb
  go_wp2_with (fail)
  (with_reducible refine (Late_err A n c 1 l _ ((HA.out.below HB7.out (Nat.le_refl _)).more hs7) HN.out hc hcc k HG.out HK0.out).mono ?_)
  rintro e w8 ⟨rfl, hb⟩
  have HB8 : Hid (Below w.heap.size w w8) := HB7.out.trans (hb.mono hs7)
  clear hb
  go_wp2_with (fail)
  refine (num_err k _).mono ?_
  rintro e w9 ⟨rfl, rfl⟩
  go_wp2_with (fail)
  refine (num_err k _).mono ?_
  rintro e w9 ⟨rfl, rfl⟩
  go_wp2_with (fail)
  refine (num_err k _).mono ?_
  rintro e w9 ⟨rfl, rfl⟩
  go_wp2_with (fail)
  refine (num_err k _).mono ?_
  rintro e w9 ⟨rfl, rfl⟩
  go_wp2_with (fail)
  refine (num_err k _).mono ?_
  rintro e w9 ⟨rfl, rfl⟩
  go_wp2
  go_ret
  exact ⟨rfl, HB8.out⟩

def hyperN : Option Nat → Int × Int
  | none => (0, 4)
  | some H => (H, 0)

set_option maxHeartbeats 4000000 in
theorem tcheck_ok (A : Option Addr) (n c : Nat) (l : List Tsk) (w : World) (hA : Rd w w.heap.size A (tcells l)) (hn : l.length = n) (hc : n ≤ c) (hcc : c ≤ maxLen) (h40 : n ≤ 40) (hk : check l = 0) :
    Calls Try.prog 9 #[.slice A n c] w fun e w' => e = .returned (.bool true) ∧ Below w.heap.size w w' := by
  have HA := Lib.hid hA
  have HN := Lib.hid hn
  have HK := Lib.hid hk
  clear hA hn hk
  go_enter Try.func9, Try.ntmps9
  go_wp2_with (fail)
  refine (awake42 _).mono ?_
  rintro e w1 ⟨rfl, hb⟩
  have HB := Lib.hid hb
  have hs := hb.size
  clear hb
  go_wp2_with (fail)
  (with_reducible refine (refCheck_any A n c l _ ((HA.out.below HB.out (Nat.le_refl _)).more hs) HN.out hc hcc).mono ?_)
  rintro e w2 ⟨rfl, hb⟩
  rw [HK.out]
  have HB2 : Hid (Below w.heap.size w w2) := HB.out.trans (hb.mono hs)
  have hs2 := HB2.out.size
  clear hb
  go_wp2_with (fail)
  (with_reducible refine (Hyper_ok A n c l _ ((HA.out.below HB2.out (Nat.le_refl _)).more hs2) HN.out hc hcc HK.out).mono ?_)
  rintro e w3 ⟨rfl, hb⟩
  have HB3 : Hid (Below w.heap.size w w3) := HB2.out.trans (hb.mono hs2)
  have hs3 := HB3.out.size
  clear hb
  obtain ⟨ho, hho⟩ : ∃ ho, hyper l = ho := ⟨_, rfl⟩
  have HH := Lib.hid hho
  clear hho
  rw [HH.out]
  cases ho <;> (
    simp only [hyperV]
    go_wp2_with (fail)
    (with_reducible refine (Load_ok A n c l _ ((HA.out.below HB3.out (Nat.le_refl _)).more hs3) HN.out hc hcc HK.out).mono ?_)
    rintro e w4 ⟨rfl, hb⟩
    rw [HH.out]
    have HB4 : Hid (Below w.heap.size w w4) := HB3.out.trans (hb.mono hs3)
    have hs4 := HB4.out.size
    clear hb
    simp only [loadV]
    go_wp2_with (fail)
    (with_reducible refine (check_any A n c l _ ((HA.out.below HB4.out (Nat.le_refl _)).more hs4) HN.out hc hcc).mono ?_)
    rintro e w5 ⟨rfl, hb⟩
    rw [HK.out, errV_zero]
    have HB5 : Hid (Below w.heap.size w w5) := HB4.out.trans (hb.mono hs4)
    have hs5 := HB5.out.size
    clear hb
    go_wp2_with (fail)
    refine (num_nil _).mono ?_
    rintro e w6 ⟨rfl, rfl⟩
    go_wp2_with (fail)
    (with_reducible refine (refHyper_ok A n c l _ ((HA.out.below HB5.out (Nat.le_refl _)).more hs5) HN.out hc hcc HK.out).mono ?_)
    rintro e w6 ⟨rfl, hb⟩
    rw [HH.out]
    have HB6 : Hid (Below w.heap.size w w6) := HB5.out.trans (hb.mono hs5)
    have hs6 := HB6.out.size
    clear hb
    simp only [refHyperV]
    go_wp2_with (fail)
    (with_reducible refine (refLoad_ok A n c l _ ((HA.out.below HB6.out (Nat.le_refl _)).more hs6) HN.out hc hcc HK.out).mono ?_)
    rintro e w7 ⟨rfl, hb⟩
    rw [HH.out]
    have HB7 : Hid (Below w.heap.size w w7) := HB6.out.trans (hb.mono hs6)
    clear hb
    simp only [refLoadV]
    go_wp2_with (fail)
    first
      | (with_reducible refine (num_nil _).mono ?_)
      | (with_reducible refine (num_err 4 _).mono ?_)
    rintro e w8 ⟨rfl, rfl⟩
    go_wp2_with (fail)
    first
      | (with_reducible refine (num_nil _).mono ?_)
      | (with_reducible refine (num_err 4 _).mono ?_)
    rintro e w8 ⟨rfl, rfl⟩
    go_wp2
    go_ret
    exact ⟨rfl, HB7.out⟩)
end Go.Proofs.Ytcfhnjdaijdoiaa
