/-
  The statement MappingChecks, walked.
-/
import Derived.Test.YteooabcgojadcaaW37
import Derived.Test.YteooabcgojadcaaW30
namespace Go.Proofs.Yteooabcgojadcaa
open Go.RowKit
set_option linter.unusedVariables false

set_option maxRecDepth 100000 in
set_option maxHeartbeats 1000000 in
theorem mchecks_long (A A' : Option Addr) (n c n' c' : Nat) (ot : Bool) (w : World) (hn : n ≤ maxLen) (hn' : n' ≤ maxLen) (h : 200 < n ∨ 40 < n') :
    Calls Try.prog 15 #[.slice A n c, .slice A' n' c', .bool ot] w fun e w' => e = .returned (.bool true) ∧ Below w.heap.size w w' := by
  have HNO := Lib.hid h
  clear h
  go_enter Try.func15, Try.ntmps15
  go_wp2_with (fail)
  refine (awake54_any _).mono ?_
  rintro e0 w1 ⟨rfl, hb⟩
  have HB := Lib.hid hb
  clear hb
  go_wp2_with (fail)
  (with_reducible refine (short_no A A' n c n' c' w1 hn hn' HNO.out).mono ?_)
  rintro e0 w1' ⟨rfl, rfl⟩
  go_wp2_with (fail)
  refine (awake54_any _).mono ?_
  rintro e0 w3 ⟨rfl, hb⟩
  have HB3 : Hid (Below w.heap.size w w3) := HB.out.trans (hb.mono HB.out.size)
  clear hb
  go_wp2
  go_ret
  exact ⟨rfl, HB3.out⟩

set_option maxRecDepth 100000 in
set_option maxHeartbeats 4000000 in
theorem mchecks_main (A A' : Option Addr) (n c n' c' : Nat) (l : List Ob) (ms : List It) (ot : Bool) (w : World) (hA : Rd w w.heap.size A (ocells l)) (hn : l.length = n) (hc : n ≤ c) (hcc : c ≤ maxLen)
    (hA' : Rd w w.heap.size A' (mcells ms)) (hn' : ms.length = n') (hc' : n' ≤ c') (hcc' : c' ≤ maxLen) (k1 : n ≤ 200) (k2 : n' ≤ 40) :
    Calls Try.prog 15 #[.slice A n c, .slice A' n' c', .bool ot] w fun e w' => e = .returned (.bool true) ∧ Below w.heap.size w w' := by
  have HA := Lib.hid hA
  have HN := Lib.hid hn
  have HA' := Lib.hid hA'
  have HN' := Lib.hid hn'
  clear hA hn hA' hn'
  obtain ⟨⟨N, h⟩, hz⟩ : ∃ q, sizeO l ms = q := ⟨_, rfl⟩
  have HZ := Lib.hid hz
  have HZ0 : Hid (h ≠ 0 → N = 0) := by
    intro hh
    unfold sizeO sizeQ at hz
    split at hz
    · simp only [Prod.mk.injEq] at hz; exact hz.1.symm
    · simp only [Prod.mk.injEq] at hz; exact absurd hz.2.symm hh
  obtain ⟨fc, hfc⟩ : ∃ q, (findM l (chkO ms ot) ms).2 = q := ⟨_, rfl⟩
  have HFC := Lib.hid hfc
  clear hz hfc
  go_enter Try.func15, Try.ntmps15
  go_wp2_with (fail)
  refine (awake54_any _).mono ?_
  rintro e0 w1 ⟨rfl, hb⟩
  have HB1 := Lib.hid hb
  have hs1 := hb.size
  clear hb
  go_wp2_with (fail)
  (with_reducible refine (short_yes A A' n c n' c' w1 k1 k2).mono ?_)
  rintro e0 w1' ⟨rfl, rfl⟩
  go_wp2_with (fail)
  (with_reducible refine (Size_any A A' n c n' c' l ms w1 ((HA.out.below HB1.out (Nat.le_refl _)).more hs1) HN.out hc hcc ((HA'.out.below HB1.out (Nat.le_refl _)).more hs1) HN'.out hc' hcc').mono ?_)
  rintro e0 w2 ⟨rfl, hb⟩
  have HB2 : Hid (Below w.heap.size w w2) := HB1.out.trans (hb.mono hs1)
  have hs2 := HB2.out.size
  rw [HZ.out]
  simp only
  clear hb
  go_wp2_with (fail)
  (with_reducible refine (refSize_any A A' n c n' c' l ms w2 ((HA.out.below HB2.out (Nat.le_refl _)).more hs2) HN.out hc hcc ((HA'.out.below HB2.out (Nat.le_refl _)).more hs2) HN'.out hc' hcc').mono ?_)
  rintro e0 w3 ⟨rfl, hb⟩
  have HB3 : Hid (Below w.heap.size w w3) := HB2.out.trans (hb.mono hs2)
  have hs3 := HB3.out.size
  rw [HZ.out]
  simp only
  clear hb
  by_cases hh : h = 0
  case' neg =>
    have hN := HZ0.out hh
    subst hN
    have hne : (h != 0) = true := by simp [hh]
    clear hh
  case' pos =>
    subst hh
  all_goals
    go_wp2_with (fail)
    (with_reducible refine (Check_any A A' n c n' c' l ms ot w3 ((HA.out.below HB3.out (Nat.le_refl _)).more hs3) HN.out hc hcc ((HA'.out.below HB3.out (Nat.le_refl _)).more hs3) HN'.out hc' hcc').mono ?_)
    rintro e0 w4 ⟨rfl, hb⟩
    have HB4 : Hid (Below w.heap.size w w4) := HB3.out.trans (hb.mono hs3)
    have hs4 := HB4.out.size
    rw [HFC.out]
    clear hb
    go_wp2_with (fail)
    (with_reducible refine (num_any fc _).mono ?_)
    rintro e0 w4' ⟨rfl, rfl⟩
    go_wp2_with (fail)
    (with_reducible refine (refCheck54_any A A' n c n' c' l ms ot w4 ((HA.out.below HB4.out (Nat.le_refl _)).more hs4) HN.out hc hcc ((HA'.out.below HB4.out (Nat.le_refl _)).more hs4) HN'.out hc' hcc').mono ?_)
    rintro e0 w5 ⟨rfl, hb⟩
    have HB5 : Hid (Below w.heap.size w w5) := HB4.out.trans (hb.mono hs4)
    rw [HFC.out]
    clear hb
    go_wp2_with (fail)
    (with_reducible refine (num_any _ _).mono ?_)
    rintro e0 w5' ⟨rfl, rfl⟩
    go_wp2
    go_ret
    exact ⟨rfl, HB5.out⟩
end Go.Proofs.Yteooabcgojadcaa
