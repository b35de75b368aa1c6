/-
  The statement MappingPacks, walked.
-/
import Derived.Test.YteooabcgojadcaaW33
import Derived.Test.YteooabcgojadcaaW23
namespace Go.Proofs.Yteooabcgojadcaa
open Go.RowKit
set_option linter.unusedVariables false

set_option maxRecDepth 100000 in
set_option maxHeartbeats 1000000 in
theorem mpacks_long (A A' A2 : Option Addr) (n c n' c' m e : Nat) (w : World) (hn : n ≤ maxLen) (hn' : n' ≤ maxLen) (hm : m ≤ maxLen) (h : (200 < n ∨ 40 < n') ∨ 60 < m) :
    Calls Try.prog 10 #[.slice A n c, .slice A' n' c', .slice A2 m e] w fun e w' => e = .returned (.bool true) ∧ Below w.heap.size w w' := by
  by_cases h1 : 200 < n ∨ 40 < n'
  · clear h
    have HNO := Lib.hid h1
    unfold maxLen at hm
    clear h1
    go_enter Try.func10, Try.ntmps10
    go_wp2_with (fail)
    refine (awake54_any _).mono ?_
    rintro e0 w1 ⟨rfl, hb⟩
    have HB := Lib.hid hb
    clear hb
    go_wp2_with (fail)
    (with_reducible refine (short_no A A' n c n' c' w1 hn hn' HNO.out).mono ?_)
    rintro e0 w1' ⟨rfl, rfl⟩
    go_wp2_with (fail)
    refine (awake54_any _).mono ?_
    rintro e0 w3 ⟨rfl, hb⟩
    have HB3 : Hid (Below w.heap.size w w3) := HB.out.trans (hb.mono HB.out.size)
    clear hb
    go_wp2
    go_ret
    exact ⟨rfl, HB3.out⟩
  · have k1 : n ≤ 200 := by omega
    have k2 : n' ≤ 40 := by omega
    have h2 : 60 < m := by
      rcases h with h | h
      · exact absurd h h1
      · exact h
    unfold maxLen at hm
    clear h h1 hn hn'
    go_enter Try.func10, Try.ntmps10
    go_wp2_with (fail)
    refine (awake54_any _).mono ?_
    rintro e0 w1 ⟨rfl, hb⟩
    have HB := Lib.hid hb
    clear hb
    go_wp2_with (fail)
    (with_reducible refine (short_yes A A' n c n' c' w1 k1 k2).mono ?_)
    rintro e0 w1' ⟨rfl, rfl⟩
    go_wp2_with (fail)
    refine (awake54_any _).mono ?_
    rintro e0 w3 ⟨rfl, hb⟩
    have HB3 : Hid (Below w.heap.size w w3) := HB.out.trans (hb.mono HB.out.size)
    clear hb
    go_wp2
    go_ret
    exact ⟨rfl, HB3.out⟩

set_option maxRecDepth 100000 in
set_option maxHeartbeats 4000000 in
theorem mpacks_main (A A' A2 : Option Addr) (n c n' c' m e : Nat) (l : List Ob) (ms : List It) (vs : List Int) (w : World) (hA : Rd w w.heap.size A (ocells l)) (hn : l.length = n) (hc : n ≤ c) (hcc : c ≤ maxLen)
    (hA' : Rd w w.heap.size A' (mcells ms)) (hn' : ms.length = n') (hc' : n' ≤ c') (hcc' : c' ≤ maxLen) (hA2 : Rd w w.heap.size A2 (icells vs)) (hm : vs.length = m) (hme : m ≤ e) (hemx : e ≤ maxLen) (k1 : n ≤ 200) (k2 : n' ≤ 40) (k3 : m ≤ 60) :
    Calls Try.prog 10 #[.slice A n c, .slice A' n' c', .slice A2 m e] w fun e w' => e = .returned (.bool true) ∧ Below w.heap.size w w' := by
  have HA := Lib.hid hA
  have HN := Lib.hid hn
  have HA' := Lib.hid hA'
  have HN' := Lib.hid hn'
  have HV := Lib.hid hA2
  have HM := Lib.hid hm
  clear hA hn hA' hn' hA2 hm
  go_enter Try.func10, Try.ntmps10
  go_wp2_with (fail)
  refine (awake54_any _).mono ?_
  rintro e0 w1 ⟨rfl, hb⟩
  have HB1 := Lib.hid hb
  have hs1 := hb.size
  clear hb
  go_wp2_with (fail)
  (with_reducible refine (short_yes A A' n c n' c' w1 k1 k2).mono ?_)
  rintro e0 w1' ⟨rfl, rfl⟩
  go_wp2_with (fail)
  (with_reducible refine (Pack_any A A' A2 n c n' c' m e l ms vs w1 ((HA.out.below HB1.out (Nat.le_refl _)).more hs1) HN.out hc hcc ((HA'.out.below HB1.out (Nat.le_refl _)).more hs1) HN'.out hc' hcc' ((HV.out.below HB1.out (Nat.le_refl _)).more hs1) HM.out hme hemx).mono ?_)
  rintro e2 w2 ⟨A3, c3, rfl, hc31, hc32, hr3, hb⟩
  have HB2 : Hid (Below w.heap.size w w2) := HB1.out.trans (hb.mono hs1)
  have hs2 := HB2.out.size
  obtain ⟨⟨x, k⟩, hq⟩ : ∃ q, packO l ms vs = q := ⟨_, rfl⟩
  rw [hq] at hr3 ⊢
  simp only at hr3 ⊢
  have HQ := Lib.hid hq
  have HR3 := Lib.hid hr3
  obtain ⟨X, hX⟩ : ∃ X, x.length = X := ⟨_, rfl⟩
  rw [hX]
  have HX := Lib.hid hX
  clear hr3 hb hq hc31 hX
  go_wp2_with (fail)
  (with_reducible refine (refPack_any A A' A2 n c n' c' m e l ms vs w2 ((HA.out.below HB2.out (Nat.le_refl _)).more hs2) HN.out hc hcc ((HA'.out.below HB2.out (Nat.le_refl _)).more hs2) HN'.out hc' hcc' ((HV.out.below HB2.out (Nat.le_refl _)).more hs2) HM.out hme hemx).mono ?_)
  rintro e2 w3 ⟨A4, c4, rfl, hc41, hc42, hr4, hb⟩
  have HB3 : Hid (Below w.heap.size w w3) := HB2.out.trans (hb.mono hs2)
  rw [HQ.out] at hr4 ⊢
  simp only at hr4 ⊢
  rw [HX.out]
  have t1 : (convert 35 9 (.slice A3 X c3)).run Try.prog w3 = .ok (.string (strOfNums x)) w3 := str_of (B := w2.heap.size) (HR3.out.below hb (Nat.le_refl _)) HX.out
  have t2 : (convert 35 9 (.slice A4 X c4)).run Try.prog w3 = .ok (.string (strOfNums x)) w3 := str_of hr4 HX.out
  clear hr4 hb hc41 HR3
  go_wp2_with (fail)
  (with_reducible refine (num_any k _).mono ?_)
  rintro e4 w4 ⟨rfl, rfl⟩
  go_wp2
  go_ret
  exact ⟨rfl, HB3.out⟩
end Go.Proofs.Yteooabcgojadcaa
