/-
  The statement MappingUnpacks, walked.
-/
import Derived.Test.YteooabcgojadcaaW35
import Derived.Test.YteooabcgojadcaaW30
namespace Go.Proofs.Yteooabcgojadcaa
open Go.RowKit
set_option linter.unusedVariables false

set_option maxRecDepth 100000 in
set_option maxHeartbeats 1000000 in
theorem munpacks_long (A A' A2 : Option Addr) (n c n' c' m e : Nat) (w : World) (hn : n ≤ maxLen) (hn' : n' ≤ maxLen) (hm : m ≤ maxLen) (h : (200 < n ∨ 40 < n') ∨ 100 < m) :
    Calls Try.prog 16 #[.slice A n c, .slice A' n' c', .slice A2 m e] w fun e w' => e = .returned (.bool true) ∧ Below w.heap.size w w' := by
  by_cases h1 : 200 < n ∨ 40 < n'
  · clear h
    have HNO := Lib.hid h1
    unfold maxLen at hm
    clear h1
    go_enter Try.func16, Try.ntmps16
    go_wp2_with (fail)
    refine (awake54_any _).mono ?_
    rintro e0 w1 ⟨rfl, hb⟩
    have HB := Lib.hid hb
    clear hb
    go_wp2_with (fail)
    (with_reducible refine (short_no A A' n c n' c' w1 hn hn' HNO.out).mono ?_)
    rintro e0 w1' ⟨rfl, rfl⟩
    go_wp2_with (fail)
    refine (awake54_any _).mono ?_
    rintro e0 w3 ⟨rfl, hb⟩
    have HB3 : Hid (Below w.heap.size w w3) := HB.out.trans (hb.mono HB.out.size)
    clear hb
    go_wp2
    go_ret
    exact ⟨rfl, HB3.out⟩
  · have k1 : n ≤ 200 := by omega
    have k2 : n' ≤ 40 := by omega
    have h2 : 100 < m := by
      rcases h with h | h
      · exact absurd h h1
      · exact h
    unfold maxLen at hm
    clear h h1 hn hn'
    go_enter Try.func16, Try.ntmps16
    go_wp2_with (fail)
    refine (awake54_any _).mono ?_
    rintro e0 w1 ⟨rfl, hb⟩
    have HB := Lib.hid hb
    clear hb
    go_wp2_with (fail)
    (with_reducible refine (short_yes A A' n c n' c' w1 k1 k2).mono ?_)
    rintro e0 w1' ⟨rfl, rfl⟩
    go_wp2_with (fail)
    refine (awake54_any _).mono ?_
    rintro e0 w3 ⟨rfl, hb⟩
    have HB3 : Hid (Below w.heap.size w w3) := HB.out.trans (hb.mono HB.out.size)
    clear hb
    go_wp2
    go_ret
    exact ⟨rfl, HB3.out⟩

set_option maxRecDepth 100000 in
set_option maxHeartbeats 4000000 in
theorem munpacks_main (A A' A2 : Option Addr) (n c n' c' m e : Nat) (l : List Ob) (ms : List It) (b : List Int) (w : World) (hA : Rd w w.heap.size A (ocells l)) (hn : l.length = n) (hc : n ≤ c) (hcc : c ≤ maxLen)
    (hA' : Rd w w.heap.size A' (mcells ms)) (hn' : ms.length = n') (hc' : n' ≤ c') (hcc' : c' ≤ maxLen) (hA2 : Rd w w.heap.size A2 (kcells .u8 b)) (hm : b.length = m) (hme : m ≤ e) (hemx : e ≤ maxLen) (hrb : ∀ x ∈ b, 0 ≤ x ∧ x < 256) (k1 : n ≤ 200) (k2 : n' ≤ 40) (k3 : m ≤ 100) :
    Calls Try.prog 16 #[.slice A n c, .slice A' n' c', .slice A2 m e] w fun e w' => e = .returned (.bool true) ∧ Below w.heap.size w w' := by
  have HA := Lib.hid hA
  have HN := Lib.hid hn
  have HA' := Lib.hid hA'
  have HN' := Lib.hid hn'
  have HV := Lib.hid hA2
  have HM := Lib.hid hm
  have HRB := Lib.hid hrb
  clear hA hn hA' hn' hA2 hm hrb
  go_enter Try.func16, Try.ntmps16
  go_wp2_with (fail)
  refine (awake54_any _).mono ?_
  rintro e0 w1 ⟨rfl, hb⟩
  have HB1 := Lib.hid hb
  have hs1 := hb.size
  clear hb
  go_wp2_with (fail)
  (with_reducible refine (short_yes A A' n c n' c' w1 k1 k2).mono ?_)
  rintro e0 w1' ⟨rfl, rfl⟩
  go_wp2_with (fail)
  (with_reducible refine (Unpack_any A A' A2 n c n' c' m e l ms b w1 ((HA.out.below HB1.out (Nat.le_refl _)).more hs1) HN.out hc hcc ((HA'.out.below HB1.out (Nat.le_refl _)).more hs1) HN'.out hc' hcc' ((HV.out.below HB1.out (Nat.le_refl _)).more hs1) HM.out hme hemx HRB.out).mono ?_)
  rintro e2 w2 ⟨A3, c3, rfl, hc31, hc32, hr3, hb⟩
  have HB2 : Hid (Below w.heap.size w w2) := HB1.out.trans (hb.mono hs1)
  have hs2 := HB2.out.size
  obtain ⟨⟨x, k⟩, hq⟩ : ∃ q, unpackO l ms b = q := ⟨_, rfl⟩
  rw [hq] at hc31 hr3 ⊢
  simp only at hc31 hr3 ⊢
  have HQ := Lib.hid hq
  have HR3 := Lib.hid hr3
  obtain ⟨X, hX⟩ : ∃ X, x.length = X := ⟨_, rfl⟩
  rw [hX] at hc31 ⊢
  have HX := Lib.hid hX
  have HXM : Hid (X ≤ maxLen) := Nat.le_trans hc31 hc32
  clear hr3 hb hq hc31 hX
  go_wp2_with (fail)
  (with_reducible refine (refUnpack_any A A' A2 n c n' c' m e l ms b w2 ((HA.out.below HB2.out (Nat.le_refl _)).more hs2) HN.out hc hcc ((HA'.out.below HB2.out (Nat.le_refl _)).more hs2) HN'.out hc' hcc' ((HV.out.below HB2.out (Nat.le_refl _)).more hs2) HM.out hme hemx HRB.out).mono ?_)
  rintro e2 w3 ⟨A4, c4, rfl, hc41, hc42, hr4, hb⟩
  have HB3 : Hid (Below w.heap.size w w3) := HB2.out.trans (hb.mono hs2)
  rw [HQ.out] at hr4 ⊢
  simp only at hr4 ⊢
  rw [HX.out]
  have HR33 : Hid (Rd w3 w3.heap.size A3 (icells x)) := (HR3.out.below hb (Nat.le_refl _)).more hb.size
  have HR4 := Lib.hid hr4
  clear hr4 hb hc41 HR3
  go_wp2_with (fail)
  (with_reducible refine (ints_any A3 A4 X X c3 c4 x x w3 HR33.out HR4.out HX.out HX.out HXM.out HXM.out).mono ?_)
  rintro e4 w4 ⟨rfl, q, rfl⟩
  rw [decide_eq_true (rfl : x = x)]
  have HB4 : Hid (Below w.heap.size w (w3.drewN q)) := Below.drewN HB3.out q
  generalize w3.drewN q = w4 at *
  go_wp2_with (fail)
  (with_reducible refine (num_any k _).mono ?_)
  rintro e5 w5 ⟨rfl, rfl⟩
  go_wp2
  go_ret
  exact ⟨rfl, HB4.out⟩
end Go.Proofs.Yteooabcgojadcaa
