/-
  The refused branches of MappingBack.
-/
import Derived.Test.YteooabcgojadcaaW23
namespace Go.Proofs.Yteooabcgojadcaa
open Go.RowKit
set_option linter.unusedVariables false

set_option maxRecDepth 100000 in
set_option maxHeartbeats 1000000 in
theorem mback_long (A A' A2 B : Option Addr) (n c n' c' n2 c2 m e : Nat) (w : World) (hn : n ≤ maxLen) (hn' : n' ≤ maxLen) (hn2 : n2 ≤ maxLen) (hm : m ≤ maxLen) (h : (200 < n ∨ 40 < n') ∨ 60 < n2 ∨ 100 < m) :
    Calls Try.prog 17 #[.slice A n c, .slice A' n' c', .agg #[.slice A2 n2 c2, .slice B m e]] w fun e w' => e = .returned (.bool true) ∧ Below w.heap.size w w' := by
  by_cases h1 : 200 < n ∨ 40 < n'
  · clear h
    have HNO := Lib.hid h1
    clear h1
    go_enter Try.func17, Try.ntmps17
    go_wp2_with (fail)
    refine (awake54_any _).mono ?_
    rintro e0 w1 ⟨rfl, hb⟩
    have HB : Hid (Below w.heap.size w w1) := ((Below.refl _ _).alloc (Nat.le_refl _) _).trans (hb.mono (by simp))
    have p0 : w1.cell? ⟨w.heap.size, 0, none⟩ = some (.slice A2 n2 c2) := by
      rw [hb.cell (p := ⟨w.heap.size, 0, none⟩) (by simp)]
      exact cell_new_at _ _ _ _ _ _ rfl rfl
    have p1 : w1.cell? ⟨w.heap.size, 1, none⟩ = some (.slice B m e) := by
      rw [hb.cell (p := ⟨w.heap.size, 1, none⟩) (by simp)]
      exact cell_new_at _ _ _ _ _ _ rfl rfl
    clear hb
    go_wp2_with (fail)
    (with_reducible refine (short_no A A' n c n' c' w1 hn hn' HNO.out).mono ?_)
    rintro e0 w1' ⟨rfl, rfl⟩
    go_wp2_with (fail)
    refine (awake54_any _).mono ?_
    rintro e0 w3 ⟨rfl, hb⟩
    have HB3 : Hid (Below w.heap.size w w3) := HB.out.trans (hb.mono HB.out.size)
    clear hb
    go_wp2
    go_ret
    exact ⟨rfl, HB3.out⟩
  · have k1 : n ≤ 200 := by omega
    have k2 : n' ≤ 40 := by omega
    have h2 : 60 < n2 ∨ 100 < m := by
      rcases h with h | h
      · exact absurd h h1
      · exact h
    unfold maxLen at hn2 hm
    clear h h1 hn hn'
    by_cases h3 : 60 < n2
    · clear h2
      go_enter Try.func17, Try.ntmps17
      go_wp2_with (fail)
      refine (awake54_any _).mono ?_
      rintro e0 w1 ⟨rfl, hb⟩
      have HB : Hid (Below w.heap.size w w1) := ((Below.refl _ _).alloc (Nat.le_refl _) _).trans (hb.mono (by simp))
      have p0 : w1.cell? ⟨w.heap.size, 0, none⟩ = some (.slice A2 n2 c2) := by
        rw [hb.cell (p := ⟨w.heap.size, 0, none⟩) (by simp)]
        exact cell_new_at _ _ _ _ _ _ rfl rfl
      have p1 : w1.cell? ⟨w.heap.size, 1, none⟩ = some (.slice B m e) := by
        rw [hb.cell (p := ⟨w.heap.size, 1, none⟩) (by simp)]
        exact cell_new_at _ _ _ _ _ _ rfl rfl
      clear hb
      go_wp2_with (fail)
      (with_reducible refine (short_yes A A' n c n' c' w1 k1 k2).mono ?_)
      rintro e0 w1' ⟨rfl, rfl⟩
      go_wp2_with (fail)
      refine (awake54_any _).mono ?_
      rintro e0 w3 ⟨rfl, hb⟩
      have HB3 : Hid (Below w.heap.size w w3) := HB.out.trans (hb.mono HB.out.size)
      clear hb
      go_wp2
      go_ret
      exact ⟨rfl, HB3.out⟩
    · have h4 : 100 < m := by omega
      clear h2
      go_enter Try.func17, Try.ntmps17
      go_wp2_with (fail)
      refine (awake54_any _).mono ?_
      rintro e0 w1 ⟨rfl, hb⟩
      have HB : Hid (Below w.heap.size w w1) := ((Below.refl _ _).alloc (Nat.le_refl _) _).trans (hb.mono (by simp))
      have p0 : w1.cell? ⟨w.heap.size, 0, none⟩ = some (.slice A2 n2 c2) := by
        rw [hb.cell (p := ⟨w.heap.size, 0, none⟩) (by simp)]
        exact cell_new_at _ _ _ _ _ _ rfl rfl
      have p1 : w1.cell? ⟨w.heap.size, 1, none⟩ = some (.slice B m e) := by
        rw [hb.cell (p := ⟨w.heap.size, 1, none⟩) (by simp)]
        exact cell_new_at _ _ _ _ _ _ rfl rfl
      clear hb
      go_wp2_with (fail)
      (with_reducible refine (short_yes A A' n c n' c' w1 k1 k2).mono ?_)
      rintro e0 w1' ⟨rfl, rfl⟩
      go_wp2_with (fail)
      refine (awake54_any _).mono ?_
      rintro e0 w3 ⟨rfl, hb⟩
      have HB3 : Hid (Below w.heap.size w w3) := HB.out.trans (hb.mono HB.out.size)
      clear hb
      go_wp2
      go_ret
      exact ⟨rfl, HB3.out⟩
end Go.Proofs.Yteooabcgojadcaa
