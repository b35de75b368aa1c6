/-
  The reference's Load.
-/
import Derived.Test.YtfeceamhlphelaaW25
import Derived.Test.YtfeceamhlphelaaW22
import Derived.Test.YtfeceamhlphelaaW23
import Derived.Deep.RegionLaw
namespace Go.Proofs.Ytfeceamhlphelaa
open Go.RowKit
set_option linter.unusedVariables false

set_option maxHeartbeats 4000000 in
theorem loadR_no (p : Int) (A : Option Addr) (n c : Nat) (w : World) (hn : n ≤ 140737488351232) (h : loadE p n ≠ 0) :
    Calls Try.prog 45 #[.int .i64 p, .slice A n c] w fun e w' => e = .returned (.tuple #[zeroR, .int .i64 (loadE p n)]) ∧ Below w.heap.size w w' := by
  unfold loadE at h ⊢
  by_cases h1 : p < 1 ∨ 16 < p
  · rw [if_pos h1]
    by_cases hp : p < 1
    · clear h h1
      go_enter Try.func45, Try.ntmps45
      go_wp2
      (try simp only [Exit.inBlock, Exit.then])
      refine bodyPost_ret (v := .tuple #[zeroR, .int .i64 3]) ?_ rfl ⟨rfl, below_one _ _⟩
      rw [results_cell_tmp rfl]
      unfold zeroR
      go_simp
    · have h2 : 16 < p := by omega
      have h3 : decide (p < 1) = false := by simpa using hp
      clear h h1 hp
      go_enter Try.func45, Try.ntmps45
      go_wp2
      (try simp only [Exit.inBlock, Exit.then])
      refine bodyPost_ret (v := .tuple #[zeroR, .int .i64 3]) ?_ rfl ⟨rfl, below_one _ _⟩
      rw [results_cell_tmp rfl]
      unfold zeroR
      go_simp
  · rw [if_neg h1] at h ⊢
    obtain ⟨q, rfl⟩ : ∃ q : Nat, p = (q : Int) := ⟨p.toNat, by omega⟩
    simp only [Int.toNat_natCast] at h ⊢
    have hbad : n % (64 * q) ≠ 0 ∨ n / (64 * q) < 1 ∨ 64 < n / (64 * q) := by
      by_cases hx : n % (64 * q) ≠ 0 ∨ n / (64 * q) < 1 ∨ 64 < n / (64 * q)
      · exact hx
      · rw [if_neg hx] at h; exact absurd rfl h
    rw [if_pos hbad]
    clear h
    obtain ⟨M, hM⟩ : ∃ M, 64 * q = M := ⟨_, rfl⟩
    rw [hM] at hbad
    have x1 : (64 : Int) * (q : Int) = (M : Int) := by omega
    have hM0 : 64 ≤ M := by omega
    have hM1 : M ≤ 1024 := by omega
    have d4 : wrap64 (M : Int) = (M : Int) := by unfold wrap64; omega
    have q0 : ((M : Int) == 0) = false := by simp; omega
    have p1 : decide ((q : Int) < 1) = false := by simp; omega
    have p2 : decide ((16 : Int) < (q : Int)) = false := by simp; omega
    obtain ⟨D, hD⟩ : ∃ D, n / M = D := ⟨_, rfl⟩
    obtain ⟨R, hR⟩ : ∃ R, n % M = R := ⟨_, rfl⟩
    rw [hD, hR] at hbad
    have HD := Lib.hid hD
    have HR := Lib.hid hR
    have hDb : D ≤ 140737488351232 := by rw [← hD]; exact Nat.le_trans (Nat.div_le_self _ _) hn
    clear hD hR hM
    have d3 : wrap64 (D : Int) = (D : Int) := by unfold wrap64; omega
    by_cases hR0 : R = 0
    · have e0 : ((R : Int) != 0) = false := by simp; omega
      by_cases hD0 : D < 1
      · have e1 : decide ((D : Int) < 1) = true := by simp; omega
        have d1 : (n : Int) / (M : Int) = (D : Int) := by rw [← HD.out]; push_cast; rfl
        have d2 : (n : Int).tdiv (M : Int) = (D : Int) := by rw [Int.tdiv_eq_ediv_of_nonneg (Int.natCast_nonneg n)]; exact d1
        have r1 : (n : Int) % (M : Int) = (R : Int) := by rw [← HR.out]; push_cast; rfl
        have r2 : (n : Int).tmod (M : Int) = (R : Int) := by rw [Int.tmod_eq_emod_of_nonneg (Int.natCast_nonneg n)]; exact r1
        clear h1 hbad hD0 hR0 hn
        go_enter Try.func45, Try.ntmps45
        go_wp2
        (try simp only [Exit.inBlock, Exit.then])
        refine bodyPost_ret (v := .tuple #[zeroR, .int .i64 11]) ?_ rfl ⟨rfl, below_one _ _⟩
        rw [results_cell_tmp rfl]
        unfold zeroR
        go_simp
      · have e1 : decide ((D : Int) < 1) = false := by simp; omega
        have e2 : decide ((64 : Int) < (D : Int)) = true := by simp; omega
        have d1 : (n : Int) / (M : Int) = (D : Int) := by rw [← HD.out]; push_cast; rfl
        have d2 : (n : Int).tdiv (M : Int) = (D : Int) := by rw [Int.tdiv_eq_ediv_of_nonneg (Int.natCast_nonneg n)]; exact d1
        have r1 : (n : Int) % (M : Int) = (R : Int) := by rw [← HR.out]; push_cast; rfl
        have r2 : (n : Int).tmod (M : Int) = (R : Int) := by rw [Int.tmod_eq_emod_of_nonneg (Int.natCast_nonneg n)]; exact r1
        clear h1 hbad hD0 hR0 hn
        go_enter Try.func45, Try.ntmps45
        go_wp2
        (try simp only [Exit.inBlock, Exit.then])
        refine bodyPost_ret (v := .tuple #[zeroR, .int .i64 11]) ?_ rfl ⟨rfl, below_one _ _⟩
        rw [results_cell_tmp rfl]
        unfold zeroR
        go_simp
    · have e0 : ((R : Int) != 0) = true := by simp; omega
      have d1 : (n : Int) / (M : Int) = (D : Int) := by rw [← HD.out]; push_cast; rfl
      have d2 : (n : Int).tdiv (M : Int) = (D : Int) := by rw [Int.tdiv_eq_ediv_of_nonneg (Int.natCast_nonneg n)]; exact d1
      have r1 : (n : Int) % (M : Int) = (R : Int) := by rw [← HR.out]; push_cast; rfl
      have r2 : (n : Int).tmod (M : Int) = (R : Int) := by rw [Int.tmod_eq_emod_of_nonneg (Int.natCast_nonneg n)]; exact r1
      clear h1 hbad hR0 hn
      go_enter Try.func45, Try.ntmps45
      go_wp2
      (try simp only [Exit.inBlock, Exit.then])
      refine bodyPost_ret (v := .tuple #[zeroR, .int .i64 11]) ?_ rfl ⟨rfl, below_one _ _⟩
      rw [results_cell_tmp rfl]
      unfold zeroR
      go_simp
end Go.Proofs.Ytfeceamhlphelaa
