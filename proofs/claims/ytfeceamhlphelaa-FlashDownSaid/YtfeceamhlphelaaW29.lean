/-
  The calls of a flash that is not there; a flash without power.
-/
import Derived.Test.YtfeceamhlphelaaW12
namespace Go.Proofs.Ytfeceamhlphelaa
open Go.RowKit
set_option linter.unusedVariables false

theorem none_blocks (w : World) : Calls Try.prog 42 #[.pointer none] w fun e w' => e = .returned (.int .i64 0) ∧ w = w' := by
  have g1 := eqp_none
  go_enter Try.func42, Try.ntmps42
  go_wp2
  go_ret
  exact ⟨rfl, rfl⟩
theorem none_pages (w : World) : Calls Try.prog 43 #[.pointer none] w fun e w' => e = .returned (.int .i64 0) ∧ w = w' := by
  have g1 := eqp_none
  go_enter Try.func43, Try.ntmps43
  go_wp2
  go_ret
  exact ⟨rfl, rfl⟩
theorem none_down (w : World) : Calls Try.prog 33 #[.pointer none] w fun e w' => e = .returned (.bool true) ∧ w = w' := by
  have g1 := eqp_none
  go_enter Try.func33, Try.ntmps33
  go_wp2
  go_ret
  exact ⟨rfl, rfl⟩
theorem none_wear (w : World) : Calls Try.prog 31 #[.pointer none] w fun e w' => e = .returned (.slice none 0 0) ∧ w = w' := by
  have g1 := eqp_none
  go_enter Try.func31, Try.ntmps31
  go_wp2
  go_ret
  exact ⟨rfl, rfl⟩
theorem none_image (w : World) : Calls Try.prog 36 #[.pointer none] w fun e w' => e = .returned (.slice none 0 0) ∧ w = w' := by
  have g1 := eqp_none
  go_enter Try.func36, Try.ntmps36
  go_wp2
  go_ret
  exact ⟨rfl, rfl⟩
theorem none_start (w : World) : Calls Try.prog 34 #[.pointer none] w fun e w' => e = .returned (.tuple #[]) ∧ w = w' := by
  have g1 := eqp_none
  go_enter Try.func34, Try.ntmps34
  go_wp2
  first
    | go_end0
    | ((try simp only [Exit.inBlock, Exit.then]); refine bodyPost_ret (results_none rfl _ _ _) rfl ?_)
  exact ⟨rfl, rfl⟩
theorem none_fuse (n : Int) (A : Option Addr) (m c : Nat) (w : World) : Calls Try.prog 32 #[.pointer none, .int .i64 n, .slice A m c] w fun e w' => e = .returned (.tuple #[]) ∧ w = w' := by
  have g1 := eqp_none
  go_enter Try.func32, Try.ntmps32
  go_wp2
  first
    | go_end0
    | ((try simp only [Exit.inBlock, Exit.then]); refine bodyPost_ret (results_none rfl _ _ _) rfl ?_)
  exact ⟨rfl, rfl⟩
theorem none_erase (n : Int) (w : World) : Calls Try.prog 30 #[.pointer none, .int .i64 n] w fun e w' => e = .returned (.iface 40 (.int .i64 1)) ∧ w = w' := by
  have g1 := eqp_none
  go_enter Try.func30, Try.ntmps30
  go_wp2
  go_ret
  exact ⟨rfl, rfl⟩
theorem none_at (n : Int) (w : World) : Calls Try.prog 76 #[.pointer none, .int .i64 n] w fun e w' => e = .returned (.tuple #[.slice none 0 0, .iface 40 (.int .i64 1)]) ∧ w = w' := by
  have g1 := eqp_none
  go_enter Try.func76, Try.ntmps76
  go_wp2
  go_ret2
  exact ⟨rfl, rfl⟩
theorem none_program (n : Int) (A : Option Addr) (m c : Nat) (w : World) : Calls Try.prog 26 #[.pointer none, .int .i64 n, .slice A m c] w fun e w' => e = .returned (.iface 40 (.int .i64 1)) ∧ w = w' := by
  have g1 := ne_err
  go_enter Try.func26, Try.ntmps26
  go_wp2_with (fail)
  (with_reducible refine (none_at n w).mono ?_)
  rintro e w1 ⟨rfl, rfl⟩
  go_wp2
  go_ret
  exact ⟨rfl, rfl⟩
theorem clone_nil (w : World) : Calls Try.prog 79 #[.slice none 0 0] w fun e w' => e = .returned (.slice none 0 0) ∧ w = w' := by
  have g1 := eqs8_none 0 0
  go_enter Try.func79, Try.ntmps79
  go_wp2
  go_ret
  exact ⟨rfl, rfl⟩
theorem none_read (n : Int) (w : World) : Calls Try.prog 29 #[.pointer none, .int .i64 n] w fun e w' => e = .returned (.tuple #[.slice none 0 0, .iface 40 (.int .i64 1)]) ∧ w = w' := by
  have g1 := eqs8_none 0 0
  go_enter Try.func29, Try.ntmps29
  go_wp2_with (fail)
  (with_reducible refine (none_at n w).mono ?_)
  rintro e w1 ⟨rfl, rfl⟩
  go_wp2_with (fail)
  (with_reducible refine (clone_nil w).mono ?_)
  rintro e w1 ⟨rfl, rfl⟩
  go_wp2
  go_ret2
  exact ⟨rfl, rfl⟩
end Go.Proofs.Ytfeceamhlphelaa
