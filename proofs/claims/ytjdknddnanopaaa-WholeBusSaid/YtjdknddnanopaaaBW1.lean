
/-
  The types' bytes and limits; Num, Is.
-/
import Derived.Test.YtjdknddnanopaaaChecked
import Derived.Test.YtjdknddnanopaaaBPlain
namespace Go.Proofs.Ytjdknddnanopaaa.Bus
open Go.RowKit
set_option linter.unusedVariables false

def kindV (k : Kd) : Value := .tuple #[.int .i64 k.n, .int .i64 k.lo, .int .i64 k.hi]
def limV (k : Kd) : Value := .tuple #[.int .i64 k.lo, .int .i64 k.hi, .int .i64 k.n]

set_option maxHeartbeats 1000000 in
theorem kind_any (t : Int) (w : World) : Calls Try.prog 119 #[.int .i64 t] w fun e w' => e = .returned (kindV (kindOf t)) ∧ w = w' := by
  go_enter Try.func119, Try.ntmps119
  by_cases h0 : t = 0
  · subst h0
    go_wp2
    go_ret3
    exact ⟨rfl, rfl⟩
  by_cases h1 : t = 1
  · subst h1
    go_wp2
    go_ret3
    exact ⟨rfl, rfl⟩
  by_cases h2 : t = 2
  · subst h2
    go_wp2
    go_ret3
    exact ⟨rfl, rfl⟩
  by_cases h3 : t = 3
  · subst h3
    go_wp2
    go_ret3
    exact ⟨rfl, rfl⟩
  by_cases h4 : t = 4
  · subst h4
    go_wp2
    go_ret3
    exact ⟨rfl, rfl⟩
  by_cases h5 : t = 5
  · subst h5
    go_wp2
    go_ret3
    exact ⟨rfl, rfl⟩
  by_cases h6 : t = 6
  · subst h6
    go_wp2
    go_ret3
    exact ⟨rfl, rfl⟩
  · have e0 : (t == 0) = false := by simpa using h0
    have e1 : (t == 1) = false := by simpa using h1
    have e2 : (t == 2) = false := by simpa using h2
    have e3 : (t == 3) = false := by simpa using h3
    have e4 : (t == 4) = false := by simpa using h4
    have e5 : (t == 5) = false := by simpa using h5
    have e6 : (t == 6) = false := by simpa using h6
    have HM : Hid (kindOf t = ⟨0, 0, 0⟩) := by show _ = _; unfold kindOf; rw [if_neg h0, if_neg h1, if_neg h2, if_neg h3, if_neg h4, if_neg h5, if_neg h6]
    go_wp2
    go_ret3
    exact ⟨by rw [HM.out]; rfl, rfl⟩
set_option maxHeartbeats 1000000 in
theorem lim_any (t : Int) (w : World) : Calls Try.prog 87 #[.int .i64 t] w fun e w' => e = .returned (limV (kindOf t)) ∧ w = w' := by
  go_enter Try.func87, Try.ntmps87
  by_cases h0 : t = 0
  · subst h0
    go_wp2
    go_ret3
    exact ⟨rfl, rfl⟩
  by_cases h1 : t = 1
  · subst h1
    go_wp2
    go_ret3
    exact ⟨rfl, rfl⟩
  by_cases h2 : t = 2
  · subst h2
    go_wp2
    go_ret3
    exact ⟨rfl, rfl⟩
  by_cases h3 : t = 3
  · subst h3
    go_wp2
    go_ret3
    exact ⟨rfl, rfl⟩
  by_cases h4 : t = 4
  · subst h4
    go_wp2
    go_ret3
    exact ⟨rfl, rfl⟩
  by_cases h5 : t = 5
  · subst h5
    go_wp2
    go_ret3
    exact ⟨rfl, rfl⟩
  by_cases h6 : t = 6
  · subst h6
    go_wp2
    go_ret3
    exact ⟨rfl, rfl⟩
  · have e0 : (t == 0) = false := by simpa using h0
    have e1 : (t == 1) = false := by simpa using h1
    have e2 : (t == 2) = false := by simpa using h2
    have e3 : (t == 3) = false := by simpa using h3
    have e4 : (t == 4) = false := by simpa using h4
    have e5 : (t == 5) = false := by simpa using h5
    have e6 : (t == 6) = false := by simpa using h6
    have HM : Hid (kindOf t = ⟨0, 0, 0⟩) := by show _ = _; unfold kindOf; rw [if_neg h0, if_neg h1, if_neg h2, if_neg h3, if_neg h4, if_neg h5, if_neg h6]
    go_wp2
    go_ret3
    exact ⟨by rw [HM.out]; rfl, rfl⟩

theorem ta_err (c : Int) (w : World) : (Instr.typeAssert (.iface 77 (.int .i64 c)) 32 77 true).run Try.prog w = .ok (.tuple #[.int .i64 c, .bool true]) w := by kernel_rfl
theorem ta_nil (w : World) : (Instr.typeAssert .nilIface 32 77 true).run Try.prog w = .ok (.tuple #[.int .i64 0, .bool false]) w := by kernel_rfl
theorem ne_err (c : Int) (w : World) : (binOp .neq 32 (.iface 77 (.int .i64 c)) .nilIface).run Try.prog w = .ok (.bool true) w := by kernel_rfl
theorem ne_nil (w : World) : (binOp .neq 32 .nilIface .nilIface).run Try.prog w = .ok (.bool false) w := by kernel_rfl
theorem eq_err (c : Int) (w : World) : (binOp .eql 32 (.iface 77 (.int .i64 c)) .nilIface).run Try.prog w = .ok (.bool false) w := by kernel_rfl
theorem eq_nil (w : World) : (binOp .eql 32 .nilIface .nilIface).run Try.prog w = .ok (.bool true) w := by kernel_rfl

theorem num_nil (w : World) : Calls Try.prog 17 #[.nilIface] w fun e w' => e = .returned (.int .i64 0) ∧ w = w' := by
  go_enter Try.func17, Try.ntmps17
  go_wp2
  go_ret
  exact ⟨rfl, rfl⟩

theorem num_err (c : Int) (w : World) : Calls Try.prog 17 #[.iface 77 (.int .i64 c)] w fun e w' => e = .returned (.int .i64 c) ∧ w = w' := by
  have h1 := ta_err c
  go_enter Try.func17, Try.ntmps17
  go_wp2
  go_ret
  exact ⟨rfl, rfl⟩

theorem num_any (k : Int) (w : World) : Calls Try.prog 17 #[errV k] w fun e w' => e = .returned (.int .i64 k) ∧ w = w' := by
  by_cases h : k = 0
  · subst h
    exact num_nil w
  · rw [errV_ne h]
    exact num_err k w

theorem is_err (c d : Int) (w : World) : Calls Try.prog 33 #[.iface 77 (.int .i64 c), .int .i64 d] w fun e w' => e = .returned (.bool (c == d)) ∧ w = w' := by
  have h1 := ta_err c
  go_enter Try.func33, Try.ntmps33
  go_wp2
  go_ret
  exact ⟨rfl, rfl⟩

theorem is_nil (d : Int) (w : World) : Calls Try.prog 33 #[.nilIface, .int .i64 d] w fun e w' => e = .returned (.bool false) ∧ w = w' := by
  have h1 := ta_nil
  go_enter Try.func33, Try.ntmps33
  go_wp2
  go_ret
  exact ⟨rfl, rfl⟩
end Go.Proofs.Ytjdknddnanopaaa.Bus
