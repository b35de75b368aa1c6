
/-
  Write, Read, List of a dictionary.
-/
import Derived.Test.YtjdknddnanopaaaBW4
import Derived.Test.YtjdknddnanopaaaBW6
namespace Go.Proofs.Ytjdknddnanopaaa.Bus
open Go.RowKit
set_option linter.unusedVariables false

section
variable {w0 w : World} {d : Nat} {v : Value} {bp bk : Nat} {l : List Ob}

/-- The row of a dictionary, read. -/
theorem Dic.rd (hD : Dic w0 w d v bp bk l) : ∃ A c, v = .slice A l.length c ∧ l.length ≤ c ∧ c ≤ maxLen ∧ Rd w w.heap.size A (ocells l) := by
  obtain ⟨k, k', hD, _⟩ := hD
  exact own_read hD.row

end

theorem Get_nil (i s : Int) (w : World) : Calls Try.prog 46 #[.pointer none, .int .i64 i, .int .i64 s] w fun e w' => e = .returned (.tuple #[.int .i64 0, .iface 77 (.int .i64 1)]) ∧ w = w' := by
  have h1 := eq_ptr0
  go_enter Try.func46, Try.ntmps46
  go_wp2
  go_ret2
  exact ⟨rfl, rfl⟩
theorem Set_nil (i s y : Int) (w : World) : Calls Try.prog 51 #[.pointer none, .int .i64 i, .int .i64 s, .int .i64 y] w fun e w' => e = .returned (.iface 77 (.int .i64 1)) ∧ w = w' := by
  have h1 := eq_ptr0
  go_enter Try.func51, Try.ntmps51
  go_wp2
  go_ret
  exact ⟨rfl, rfl⟩
end Go.Proofs.Ytjdknddnanopaaa.Bus
