
/-
  Arguments of layer 51, opened: events, a region, a specification.
-/
import Derived.Test.YtjdknddnanopaaaFrameA
import Derived.Test.YtjdknddnanopaaaW54
namespace Go.Proofs.Ytjdknddnanopaaa
open Go.ChangeShapes Go.WideShapes Go.ChangeAt Go.RowKit Go.Deep
set_option linter.unusedVariables false

theorem i64_of {n : Int} (h : (Lit.int .i64 n).wf = true) : I64 n := by
  have := bounds_i64 h
  unfold I64
  omega
end Go.Proofs.Ytjdknddnanopaaa
