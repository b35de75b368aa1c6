
/-
  awake of layer 54.
-/
import Derived.Test.YtjdknddnanopaaaBW21
import Derived.Test.YtjdknddnanopaaaBStr
namespace Go.Proofs.Ytjdknddnanopaaa.Bus
open Go.RowKit
set_option linter.unusedVariables false

def aw1 : Ob := ⟨1, 0, 0, 0, 0, 1, 0, false, false⟩
def aw2 : Ob := ⟨2, 0, 1, 0, 0, 255, 0, false, false⟩

set_option maxRecDepth 100000 in
theorem aw_pack : packO [aw1, aw2] [⟨1, 0⟩, ⟨2, 0⟩] [1, 6] = ([13, 0], 0) := by decide
set_option maxRecDepth 100000 in
theorem aw_enc : encO 1 [] = ([1, 0, 21], 0) := by decide

end Go.Proofs.Ytjdknddnanopaaa.Bus
