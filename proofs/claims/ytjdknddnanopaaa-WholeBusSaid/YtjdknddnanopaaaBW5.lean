
/-
  Number of a type.
-/
import Derived.Test.YtjdknddnanopaaaBW1
import Derived.Test.YtjdknddnanopaaaBPlain3
import Derived.Test.YtjdknddnanopaaaBBits
namespace Go.Proofs.Ytjdknddnanopaaa.Bus
open Go.RowKit
set_option linter.unusedVariables false

def numV (r : Int × Int) : Value := .tuple #[.int .i64 r.1, errV r.2]

def numR (r : Int × Int) : Value := .tuple #[.int .i64 r.1, .int .i64 r.2]

end Go.Proofs.Ytjdknddnanopaaa.Bus
