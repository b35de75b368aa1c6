
/-
  The statement MappingCounts, walked; short.
-/
import Derived.Test.YtjdknddnanopaaaBW22
namespace Go.Proofs.Ytjdknddnanopaaa.Bus
open Go.RowKit
set_option linter.unusedVariables false

end Go.Proofs.Ytjdknddnanopaaa.Bus
