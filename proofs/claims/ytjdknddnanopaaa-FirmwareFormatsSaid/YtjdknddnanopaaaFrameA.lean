
/-
  Arguments that are acts, items, structs with a slice, opened.
-/
import Derived.Test.YtjdknddnanopaaaFrame
import Derived.Test.YtjdknddnanopaaaMa
import Derived.SizedLaws
namespace Go.Proofs.Ytjdknddnanopaaa
open Go.ChangeShapes Go.WideShapes Go.ChangeAt Go.RowKit Go.Deep

end Go.Proofs.Ytjdknddnanopaaa
