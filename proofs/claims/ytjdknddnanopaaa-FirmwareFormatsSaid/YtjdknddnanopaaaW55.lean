
/-
  Fuse and Start beside a store.
-/
import Derived.Test.YtjdknddnanopaaaW54
import Derived.Test.YtjdknddnanopaaaPlainK
namespace Go.Proofs.Ytjdknddnanopaaa
open Go.RowKit
set_option linter.unusedVariables false

section
variable {w0 w : World} {L : Lc} {S : Sc} {f : Fl} {s : St}

/-- What Start leaves. -/
def Started (w0 w : World) (L : Lc) (f : Fl) (e : Ending) (w' : World) : Prop :=
  e = .returned (.tuple #[]) ∧ (∃ Ap cp, FlAt w0 w' { L with Ap := Ap, cp := cp } (startF f) ∧ ∀ X : Nat → Prop, RdX X w L.Ap (kcells .u8 f.picks) → RdX X w' Ap (kcells .u8 (startF f).picks)) ∧ Only L w w'
end
end Go.Proofs.Ytjdknddnanopaaa
