/-
  Slices of integers of any kind.
-/
import Derived.Test.YtcfhnjdaijdoiaaMem2
namespace Go.Proofs.Ytcfhnjdaijdoiaa
open Go.RowKit

def kcells (k : IntKind) (l : List Int) : List Value := l.map (Value.int k)

theorem Rd.kint {k : IntKind} {w : World} {B : Nat} {A : Option Addr} {l : List Int} (h : Rd w B A (kcells k l)) {j : Nat} {x : Int} (hx : l[j]? = some x) :
    ∃ b off, A = some ⟨b, off, none⟩ ∧ b < B ∧ w.cell? ⟨b, off + j, none⟩ = some (.int k x) := by
  have hl : (kcells k l)[j]? = some (.int k x) := by simp [kcells, hx]
  have hne : kcells k l ≠ [] := by
    intro e
    rw [e] at hl
    simp at hl
  obtain ⟨b, off, e, hlt, hc⟩ := h hne
  exact ⟨b, off, e, hlt, hc _ _ hl⟩
end Go.Proofs.Ytcfhnjdaijdoiaa
