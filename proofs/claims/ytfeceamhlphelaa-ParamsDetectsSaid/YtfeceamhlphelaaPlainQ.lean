/-
  The document's example of layer 51, as values.
-/
import Derived.Test.YtfeceamhlphelaaPlainO
namespace Go.Proofs.Ytfeceamhlphelaa
open Go.RowKit
set_option linter.unusedVariables false

def awP : List Par := [⟨0, 9, 3⟩]
def awF0 : Fl := newF 2 4
def awS0 : St := openF awF0 0 2 awP
def awS1 : St := setF awS0 0 5
def awC : St × Fl × Int := commitS awS1 awF0
def awT : St := openF awC.2.1 0 2 awP
theorem aq1 : openE awF0 ((0 : Nat) : Int) ((2 : Nat) : Int) awP = 0 := by decide +kernel
theorem aq2 : setE awS0 0 5 = 0 := by decide +kernel
theorem aq3 : awC.2.2 = 0 := by decide +kernel
theorem aq4 : openE awC.2.1 ((0 : Nat) : Int) ((2 : Nat) : Int) awP = 0 := by decide +kernel
theorem aq5 : (readF awC.2.1 0).2 = 0 ∧ (readF awC.2.1 0).1.length = 64 ∧ (readF awC.2.1 0).1[15]? = some 5 ∧ (readF awC.2.1 0).1[62]? = some 1 ∧ (readF awC.2.1 0).1[63]? = some 236 := by decide +kernel
theorem aq6 : awT.saved = [5] ∧ awT.seq = 1 ∧ awT.spec.length = 1 := by decide +kernel
theorem awP_ok : ∀ p ∈ awP, p.ok := by
  intro p hp
  simp only [awP, List.mem_cons, List.not_mem_nil, or_false] at hp
  subst hp
  exact ⟨by unfold I64; simp, by unfold I64; simp, by unfold I64; simp⟩
end Go.Proofs.Ytfeceamhlphelaa
