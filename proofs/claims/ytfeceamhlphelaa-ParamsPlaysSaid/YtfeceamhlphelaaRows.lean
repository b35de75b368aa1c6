/-
  No cell of these rows narrows 'for every input' (looked for: loops, veiled, ifaces, maps, wideKeys, modest, calm, conditions, laid).
  DERIVED. THE GIVEN ROWS OF THIS SEAT. 18 by the template 'for every input the law returns true; each argument reads behind the call as it read before'; 0 by the template 'total and deterministic' (their statements: YtfeceamhlphelaaTotals.lean).
  GIVEN WITH THE SEED: the statements are not yours to turn. If you find one false, say at which input.
  Laid BY PROGRAM, IN A SANDBOX (cutbox-rows.mjs): the forced cells as the released guide's own fill.sh prints them over the translation 55159c1d7c1db527… (all of the seat's roots in one cut). By AI agents, Wed Nov 11 2026. No macro, syntax, notation, axiom, sorry.
-/
import Derived.Test.YtfeceamhlphelaaChecked
import GoSem.Claim
import GoSem.ClaimJoined
import GoSem.ClaimMapViews
import Derived.JoinedTies
import Derived.KernelRfl
namespace Go.Proofs.Ytfeceamhlphelaa
/- THE CELL 'sum', in the pinned program and in every row, IS THE sha256 OF THE DUMP (.gsa) THAT YtfeceamhlphelaaProg.lean LOADS. Nothing in Lean hashes anything: it is a label: what it is worth is what the hold of that sum in a sandbox is worth. -/
noncomputable def Try.pinned : Pinned := { name := "ytfeceamhlphelaa", sum := "55159c1d7c1db527f9924229f0c776bc41aaf1ce40adc216741d55785fe7bf83", checked := Try.checked }
namespace Rows
def none {H : Type} : Left H := { results := [], args := [] }

/-- 'commutatorlaw50.FlashHolds': WHATEVER THE INPUT: true; the input reads as it did. -/
def flashHoldsSpec : ChangeSpec := { name := "flashHolds", fn := fun _ => fun
  | [d1, d2, d3] => { results := [.lit (.bool true)], args := [d1, d2, d3] }
  | _ => none }
def flashHoldsRow : OpenClaim := { program := "ytfeceamhlphelaa", sum := "55159c1d7c1db527f9924229f0c776bc41aaf1ce40adc216741d55785fe7bf83", func := "commutator/commutatorlaw50.FlashHolds", spec := "flashHolds", apart := false }
def FlashHoldsSaid : Prop := flashHoldsRow.holds Try.pinned (OpenSpec.ofChange flashHoldsSpec)

/-- ITS FALSE NEIGHBOUR: 'it returns false'. Refute it at one input. -/
def flashHoldsWrong : ChangeSpec := { name := "flashHolds", fn := fun _ => fun
  | [d1, d2, d3] => { results := [.lit (.bool false)], args := [d1, d2, d3] }
  | _ => none }
def FlashHoldsWrongFalsely : Prop := flashHoldsRow.holds Try.pinned (OpenSpec.ofChange flashHoldsWrong)

/-- 'commutatorlaw50.FlashFuses': WHATEVER THE INPUT: true; the input reads as it did. -/
def flashFusesSpec : ChangeSpec := { name := "flashFuses", fn := fun _ => fun
  | [d1, d2] => { results := [.lit (.bool true)], args := [d1, d2] }
  | _ => none }
def flashFusesRow : OpenClaim := { program := "ytfeceamhlphelaa", sum := "55159c1d7c1db527f9924229f0c776bc41aaf1ce40adc216741d55785fe7bf83", func := "commutator/commutatorlaw50.FlashFuses", spec := "flashFuses", apart := false }
def FlashFusesSaid : Prop := flashFusesRow.holds Try.pinned (OpenSpec.ofChange flashFusesSpec)

/-- ITS FALSE NEIGHBOUR: 'it returns false'. Refute it at one input. -/
def flashFusesWrong : ChangeSpec := { name := "flashFuses", fn := fun _ => fun
  | [d1, d2] => { results := [.lit (.bool false)], args := [d1, d2] }
  | _ => none }
def FlashFusesWrongFalsely : Prop := flashFusesRow.holds Try.pinned (OpenSpec.ofChange flashFusesWrong)

/-- 'commutatorlaw50.FlashBits': WHATEVER THE INPUT: true; the input reads as it did. -/
def flashBitsSpec : ChangeSpec := { name := "flashBits", fn := fun _ => fun
  | [d1, d2] => { results := [.lit (.bool true)], args := [d1, d2] }
  | _ => none }
def flashBitsRow : OpenClaim := { program := "ytfeceamhlphelaa", sum := "55159c1d7c1db527f9924229f0c776bc41aaf1ce40adc216741d55785fe7bf83", func := "commutator/commutatorlaw50.FlashBits", spec := "flashBits", apart := false }
def FlashBitsSaid : Prop := flashBitsRow.holds Try.pinned (OpenSpec.ofChange flashBitsSpec)

/-- ITS FALSE NEIGHBOUR: 'it returns false'. Refute it at one input. -/
def flashBitsWrong : ChangeSpec := { name := "flashBits", fn := fun _ => fun
  | [d1, d2] => { results := [.lit (.bool false)], args := [d1, d2] }
  | _ => none }
def FlashBitsWrongFalsely : Prop := flashBitsRow.holds Try.pinned (OpenSpec.ofChange flashBitsWrong)

/-- 'commutatorlaw50.FlashTorn': WHATEVER THE INPUT: true; the input reads as it did. -/
def flashTornSpec : ChangeSpec := { name := "flashTorn", fn := fun _ => fun
  | [d1, d2, d3] => { results := [.lit (.bool true)], args := [d1, d2, d3] }
  | _ => none }
def flashTornRow : OpenClaim := { program := "ytfeceamhlphelaa", sum := "55159c1d7c1db527f9924229f0c776bc41aaf1ce40adc216741d55785fe7bf83", func := "commutator/commutatorlaw50.FlashTorn", spec := "flashTorn", apart := false }
def FlashTornSaid : Prop := flashTornRow.holds Try.pinned (OpenSpec.ofChange flashTornSpec)

/-- ITS FALSE NEIGHBOUR: 'it returns false'. Refute it at one input. -/
def flashTornWrong : ChangeSpec := { name := "flashTorn", fn := fun _ => fun
  | [d1, d2, d3] => { results := [.lit (.bool false)], args := [d1, d2, d3] }
  | _ => none }
def FlashTornWrongFalsely : Prop := flashTornRow.holds Try.pinned (OpenSpec.ofChange flashTornWrong)

/-- 'commutatorlaw50.FlashOwns': WHATEVER THE INPUT: true; the input reads as it did. -/
def flashOwnsSpec : ChangeSpec := { name := "flashOwns", fn := fun _ => fun
  | [d1, d2] => { results := [.lit (.bool true)], args := [d1, d2] }
  | _ => none }
def flashOwnsRow : OpenClaim := { program := "ytfeceamhlphelaa", sum := "55159c1d7c1db527f9924229f0c776bc41aaf1ce40adc216741d55785fe7bf83", func := "commutator/commutatorlaw50.FlashOwns", spec := "flashOwns", apart := false }
def FlashOwnsSaid : Prop := flashOwnsRow.holds Try.pinned (OpenSpec.ofChange flashOwnsSpec)

/-- ITS FALSE NEIGHBOUR: 'it returns false'. Refute it at one input. -/
def flashOwnsWrong : ChangeSpec := { name := "flashOwns", fn := fun _ => fun
  | [d1, d2] => { results := [.lit (.bool false)], args := [d1, d2] }
  | _ => none }
def FlashOwnsWrongFalsely : Prop := flashOwnsRow.holds Try.pinned (OpenSpec.ofChange flashOwnsWrong)

/-- 'commutatorlaw50.FlashPlays': WHATEVER THE INPUT: true; the input reads as it did. -/
def flashPlaysSpec : ChangeSpec := { name := "flashPlays", fn := fun _ => fun
  | [d1, d2] => { results := [.lit (.bool true)], args := [d1, d2] }
  | _ => none }
def flashPlaysRow : OpenClaim := { program := "ytfeceamhlphelaa", sum := "55159c1d7c1db527f9924229f0c776bc41aaf1ce40adc216741d55785fe7bf83", func := "commutator/commutatorlaw50.FlashPlays", spec := "flashPlays", apart := false }
def FlashPlaysSaid : Prop := flashPlaysRow.holds Try.pinned (OpenSpec.ofChange flashPlaysSpec)

/-- ITS FALSE NEIGHBOUR: 'it returns false'. Refute it at one input. -/
def flashPlaysWrong : ChangeSpec := { name := "flashPlays", fn := fun _ => fun
  | [d1, d2] => { results := [.lit (.bool false)], args := [d1, d2] }
  | _ => none }
def FlashPlaysWrongFalsely : Prop := flashPlaysRow.holds Try.pinned (OpenSpec.ofChange flashPlaysWrong)

/-- 'commutatorlaw50.FlashDown': WHATEVER THE INPUT: true; the input reads as it did. -/
def flashDownSpec : ChangeSpec := { name := "flashDown", fn := fun _ => fun
  | [d] => { results := [.lit (.bool true)], args := [d] }
  | _ => none }
def flashDownRow : OpenClaim := { program := "ytfeceamhlphelaa", sum := "55159c1d7c1db527f9924229f0c776bc41aaf1ce40adc216741d55785fe7bf83", func := "commutator/commutatorlaw50.FlashDown", spec := "flashDown", apart := false }
def FlashDownSaid : Prop := flashDownRow.holds Try.pinned (OpenSpec.ofChange flashDownSpec)

/-- ITS FALSE NEIGHBOUR: 'it returns false'. Refute it at one input. -/
def flashDownWrong : ChangeSpec := { name := "flashDown", fn := fun _ => fun
  | [d] => { results := [.lit (.bool false)], args := [d] }
  | _ => none }
def FlashDownWrongFalsely : Prop := flashDownRow.holds Try.pinned (OpenSpec.ofChange flashDownWrong)

/-- 'commutatorlaw50.FlashNews': WHATEVER THE INPUT: true; the input reads as it did. -/
def flashNewsSpec : ChangeSpec := { name := "flashNews", fn := fun _ => fun
  | [d1, d2, d3] => { results := [.lit (.bool true)], args := [d1, d2, d3] }
  | _ => none }
def flashNewsRow : OpenClaim := { program := "ytfeceamhlphelaa", sum := "55159c1d7c1db527f9924229f0c776bc41aaf1ce40adc216741d55785fe7bf83", func := "commutator/commutatorlaw50.FlashNews", spec := "flashNews", apart := false }
def FlashNewsSaid : Prop := flashNewsRow.holds Try.pinned (OpenSpec.ofChange flashNewsSpec)

/-- ITS FALSE NEIGHBOUR: 'it returns false'. Refute it at one input. -/
def flashNewsWrong : ChangeSpec := { name := "flashNews", fn := fun _ => fun
  | [d1, d2, d3] => { results := [.lit (.bool false)], args := [d1, d2, d3] }
  | _ => none }
def FlashNewsWrongFalsely : Prop := flashNewsRow.holds Try.pinned (OpenSpec.ofChange flashNewsWrong)

/-- 'commutatorlaw51.ParamsDecodes': WHATEVER THE INPUT: true; the input reads as it did. -/
def paramsDecodesSpec : ChangeSpec := { name := "paramsDecodes", fn := fun _ => fun
  | [d] => { results := [.lit (.bool true)], args := [d] }
  | _ => none }
def paramsDecodesRow : OpenClaim := { program := "ytfeceamhlphelaa", sum := "55159c1d7c1db527f9924229f0c776bc41aaf1ce40adc216741d55785fe7bf83", func := "commutator/commutatorlaw51.ParamsDecodes", spec := "paramsDecodes", unfollowed := true, recurses := true, apart := false }
def ParamsDecodesSaid : Prop := paramsDecodesRow.holds Try.pinned (OpenSpec.ofChange paramsDecodesSpec)

/-- ITS FALSE NEIGHBOUR: 'it returns false'. Refute it at one input. -/
def paramsDecodesWrong : ChangeSpec := { name := "paramsDecodes", fn := fun _ => fun
  | [d] => { results := [.lit (.bool false)], args := [d] }
  | _ => none }
def ParamsDecodesWrongFalsely : Prop := paramsDecodesRow.holds Try.pinned (OpenSpec.ofChange paramsDecodesWrong)

/-- 'commutatorlaw51.ParamsDetects': WHATEVER THE INPUT: true; the input reads as it did. -/
def paramsDetectsSpec : ChangeSpec := { name := "paramsDetects", fn := fun _ => fun
  | [d1, d2, d3] => { results := [.lit (.bool true)], args := [d1, d2, d3] }
  | _ => none }
def paramsDetectsRow : OpenClaim := { program := "ytfeceamhlphelaa", sum := "55159c1d7c1db527f9924229f0c776bc41aaf1ce40adc216741d55785fe7bf83", func := "commutator/commutatorlaw51.ParamsDetects", spec := "paramsDetects", unfollowed := true, recurses := true, apart := false }
def ParamsDetectsSaid : Prop := paramsDetectsRow.holds Try.pinned (OpenSpec.ofChange paramsDetectsSpec)

/-- ITS FALSE NEIGHBOUR: 'it returns false'. Refute it at one input. -/
def paramsDetectsWrong : ChangeSpec := { name := "paramsDetects", fn := fun _ => fun
  | [d1, d2, d3] => { results := [.lit (.bool false)], args := [d1, d2, d3] }
  | _ => none }
def ParamsDetectsWrongFalsely : Prop := paramsDetectsRow.holds Try.pinned (OpenSpec.ofChange paramsDetectsWrong)

/-- 'commutatorlaw51.ParamsSteps': WHATEVER THE INPUT: true; the input reads as it did. -/
def paramsStepsSpec : ChangeSpec := { name := "paramsSteps", fn := fun _ => fun
  | [d1, d2, d3] => { results := [.lit (.bool true)], args := [d1, d2, d3] }
  | _ => none }
def paramsStepsRow : OpenClaim := { program := "ytfeceamhlphelaa", sum := "55159c1d7c1db527f9924229f0c776bc41aaf1ce40adc216741d55785fe7bf83", func := "commutator/commutatorlaw51.ParamsSteps", spec := "paramsSteps", unfollowed := true, recurses := true, apart := false }
def ParamsStepsSaid : Prop := paramsStepsRow.holds Try.pinned (OpenSpec.ofChange paramsStepsSpec)

/-- ITS FALSE NEIGHBOUR: 'it returns false'. Refute it at one input. -/
def paramsStepsWrong : ChangeSpec := { name := "paramsSteps", fn := fun _ => fun
  | [d1, d2, d3] => { results := [.lit (.bool false)], args := [d1, d2, d3] }
  | _ => none }
def ParamsStepsWrongFalsely : Prop := paramsStepsRow.holds Try.pinned (OpenSpec.ofChange paramsStepsWrong)

/-- 'commutatorlaw51.ParamsRanges': WHATEVER THE INPUT: true; the input reads as it did. -/
def paramsRangesSpec : ChangeSpec := { name := "paramsRanges", fn := fun _ => fun
  | [d1, d2] => { results := [.lit (.bool true)], args := [d1, d2] }
  | _ => none }
def paramsRangesRow : OpenClaim := { program := "ytfeceamhlphelaa", sum := "55159c1d7c1db527f9924229f0c776bc41aaf1ce40adc216741d55785fe7bf83", func := "commutator/commutatorlaw51.ParamsRanges", spec := "paramsRanges", unfollowed := true, recurses := true, apart := false }
def ParamsRangesSaid : Prop := paramsRangesRow.holds Try.pinned (OpenSpec.ofChange paramsRangesSpec)

/-- ITS FALSE NEIGHBOUR: 'it returns false'. Refute it at one input. -/
def paramsRangesWrong : ChangeSpec := { name := "paramsRanges", fn := fun _ => fun
  | [d1, d2] => { results := [.lit (.bool false)], args := [d1, d2] }
  | _ => none }
def ParamsRangesWrongFalsely : Prop := paramsRangesRow.holds Try.pinned (OpenSpec.ofChange paramsRangesWrong)

/-- 'commutatorlaw51.ParamsForms': WHATEVER THE INPUT: true; the input reads as it did. -/
def paramsFormsSpec : ChangeSpec := { name := "paramsForms", fn := fun _ => fun
  | [d1, d2] => { results := [.lit (.bool true)], args := [d1, d2] }
  | _ => none }
def paramsFormsRow : OpenClaim := { program := "ytfeceamhlphelaa", sum := "55159c1d7c1db527f9924229f0c776bc41aaf1ce40adc216741d55785fe7bf83", func := "commutator/commutatorlaw51.ParamsForms", spec := "paramsForms", unfollowed := true, recurses := true, apart := false }
def ParamsFormsSaid : Prop := paramsFormsRow.holds Try.pinned (OpenSpec.ofChange paramsFormsSpec)

/-- ITS FALSE NEIGHBOUR: 'it returns false'. Refute it at one input. -/
def paramsFormsWrong : ChangeSpec := { name := "paramsForms", fn := fun _ => fun
  | [d1, d2] => { results := [.lit (.bool false)], args := [d1, d2] }
  | _ => none }
def ParamsFormsWrongFalsely : Prop := paramsFormsRow.holds Try.pinned (OpenSpec.ofChange paramsFormsWrong)

/-- 'commutatorlaw51.ParamsWear': WHATEVER THE INPUT: true; the input reads as it did. -/
def paramsWearSpec : ChangeSpec := { name := "paramsWear", fn := fun _ => fun
  | [d1, d2, d3] => { results := [.lit (.bool true)], args := [d1, d2, d3] }
  | _ => none }
def paramsWearRow : OpenClaim := { program := "ytfeceamhlphelaa", sum := "55159c1d7c1db527f9924229f0c776bc41aaf1ce40adc216741d55785fe7bf83", func := "commutator/commutatorlaw51.ParamsWear", spec := "paramsWear", unfollowed := true, recurses := true, apart := false }
def ParamsWearSaid : Prop := paramsWearRow.holds Try.pinned (OpenSpec.ofChange paramsWearSpec)

/-- ITS FALSE NEIGHBOUR: 'it returns false'. Refute it at one input. -/
def paramsWearWrong : ChangeSpec := { name := "paramsWear", fn := fun _ => fun
  | [d1, d2, d3] => { results := [.lit (.bool false)], args := [d1, d2, d3] }
  | _ => none }
def ParamsWearWrongFalsely : Prop := paramsWearRow.holds Try.pinned (OpenSpec.ofChange paramsWearWrong)

/-- 'commutatorlaw51.ParamsSurvives': WHATEVER THE INPUT: true; the input reads as it did. -/
def paramsSurvivesSpec : ChangeSpec := { name := "paramsSurvives", fn := fun _ => fun
  | [d1, d2, d3] => { results := [.lit (.bool true)], args := [d1, d2, d3] }
  | _ => none }
def paramsSurvivesRow : OpenClaim := { program := "ytfeceamhlphelaa", sum := "55159c1d7c1db527f9924229f0c776bc41aaf1ce40adc216741d55785fe7bf83", func := "commutator/commutatorlaw51.ParamsSurvives", spec := "paramsSurvives", unfollowed := true, recurses := true, apart := false }
def ParamsSurvivesSaid : Prop := paramsSurvivesRow.holds Try.pinned (OpenSpec.ofChange paramsSurvivesSpec)

/-- ITS FALSE NEIGHBOUR: 'it returns false'. Refute it at one input. -/
def paramsSurvivesWrong : ChangeSpec := { name := "paramsSurvives", fn := fun _ => fun
  | [d1, d2, d3] => { results := [.lit (.bool false)], args := [d1, d2, d3] }
  | _ => none }
def ParamsSurvivesWrongFalsely : Prop := paramsSurvivesRow.holds Try.pinned (OpenSpec.ofChange paramsSurvivesWrong)

/-- 'commutatorlaw51.ParamsOpens': WHATEVER THE INPUT: true; the input reads as it did. -/
def paramsOpensSpec : ChangeSpec := { name := "paramsOpens", fn := fun _ => fun
  | [d1, d2, d3] => { results := [.lit (.bool true)], args := [d1, d2, d3] }
  | _ => none }
def paramsOpensRow : OpenClaim := { program := "ytfeceamhlphelaa", sum := "55159c1d7c1db527f9924229f0c776bc41aaf1ce40adc216741d55785fe7bf83", func := "commutator/commutatorlaw51.ParamsOpens", spec := "paramsOpens", unfollowed := true, recurses := true, apart := false }
def ParamsOpensSaid : Prop := paramsOpensRow.holds Try.pinned (OpenSpec.ofChange paramsOpensSpec)

/-- ITS FALSE NEIGHBOUR: 'it returns false'. Refute it at one input. -/
def paramsOpensWrong : ChangeSpec := { name := "paramsOpens", fn := fun _ => fun
  | [d1, d2, d3] => { results := [.lit (.bool false)], args := [d1, d2, d3] }
  | _ => none }
def ParamsOpensWrongFalsely : Prop := paramsOpensRow.holds Try.pinned (OpenSpec.ofChange paramsOpensWrong)

/-- 'commutatorlaw51.ParamsPlays': WHATEVER THE INPUT: true; the input reads as it did. -/
def paramsPlaysSpec : ChangeSpec := { name := "paramsPlays", fn := fun _ => fun
  | [d1, d2, d3] => { results := [.lit (.bool true)], args := [d1, d2, d3] }
  | _ => none }
def paramsPlaysRow : OpenClaim := { program := "ytfeceamhlphelaa", sum := "55159c1d7c1db527f9924229f0c776bc41aaf1ce40adc216741d55785fe7bf83", func := "commutator/commutatorlaw51.ParamsPlays", spec := "paramsPlays", unfollowed := true, recurses := true, apart := false }
def ParamsPlaysSaid : Prop := paramsPlaysRow.holds Try.pinned (OpenSpec.ofChange paramsPlaysSpec)

/-- ITS FALSE NEIGHBOUR: 'it returns false'. Refute it at one input. -/
def paramsPlaysWrong : ChangeSpec := { name := "paramsPlays", fn := fun _ => fun
  | [d1, d2, d3] => { results := [.lit (.bool false)], args := [d1, d2, d3] }
  | _ => none }
def ParamsPlaysWrongFalsely : Prop := paramsPlaysRow.holds Try.pinned (OpenSpec.ofChange paramsPlaysWrong)

/-- 'commutatortop.WholeFlash': WHATEVER THE INPUT: true; the input reads as it did. -/
def wholeFlashSpec : ChangeSpec := { name := "wholeFlash", fn := fun _ => fun
  | [d1, d2] => { results := [.lit (.bool true)], args := [d1, d2] }
  | _ => none }
def wholeFlashRow : OpenClaim := { program := "ytfeceamhlphelaa", sum := "55159c1d7c1db527f9924229f0c776bc41aaf1ce40adc216741d55785fe7bf83", func := "commutator/commutatortop.WholeFlash", spec := "wholeFlash", unfollowed := true, recurses := true, apart := false }
def WholeFlashSaid : Prop := wholeFlashRow.holds Try.pinned (OpenSpec.ofChange wholeFlashSpec)

/-- ITS FALSE NEIGHBOUR: 'it returns false'. Refute it at one input. -/
def wholeFlashWrong : ChangeSpec := { name := "wholeFlash", fn := fun _ => fun
  | [d1, d2] => { results := [.lit (.bool false)], args := [d1, d2] }
  | _ => none }
def WholeFlashWrongFalsely : Prop := wholeFlashRow.holds Try.pinned (OpenSpec.ofChange wholeFlashWrong)

/- THE SECOND FORM. 'bulk': how many values and letters a reading holds, each counted each time it is reached (what is shared counts as often as it is met; a slice's spare places count too). A statement '..UptoSaid' is the law's where the arguments, and the package variables that the reading takes, are together of bulk at most 1048576: NARROWER than '..Said'. Prove '..Said' where nothing that the law and all that it calls make is longer than what came in: it says more and counts as full. Else prove '..UptoSaid'. A law counts once. -/
mutual
def uptoBulk {H : Type} : DataW H → Nat
  | .lit (.string bytes) => bytes.length + 1
  | .lit _ => 1
  | .nil => 1
  | .ptr d => uptoBulk d + 1
  | .slice elems spare => uptoBulkAll elems + uptoBulkAll spare + 1
  | .agg parts => uptoBulkAll parts + 1
  | .iface _ d => uptoBulk d + 1
  | .map entries => uptoBulkEntries entries + 1
  | .held _ => 1
def uptoBulkAll {H : Type} : List (DataW H) → Nat
  | [] => 0
  | d :: r => uptoBulk d + uptoBulkAll r
def uptoBulkEntries {H : Type} : List (Lit × DataW H) → Nat
  | [] => 0
  | x :: r => uptoBulkEntry x + uptoBulkEntries r
def uptoBulkEntry {H : Type} : Lit × DataW H → Nat
  | (.string bytes, d) => bytes.length + uptoBulk d + 1
  | (_, d) => uptoBulk d + 1
 end
def uptoSmall : (H : Type) → List (DataW H) → Bool := fun _ ds => decide (uptoBulkAll ds ≤ 1048576)
def OpenSpec.upto (s : _root_.Go.ChangeSpec) : _root_.Go.OpenSpec := { _root_.Go.OpenSpec.ofChange s with cond := some uptoSmall }

/-- 'commutatorlaw50.FlashHolds', WHERE WHAT IT READS IS OF BULK AT MOST 1048576: true; the input reads as it did. -/
def flashHoldsUptoRow : OpenClaim := { program := "ytfeceamhlphelaa", sum := "55159c1d7c1db527f9924229f0c776bc41aaf1ce40adc216741d55785fe7bf83", func := "commutator/commutatorlaw50.FlashHolds", spec := "flashHolds", apart := false, narrowed := true }
def FlashHoldsUptoSaid : Prop := flashHoldsUptoRow.holds Try.pinned (OpenSpec.upto flashHoldsSpec)

/-- 'commutatorlaw50.FlashFuses', WHERE WHAT IT READS IS OF BULK AT MOST 1048576: true; the input reads as it did. -/
def flashFusesUptoRow : OpenClaim := { program := "ytfeceamhlphelaa", sum := "55159c1d7c1db527f9924229f0c776bc41aaf1ce40adc216741d55785fe7bf83", func := "commutator/commutatorlaw50.FlashFuses", spec := "flashFuses", apart := false, narrowed := true }
def FlashFusesUptoSaid : Prop := flashFusesUptoRow.holds Try.pinned (OpenSpec.upto flashFusesSpec)

/-- 'commutatorlaw50.FlashBits', WHERE WHAT IT READS IS OF BULK AT MOST 1048576: true; the input reads as it did. -/
def flashBitsUptoRow : OpenClaim := { program := "ytfeceamhlphelaa", sum := "55159c1d7c1db527f9924229f0c776bc41aaf1ce40adc216741d55785fe7bf83", func := "commutator/commutatorlaw50.FlashBits", spec := "flashBits", apart := false, narrowed := true }
def FlashBitsUptoSaid : Prop := flashBitsUptoRow.holds Try.pinned (OpenSpec.upto flashBitsSpec)

/-- 'commutatorlaw50.FlashTorn', WHERE WHAT IT READS IS OF BULK AT MOST 1048576: true; the input reads as it did. -/
def flashTornUptoRow : OpenClaim := { program := "ytfeceamhlphelaa", sum := "55159c1d7c1db527f9924229f0c776bc41aaf1ce40adc216741d55785fe7bf83", func := "commutator/commutatorlaw50.FlashTorn", spec := "flashTorn", apart := false, narrowed := true }
def FlashTornUptoSaid : Prop := flashTornUptoRow.holds Try.pinned (OpenSpec.upto flashTornSpec)

/-- 'commutatorlaw50.FlashOwns', WHERE WHAT IT READS IS OF BULK AT MOST 1048576: true; the input reads as it did. -/
def flashOwnsUptoRow : OpenClaim := { program := "ytfeceamhlphelaa", sum := "55159c1d7c1db527f9924229f0c776bc41aaf1ce40adc216741d55785fe7bf83", func := "commutator/commutatorlaw50.FlashOwns", spec := "flashOwns", apart := false, narrowed := true }
def FlashOwnsUptoSaid : Prop := flashOwnsUptoRow.holds Try.pinned (OpenSpec.upto flashOwnsSpec)

/-- 'commutatorlaw50.FlashPlays', WHERE WHAT IT READS IS OF BULK AT MOST 1048576: true; the input reads as it did. -/
def flashPlaysUptoRow : OpenClaim := { program := "ytfeceamhlphelaa", sum := "55159c1d7c1db527f9924229f0c776bc41aaf1ce40adc216741d55785fe7bf83", func := "commutator/commutatorlaw50.FlashPlays", spec := "flashPlays", apart := false, narrowed := true }
def FlashPlaysUptoSaid : Prop := flashPlaysUptoRow.holds Try.pinned (OpenSpec.upto flashPlaysSpec)

/-- 'commutatorlaw50.FlashDown', WHERE WHAT IT READS IS OF BULK AT MOST 1048576: true; the input reads as it did. -/
def flashDownUptoRow : OpenClaim := { program := "ytfeceamhlphelaa", sum := "55159c1d7c1db527f9924229f0c776bc41aaf1ce40adc216741d55785fe7bf83", func := "commutator/commutatorlaw50.FlashDown", spec := "flashDown", apart := false, narrowed := true }
def FlashDownUptoSaid : Prop := flashDownUptoRow.holds Try.pinned (OpenSpec.upto flashDownSpec)

/-- 'commutatorlaw50.FlashNews', WHERE WHAT IT READS IS OF BULK AT MOST 1048576: true; the input reads as it did. -/
def flashNewsUptoRow : OpenClaim := { program := "ytfeceamhlphelaa", sum := "55159c1d7c1db527f9924229f0c776bc41aaf1ce40adc216741d55785fe7bf83", func := "commutator/commutatorlaw50.FlashNews", spec := "flashNews", apart := false, narrowed := true }
def FlashNewsUptoSaid : Prop := flashNewsUptoRow.holds Try.pinned (OpenSpec.upto flashNewsSpec)

/-- 'commutatorlaw51.ParamsDecodes', WHERE WHAT IT READS IS OF BULK AT MOST 1048576: true; the input reads as it did. -/
def paramsDecodesUptoRow : OpenClaim := { program := "ytfeceamhlphelaa", sum := "55159c1d7c1db527f9924229f0c776bc41aaf1ce40adc216741d55785fe7bf83", func := "commutator/commutatorlaw51.ParamsDecodes", spec := "paramsDecodes", unfollowed := true, recurses := true, apart := false, narrowed := true }
def ParamsDecodesUptoSaid : Prop := paramsDecodesUptoRow.holds Try.pinned (OpenSpec.upto paramsDecodesSpec)

/-- 'commutatorlaw51.ParamsDetects', WHERE WHAT IT READS IS OF BULK AT MOST 1048576: true; the input reads as it did. -/
def paramsDetectsUptoRow : OpenClaim := { program := "ytfeceamhlphelaa", sum := "55159c1d7c1db527f9924229f0c776bc41aaf1ce40adc216741d55785fe7bf83", func := "commutator/commutatorlaw51.ParamsDetects", spec := "paramsDetects", unfollowed := true, recurses := true, apart := false, narrowed := true }
def ParamsDetectsUptoSaid : Prop := paramsDetectsUptoRow.holds Try.pinned (OpenSpec.upto paramsDetectsSpec)

/-- 'commutatorlaw51.ParamsSteps', WHERE WHAT IT READS IS OF BULK AT MOST 1048576: true; the input reads as it did. -/
def paramsStepsUptoRow : OpenClaim := { program := "ytfeceamhlphelaa", sum := "55159c1d7c1db527f9924229f0c776bc41aaf1ce40adc216741d55785fe7bf83", func := "commutator/commutatorlaw51.ParamsSteps", spec := "paramsSteps", unfollowed := true, recurses := true, apart := false, narrowed := true }
def ParamsStepsUptoSaid : Prop := paramsStepsUptoRow.holds Try.pinned (OpenSpec.upto paramsStepsSpec)

/-- 'commutatorlaw51.ParamsRanges', WHERE WHAT IT READS IS OF BULK AT MOST 1048576: true; the input reads as it did. -/
def paramsRangesUptoRow : OpenClaim := { program := "ytfeceamhlphelaa", sum := "55159c1d7c1db527f9924229f0c776bc41aaf1ce40adc216741d55785fe7bf83", func := "commutator/commutatorlaw51.ParamsRanges", spec := "paramsRanges", unfollowed := true, recurses := true, apart := false, narrowed := true }
def ParamsRangesUptoSaid : Prop := paramsRangesUptoRow.holds Try.pinned (OpenSpec.upto paramsRangesSpec)

/-- 'commutatorlaw51.ParamsForms', WHERE WHAT IT READS IS OF BULK AT MOST 1048576: true; the input reads as it did. -/
def paramsFormsUptoRow : OpenClaim := { program := "ytfeceamhlphelaa", sum := "55159c1d7c1db527f9924229f0c776bc41aaf1ce40adc216741d55785fe7bf83", func := "commutator/commutatorlaw51.ParamsForms", spec := "paramsForms", unfollowed := true, recurses := true, apart := false, narrowed := true }
def ParamsFormsUptoSaid : Prop := paramsFormsUptoRow.holds Try.pinned (OpenSpec.upto paramsFormsSpec)

/-- 'commutatorlaw51.ParamsWear', WHERE WHAT IT READS IS OF BULK AT MOST 1048576: true; the input reads as it did. -/
def paramsWearUptoRow : OpenClaim := { program := "ytfeceamhlphelaa", sum := "55159c1d7c1db527f9924229f0c776bc41aaf1ce40adc216741d55785fe7bf83", func := "commutator/commutatorlaw51.ParamsWear", spec := "paramsWear", unfollowed := true, recurses := true, apart := false, narrowed := true }
def ParamsWearUptoSaid : Prop := paramsWearUptoRow.holds Try.pinned (OpenSpec.upto paramsWearSpec)

/-- 'commutatorlaw51.ParamsSurvives', WHERE WHAT IT READS IS OF BULK AT MOST 1048576: true; the input reads as it did. -/
def paramsSurvivesUptoRow : OpenClaim := { program := "ytfeceamhlphelaa", sum := "55159c1d7c1db527f9924229f0c776bc41aaf1ce40adc216741d55785fe7bf83", func := "commutator/commutatorlaw51.ParamsSurvives", spec := "paramsSurvives", unfollowed := true, recurses := true, apart := false, narrowed := true }
def ParamsSurvivesUptoSaid : Prop := paramsSurvivesUptoRow.holds Try.pinned (OpenSpec.upto paramsSurvivesSpec)

/-- 'commutatorlaw51.ParamsOpens', WHERE WHAT IT READS IS OF BULK AT MOST 1048576: true; the input reads as it did. -/
def paramsOpensUptoRow : OpenClaim := { program := "ytfeceamhlphelaa", sum := "55159c1d7c1db527f9924229f0c776bc41aaf1ce40adc216741d55785fe7bf83", func := "commutator/commutatorlaw51.ParamsOpens", spec := "paramsOpens", unfollowed := true, recurses := true, apart := false, narrowed := true }
def ParamsOpensUptoSaid : Prop := paramsOpensUptoRow.holds Try.pinned (OpenSpec.upto paramsOpensSpec)

/-- 'commutatorlaw51.ParamsPlays', WHERE WHAT IT READS IS OF BULK AT MOST 1048576: true; the input reads as it did. -/
def paramsPlaysUptoRow : OpenClaim := { program := "ytfeceamhlphelaa", sum := "55159c1d7c1db527f9924229f0c776bc41aaf1ce40adc216741d55785fe7bf83", func := "commutator/commutatorlaw51.ParamsPlays", spec := "paramsPlays", unfollowed := true, recurses := true, apart := false, narrowed := true }
def ParamsPlaysUptoSaid : Prop := paramsPlaysUptoRow.holds Try.pinned (OpenSpec.upto paramsPlaysSpec)

/-- 'commutatortop.WholeFlash', WHERE WHAT IT READS IS OF BULK AT MOST 1048576: true; the input reads as it did. -/
def wholeFlashUptoRow : OpenClaim := { program := "ytfeceamhlphelaa", sum := "55159c1d7c1db527f9924229f0c776bc41aaf1ce40adc216741d55785fe7bf83", func := "commutator/commutatortop.WholeFlash", spec := "wholeFlash", unfollowed := true, recurses := true, apart := false, narrowed := true }
def WholeFlashUptoSaid : Prop := wholeFlashUptoRow.holds Try.pinned (OpenSpec.upto wholeFlashSpec)

end Rows
end Go.Proofs.Ytfeceamhlphelaa
