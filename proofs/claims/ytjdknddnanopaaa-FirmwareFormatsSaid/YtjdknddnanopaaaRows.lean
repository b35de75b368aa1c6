/-
  No cell of these rows narrows 'for every input' (looked for: loops, veiled, ifaces, maps, wideKeys, modest, calm, conditions, laid).
  DERIVED. THE GIVEN ROWS OF THIS SEAT. 6 by the template 'for every input the law returns true; each argument reads behind the call as it read before'; 0 by the template 'total and deterministic' (their statements: YtjdknddnanopaaaTotals.lean).
  GIVEN WITH THE SEED: the statements are not yours to turn. If you find one false, say at which input.
  Laid BY PROGRAM, IN A SANDBOX (cutbox-rows.mjs): the forced cells as the released guide's own fill.sh prints them over the translation 5a4893dc16aa46d0… (all of the seat's roots in one cut). By AI agents, Wed Nov 11 2026. No macro, syntax, notation, axiom, sorry.
-/
import Derived.Test.YtjdknddnanopaaaChecked
import GoSem.Claim
import GoSem.ClaimJoined
import GoSem.ClaimMapViews
import Derived.JoinedTies
import Derived.KernelRfl
namespace Go.Proofs.Ytjdknddnanopaaa
/- THE CELL 'sum', in the pinned program and in every row, IS THE sha256 OF THE DUMP (.gsa) THAT YtjdknddnanopaaaProg.lean LOADS. Nothing in Lean hashes anything: it is a label: what it is worth is what the hold of that sum in a sandbox is worth. -/
noncomputable def Try.pinned : Pinned := { name := "ytjdknddnanopaaa", sum := "5a4893dc16aa46d0862050949f012ec7a3f7654c96489640672d6a7eaca2ac29", checked := Try.checked }
namespace Rows
def none {H : Type} : Left H := { results := [], args := [] }

/-- 'commutatorlaw52.FirmwareSums': WHATEVER THE INPUT: true; the input reads as it did. -/
def firmwareSumsSpec : ChangeSpec := { name := "firmwareSums", fn := fun _ => fun
  | [d] => { results := [.lit (.bool true)], args := [d] }
  | _ => none }
def firmwareSumsRow : OpenClaim := { program := "ytjdknddnanopaaa", sum := "5a4893dc16aa46d0862050949f012ec7a3f7654c96489640672d6a7eaca2ac29", func := "commutator/commutatorlaw52.FirmwareSums", spec := "firmwareSums", unfollowed := true, recurses := true, plainKeys := false, apart := false }
def FirmwareSumsSaid : Prop := firmwareSumsRow.holds Try.pinned (OpenSpec.ofChange firmwareSumsSpec)

/-- ITS FALSE NEIGHBOUR: 'it returns false'. Refute it at one input. -/
def firmwareSumsWrong : ChangeSpec := { name := "firmwareSums", fn := fun _ => fun
  | [d] => { results := [.lit (.bool false)], args := [d] }
  | _ => none }
def FirmwareSumsWrongFalsely : Prop := firmwareSumsRow.holds Try.pinned (OpenSpec.ofChange firmwareSumsWrong)

/-- 'commutatorlaw52.FirmwareFormats': WHATEVER THE INPUT: true; the input reads as it did. -/
def firmwareFormatsSpec : ChangeSpec := { name := "firmwareFormats", fn := fun _ => fun
  | [d1, d2, d3] => { results := [.lit (.bool true)], args := [d1, d2, d3] }
  | _ => none }
def firmwareFormatsRow : OpenClaim := { program := "ytjdknddnanopaaa", sum := "5a4893dc16aa46d0862050949f012ec7a3f7654c96489640672d6a7eaca2ac29", func := "commutator/commutatorlaw52.FirmwareFormats", spec := "firmwareFormats", unfollowed := true, recurses := true, plainKeys := false, apart := false }
def FirmwareFormatsSaid : Prop := firmwareFormatsRow.holds Try.pinned (OpenSpec.ofChange firmwareFormatsSpec)

/-- ITS FALSE NEIGHBOUR: 'it returns false'. Refute it at one input. -/
def firmwareFormatsWrong : ChangeSpec := { name := "firmwareFormats", fn := fun _ => fun
  | [d1, d2, d3] => { results := [.lit (.bool false)], args := [d1, d2, d3] }
  | _ => none }
def FirmwareFormatsWrongFalsely : Prop := firmwareFormatsRow.holds Try.pinned (OpenSpec.ofChange firmwareFormatsWrong)

/-- 'commutatorlaw52.FirmwareTries': WHATEVER THE INPUT: true; the input reads as it did. -/
def firmwareTriesSpec : ChangeSpec := { name := "firmwareTries", fn := fun _ => fun
  | [d1, d2, d3] => { results := [.lit (.bool true)], args := [d1, d2, d3] }
  | _ => none }
def firmwareTriesRow : OpenClaim := { program := "ytjdknddnanopaaa", sum := "5a4893dc16aa46d0862050949f012ec7a3f7654c96489640672d6a7eaca2ac29", func := "commutator/commutatorlaw52.FirmwareTries", spec := "firmwareTries", unfollowed := true, recurses := true, plainKeys := false, apart := false }
def FirmwareTriesSaid : Prop := firmwareTriesRow.holds Try.pinned (OpenSpec.ofChange firmwareTriesSpec)

/-- ITS FALSE NEIGHBOUR: 'it returns false'. Refute it at one input. -/
def firmwareTriesWrong : ChangeSpec := { name := "firmwareTries", fn := fun _ => fun
  | [d1, d2, d3] => { results := [.lit (.bool false)], args := [d1, d2, d3] }
  | _ => none }
def FirmwareTriesWrongFalsely : Prop := firmwareTriesRow.holds Try.pinned (OpenSpec.ofChange firmwareTriesWrong)

/-- 'commutatorlaw52.FirmwareForms': WHATEVER THE INPUT: true; the input reads as it did. -/
def firmwareFormsSpec : ChangeSpec := { name := "firmwareForms", fn := fun _ => fun
  | [d1, d2, d3] => { results := [.lit (.bool true)], args := [d1, d2, d3] }
  | _ => none }
def firmwareFormsRow : OpenClaim := { program := "ytjdknddnanopaaa", sum := "5a4893dc16aa46d0862050949f012ec7a3f7654c96489640672d6a7eaca2ac29", func := "commutator/commutatorlaw52.FirmwareForms", spec := "firmwareForms", unfollowed := true, recurses := true, plainKeys := false, apart := false }
def FirmwareFormsSaid : Prop := firmwareFormsRow.holds Try.pinned (OpenSpec.ofChange firmwareFormsSpec)

/-- ITS FALSE NEIGHBOUR: 'it returns false'. Refute it at one input. -/
def firmwareFormsWrong : ChangeSpec := { name := "firmwareForms", fn := fun _ => fun
  | [d1, d2, d3] => { results := [.lit (.bool false)], args := [d1, d2, d3] }
  | _ => none }
def FirmwareFormsWrongFalsely : Prop := firmwareFormsRow.holds Try.pinned (OpenSpec.ofChange firmwareFormsWrong)

/-- 'commutatorlaw52.FirmwareSurvives': WHATEVER THE INPUT: true; the input reads as it did. -/
def firmwareSurvivesSpec : ChangeSpec := { name := "firmwareSurvives", fn := fun _ => fun
  | [d1, d2] => { results := [.lit (.bool true)], args := [d1, d2] }
  | _ => none }
def firmwareSurvivesRow : OpenClaim := { program := "ytjdknddnanopaaa", sum := "5a4893dc16aa46d0862050949f012ec7a3f7654c96489640672d6a7eaca2ac29", func := "commutator/commutatorlaw52.FirmwareSurvives", spec := "firmwareSurvives", unfollowed := true, recurses := true, plainKeys := false, apart := false }
def FirmwareSurvivesSaid : Prop := firmwareSurvivesRow.holds Try.pinned (OpenSpec.ofChange firmwareSurvivesSpec)

/-- ITS FALSE NEIGHBOUR: 'it returns false'. Refute it at one input. -/
def firmwareSurvivesWrong : ChangeSpec := { name := "firmwareSurvives", fn := fun _ => fun
  | [d1, d2] => { results := [.lit (.bool false)], args := [d1, d2] }
  | _ => none }
def FirmwareSurvivesWrongFalsely : Prop := firmwareSurvivesRow.holds Try.pinned (OpenSpec.ofChange firmwareSurvivesWrong)

/-- 'commutatortop.WholeBus': WHATEVER THE INPUT: true; the input reads as it did. -/
def wholeBusSpec : ChangeSpec := { name := "wholeBus", fn := fun _ => fun
  | [d1, d2, d3] => { results := [.lit (.bool true)], args := [d1, d2, d3] }
  | _ => none }
def wholeBusRow : OpenClaim := { program := "ytjdknddnanopaaa", sum := "5a4893dc16aa46d0862050949f012ec7a3f7654c96489640672d6a7eaca2ac29", func := "commutator/commutatortop.WholeBus", spec := "wholeBus", unfollowed := true, recurses := true, plainKeys := false, apart := false }
def WholeBusSaid : Prop := wholeBusRow.holds Try.pinned (OpenSpec.ofChange wholeBusSpec)

/-- ITS FALSE NEIGHBOUR: 'it returns false'. Refute it at one input. -/
def wholeBusWrong : ChangeSpec := { name := "wholeBus", fn := fun _ => fun
  | [d1, d2, d3] => { results := [.lit (.bool false)], args := [d1, d2, d3] }
  | _ => none }
def WholeBusWrongFalsely : Prop := wholeBusRow.holds Try.pinned (OpenSpec.ofChange wholeBusWrong)

/- THE SECOND FORM. 'bulk': how many values and letters a reading holds, each counted each time it is reached (what is shared counts as often as it is met; a slice's spare places count too). A statement '..UptoSaid' is the law's where the arguments, and the package variables that the reading takes, are together of bulk at most 1048576: NARROWER than '..Said'. Prove '..Said' where nothing that the law and all that it calls make is longer than what came in: it says more and counts as full. Else prove '..UptoSaid'. A law counts once. -/
mutual
def uptoBulk {H : Type} : DataW H → Nat
  | .lit (.string bytes) => bytes.length + 1
  | .lit _ => 1
  | .nil => 1
  | .ptr d => uptoBulk d + 1
  | .slice elems spare => uptoBulkAll elems + uptoBulkAll spare + 1
  | .agg parts => uptoBulkAll parts + 1
  | .iface _ d => uptoBulk d + 1
  | .map entries => uptoBulkEntries entries + 1
  | .held _ => 1
def uptoBulkAll {H : Type} : List (DataW H) → Nat
  | [] => 0
  | d :: r => uptoBulk d + uptoBulkAll r
def uptoBulkEntries {H : Type} : List (Lit × DataW H) → Nat
  | [] => 0
  | x :: r => uptoBulkEntry x + uptoBulkEntries r
def uptoBulkEntry {H : Type} : Lit × DataW H → Nat
  | (.string bytes, d) => bytes.length + uptoBulk d + 1
  | (_, d) => uptoBulk d + 1
 end
def uptoSmall : (H : Type) → List (DataW H) → Bool := fun _ ds => decide (uptoBulkAll ds ≤ 1048576)
def OpenSpec.upto (s : _root_.Go.ChangeSpec) : _root_.Go.OpenSpec := { _root_.Go.OpenSpec.ofChange s with cond := some uptoSmall }

/-- 'commutatorlaw52.FirmwareSums', WHERE WHAT IT READS IS OF BULK AT MOST 1048576: true; the input reads as it did. -/
def firmwareSumsUptoRow : OpenClaim := { program := "ytjdknddnanopaaa", sum := "5a4893dc16aa46d0862050949f012ec7a3f7654c96489640672d6a7eaca2ac29", func := "commutator/commutatorlaw52.FirmwareSums", spec := "firmwareSums", unfollowed := true, recurses := true, plainKeys := false, apart := false, narrowed := true }
def FirmwareSumsUptoSaid : Prop := firmwareSumsUptoRow.holds Try.pinned (OpenSpec.upto firmwareSumsSpec)

/-- 'commutatorlaw52.FirmwareFormats', WHERE WHAT IT READS IS OF BULK AT MOST 1048576: true; the input reads as it did. -/
def firmwareFormatsUptoRow : OpenClaim := { program := "ytjdknddnanopaaa", sum := "5a4893dc16aa46d0862050949f012ec7a3f7654c96489640672d6a7eaca2ac29", func := "commutator/commutatorlaw52.FirmwareFormats", spec := "firmwareFormats", unfollowed := true, recurses := true, plainKeys := false, apart := false, narrowed := true }
def FirmwareFormatsUptoSaid : Prop := firmwareFormatsUptoRow.holds Try.pinned (OpenSpec.upto firmwareFormatsSpec)

/-- 'commutatorlaw52.FirmwareTries', WHERE WHAT IT READS IS OF BULK AT MOST 1048576: true; the input reads as it did. -/
def firmwareTriesUptoRow : OpenClaim := { program := "ytjdknddnanopaaa", sum := "5a4893dc16aa46d0862050949f012ec7a3f7654c96489640672d6a7eaca2ac29", func := "commutator/commutatorlaw52.FirmwareTries", spec := "firmwareTries", unfollowed := true, recurses := true, plainKeys := false, apart := false, narrowed := true }
def FirmwareTriesUptoSaid : Prop := firmwareTriesUptoRow.holds Try.pinned (OpenSpec.upto firmwareTriesSpec)

/-- 'commutatorlaw52.FirmwareForms', WHERE WHAT IT READS IS OF BULK AT MOST 1048576: true; the input reads as it did. -/
def firmwareFormsUptoRow : OpenClaim := { program := "ytjdknddnanopaaa", sum := "5a4893dc16aa46d0862050949f012ec7a3f7654c96489640672d6a7eaca2ac29", func := "commutator/commutatorlaw52.FirmwareForms", spec := "firmwareForms", unfollowed := true, recurses := true, plainKeys := false, apart := false, narrowed := true }
def FirmwareFormsUptoSaid : Prop := firmwareFormsUptoRow.holds Try.pinned (OpenSpec.upto firmwareFormsSpec)

/-- 'commutatorlaw52.FirmwareSurvives', WHERE WHAT IT READS IS OF BULK AT MOST 1048576: true; the input reads as it did. -/
def firmwareSurvivesUptoRow : OpenClaim := { program := "ytjdknddnanopaaa", sum := "5a4893dc16aa46d0862050949f012ec7a3f7654c96489640672d6a7eaca2ac29", func := "commutator/commutatorlaw52.FirmwareSurvives", spec := "firmwareSurvives", unfollowed := true, recurses := true, plainKeys := false, apart := false, narrowed := true }
def FirmwareSurvivesUptoSaid : Prop := firmwareSurvivesUptoRow.holds Try.pinned (OpenSpec.upto firmwareSurvivesSpec)

/-- 'commutatortop.WholeBus', WHERE WHAT IT READS IS OF BULK AT MOST 1048576: true; the input reads as it did. -/
def wholeBusUptoRow : OpenClaim := { program := "ytjdknddnanopaaa", sum := "5a4893dc16aa46d0862050949f012ec7a3f7654c96489640672d6a7eaca2ac29", func := "commutator/commutatortop.WholeBus", spec := "wholeBus", unfollowed := true, recurses := true, plainKeys := false, apart := false, narrowed := true }
def WholeBusUptoSaid : Prop := wholeBusUptoRow.holds Try.pinned (OpenSpec.upto wholeBusSpec)

end Rows
end Go.Proofs.Ytjdknddnanopaaa
