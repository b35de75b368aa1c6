/-
  No cell of these rows narrows 'for every input' (looked for: loops, veiled, ifaces, maps, wideKeys, modest, calm, conditions, laid).
  DERIVED. THE GIVEN ROWS OF THIS SEAT. 15 by the template 'for every input the law returns true; each argument reads behind the call as it read before'; 0 by the template 'total and deterministic' (their statements: YteooabcgojadcaaTotals.lean).
  GIVEN WITH THE SEED: the statements are not yours to turn. If you find one false, say at which input.
  Laid BY PROGRAM, IN A SANDBOX (cutbox-rows.mjs): the forced cells as the released guide's own fill.sh prints them over the translation 4bc09ac5b019e2bc… (all of the seat's roots in one cut). By AI agents, Wed Nov 11 2026. No macro, syntax, notation, axiom, sorry.
-/
import Derived.Test.YteooabcgojadcaaChecked
import GoSem.Claim
import GoSem.ClaimJoined
import GoSem.ClaimMapViews
import Derived.JoinedTies
import Derived.KernelRfl
namespace Go.Proofs.Yteooabcgojadcaa
/- THE CELL 'sum', in the pinned program and in every row, IS THE sha256 OF THE DUMP (.gsa) THAT YteooabcgojadcaaProg.lean LOADS. Nothing in Lean hashes anything: it is a label: what it is worth is what the hold of that sum in a sandbox is worth. -/
noncomputable def Try.pinned : Pinned := { name := "yteooabcgojadcaa", sum := "4bc09ac5b019e2bcc5197d9ea6037abd343c312c7475aa8d231e23f7ceda85f3", checked := Try.checked }
namespace Rows
def none {H : Type} : Left H := { results := [], args := [] }

/-- 'commutatorlaw53.DictionaryChecks': WHATEVER THE INPUT: true; the input reads as it did. -/
def dictionaryChecksSpec : ChangeSpec := { name := "dictionaryChecks", fn := fun _ => fun
  | [d] => { results := [.lit (.bool true)], args := [d] }
  | _ => none }
def dictionaryChecksRow : OpenClaim := { program := "yteooabcgojadcaa", sum := "4bc09ac5b019e2bcc5197d9ea6037abd343c312c7475aa8d231e23f7ceda85f3", func := "commutator/commutatorlaw53.DictionaryChecks", spec := "dictionaryChecks", plainKeys := false, apart := false }
def DictionaryChecksSaid : Prop := dictionaryChecksRow.holds Try.pinned (OpenSpec.ofChange dictionaryChecksSpec)

/-- ITS FALSE NEIGHBOUR: 'it returns false'. Refute it at one input. -/
def dictionaryChecksWrong : ChangeSpec := { name := "dictionaryChecks", fn := fun _ => fun
  | [d] => { results := [.lit (.bool false)], args := [d] }
  | _ => none }
def DictionaryChecksWrongFalsely : Prop := dictionaryChecksRow.holds Try.pinned (OpenSpec.ofChange dictionaryChecksWrong)

/-- 'commutatorlaw53.DictionaryBytes': WHATEVER THE INPUT: true; the input reads as it did. -/
def dictionaryBytesSpec : ChangeSpec := { name := "dictionaryBytes", fn := fun _ => fun
  | [d1, d2, d3] => { results := [.lit (.bool true)], args := [d1, d2, d3] }
  | _ => none }
def dictionaryBytesRow : OpenClaim := { program := "yteooabcgojadcaa", sum := "4bc09ac5b019e2bcc5197d9ea6037abd343c312c7475aa8d231e23f7ceda85f3", func := "commutator/commutatorlaw53.DictionaryBytes", spec := "dictionaryBytes", plainKeys := false, apart := false }
def DictionaryBytesSaid : Prop := dictionaryBytesRow.holds Try.pinned (OpenSpec.ofChange dictionaryBytesSpec)

/-- ITS FALSE NEIGHBOUR: 'it returns false'. Refute it at one input. -/
def dictionaryBytesWrong : ChangeSpec := { name := "dictionaryBytes", fn := fun _ => fun
  | [d1, d2, d3] => { results := [.lit (.bool false)], args := [d1, d2, d3] }
  | _ => none }
def DictionaryBytesWrongFalsely : Prop := dictionaryBytesRow.holds Try.pinned (OpenSpec.ofChange dictionaryBytesWrong)

/-- 'commutatorlaw53.DictionaryBack': WHATEVER THE INPUT: true; the input reads as it did. -/
def dictionaryBackSpec : ChangeSpec := { name := "dictionaryBack", fn := fun _ => fun
  | [d1, d2, d3] => { results := [.lit (.bool true)], args := [d1, d2, d3] }
  | _ => none }
def dictionaryBackRow : OpenClaim := { program := "yteooabcgojadcaa", sum := "4bc09ac5b019e2bcc5197d9ea6037abd343c312c7475aa8d231e23f7ceda85f3", func := "commutator/commutatorlaw53.DictionaryBack", spec := "dictionaryBack", plainKeys := false, apart := false }
def DictionaryBackSaid : Prop := dictionaryBackRow.holds Try.pinned (OpenSpec.ofChange dictionaryBackSpec)

/-- ITS FALSE NEIGHBOUR: 'it returns false'. Refute it at one input. -/
def dictionaryBackWrong : ChangeSpec := { name := "dictionaryBack", fn := fun _ => fun
  | [d1, d2, d3] => { results := [.lit (.bool false)], args := [d1, d2, d3] }
  | _ => none }
def DictionaryBackWrongFalsely : Prop := dictionaryBackRow.holds Try.pinned (OpenSpec.ofChange dictionaryBackWrong)

/-- 'commutatorlaw53.DictionaryLimits': WHATEVER THE INPUT: true; the input reads as it did. -/
def dictionaryLimitsSpec : ChangeSpec := { name := "dictionaryLimits", fn := fun _ => fun
  | [d1, d2] => { results := [.lit (.bool true)], args := [d1, d2] }
  | _ => none }
def dictionaryLimitsRow : OpenClaim := { program := "yteooabcgojadcaa", sum := "4bc09ac5b019e2bcc5197d9ea6037abd343c312c7475aa8d231e23f7ceda85f3", func := "commutator/commutatorlaw53.DictionaryLimits", spec := "dictionaryLimits", plainKeys := false, apart := false }
def DictionaryLimitsSaid : Prop := dictionaryLimitsRow.holds Try.pinned (OpenSpec.ofChange dictionaryLimitsSpec)

/-- ITS FALSE NEIGHBOUR: 'it returns false'. Refute it at one input. -/
def dictionaryLimitsWrong : ChangeSpec := { name := "dictionaryLimits", fn := fun _ => fun
  | [d1, d2] => { results := [.lit (.bool false)], args := [d1, d2] }
  | _ => none }
def DictionaryLimitsWrongFalsely : Prop := dictionaryLimitsRow.holds Try.pinned (OpenSpec.ofChange dictionaryLimitsWrong)

/-- 'commutatorlaw53.DictionaryWrites': WHATEVER THE INPUT: true; the input reads as it did. -/
def dictionaryWritesSpec : ChangeSpec := { name := "dictionaryWrites", fn := fun _ => fun
  | [d1, d2, d3] => { results := [.lit (.bool true)], args := [d1, d2, d3] }
  | _ => none }
def dictionaryWritesRow : OpenClaim := { program := "yteooabcgojadcaa", sum := "4bc09ac5b019e2bcc5197d9ea6037abd343c312c7475aa8d231e23f7ceda85f3", func := "commutator/commutatorlaw53.DictionaryWrites", spec := "dictionaryWrites", plainKeys := false, apart := false }
def DictionaryWritesSaid : Prop := dictionaryWritesRow.holds Try.pinned (OpenSpec.ofChange dictionaryWritesSpec)

/-- ITS FALSE NEIGHBOUR: 'it returns false'. Refute it at one input. -/
def dictionaryWritesWrong : ChangeSpec := { name := "dictionaryWrites", fn := fun _ => fun
  | [d1, d2, d3] => { results := [.lit (.bool false)], args := [d1, d2, d3] }
  | _ => none }
def DictionaryWritesWrongFalsely : Prop := dictionaryWritesRow.holds Try.pinned (OpenSpec.ofChange dictionaryWritesWrong)

/-- 'commutatorlaw53.DictionaryPlays': WHATEVER THE INPUT: true; the input reads as it did. -/
def dictionaryPlaysSpec : ChangeSpec := { name := "dictionaryPlays", fn := fun _ => fun
  | [d1, d2] => { results := [.lit (.bool true)], args := [d1, d2] }
  | _ => none }
def dictionaryPlaysRow : OpenClaim := { program := "yteooabcgojadcaa", sum := "4bc09ac5b019e2bcc5197d9ea6037abd343c312c7475aa8d231e23f7ceda85f3", func := "commutator/commutatorlaw53.DictionaryPlays", spec := "dictionaryPlays", plainKeys := false, apart := false }
def DictionaryPlaysSaid : Prop := dictionaryPlaysRow.holds Try.pinned (OpenSpec.ofChange dictionaryPlaysSpec)

/-- ITS FALSE NEIGHBOUR: 'it returns false'. Refute it at one input. -/
def dictionaryPlaysWrong : ChangeSpec := { name := "dictionaryPlays", fn := fun _ => fun
  | [d1, d2] => { results := [.lit (.bool false)], args := [d1, d2] }
  | _ => none }
def DictionaryPlaysWrongFalsely : Prop := dictionaryPlaysRow.holds Try.pinned (OpenSpec.ofChange dictionaryPlaysWrong)

/-- 'commutatorlaw53.DictionaryApart': WHATEVER THE INPUT: true; the input reads as it did. -/
def dictionaryApartSpec : ChangeSpec := { name := "dictionaryApart", fn := fun _ => fun
  | [d1, d2] => { results := [.lit (.bool true)], args := [d1, d2] }
  | _ => none }
def dictionaryApartRow : OpenClaim := { program := "yteooabcgojadcaa", sum := "4bc09ac5b019e2bcc5197d9ea6037abd343c312c7475aa8d231e23f7ceda85f3", func := "commutator/commutatorlaw53.DictionaryApart", spec := "dictionaryApart", plainKeys := false, apart := false }
def DictionaryApartSaid : Prop := dictionaryApartRow.holds Try.pinned (OpenSpec.ofChange dictionaryApartSpec)

/-- ITS FALSE NEIGHBOUR: 'it returns false'. Refute it at one input. -/
def dictionaryApartWrong : ChangeSpec := { name := "dictionaryApart", fn := fun _ => fun
  | [d1, d2] => { results := [.lit (.bool false)], args := [d1, d2] }
  | _ => none }
def DictionaryApartWrongFalsely : Prop := dictionaryApartRow.holds Try.pinned (OpenSpec.ofChange dictionaryApartWrong)

/-- 'commutatorlaw54.MappingPacks': WHATEVER THE INPUT: true; the input reads as it did. -/
def mappingPacksSpec : ChangeSpec := { name := "mappingPacks", fn := fun _ => fun
  | [d1, d2, d3] => { results := [.lit (.bool true)], args := [d1, d2, d3] }
  | _ => none }
def mappingPacksRow : OpenClaim := { program := "yteooabcgojadcaa", sum := "4bc09ac5b019e2bcc5197d9ea6037abd343c312c7475aa8d231e23f7ceda85f3", func := "commutator/commutatorlaw54.MappingPacks", spec := "mappingPacks", unfollowed := true, recurses := true, plainKeys := false, apart := false }
def MappingPacksSaid : Prop := mappingPacksRow.holds Try.pinned (OpenSpec.ofChange mappingPacksSpec)

/-- ITS FALSE NEIGHBOUR: 'it returns false'. Refute it at one input. -/
def mappingPacksWrong : ChangeSpec := { name := "mappingPacks", fn := fun _ => fun
  | [d1, d2, d3] => { results := [.lit (.bool false)], args := [d1, d2, d3] }
  | _ => none }
def MappingPacksWrongFalsely : Prop := mappingPacksRow.holds Try.pinned (OpenSpec.ofChange mappingPacksWrong)

/-- 'commutatorlaw54.MappingCounts': WHATEVER THE INPUT: true; the input reads as it did. -/
def mappingCountsSpec : ChangeSpec := { name := "mappingCounts", fn := fun _ => fun
  | [d1, d2] => { results := [.lit (.bool true)], args := [d1, d2] }
  | _ => none }
def mappingCountsRow : OpenClaim := { program := "yteooabcgojadcaa", sum := "4bc09ac5b019e2bcc5197d9ea6037abd343c312c7475aa8d231e23f7ceda85f3", func := "commutator/commutatorlaw54.MappingCounts", spec := "mappingCounts", unfollowed := true, recurses := true, plainKeys := false, apart := false }
def MappingCountsSaid : Prop := mappingCountsRow.holds Try.pinned (OpenSpec.ofChange mappingCountsSpec)

/-- ITS FALSE NEIGHBOUR: 'it returns false'. Refute it at one input. -/
def mappingCountsWrong : ChangeSpec := { name := "mappingCounts", fn := fun _ => fun
  | [d1, d2] => { results := [.lit (.bool false)], args := [d1, d2] }
  | _ => none }
def MappingCountsWrongFalsely : Prop := mappingCountsRow.holds Try.pinned (OpenSpec.ofChange mappingCountsWrong)

/-- 'commutatorlaw54.MappingReads': WHATEVER THE INPUT: true; the input reads as it did. -/
def mappingReadsSpec : ChangeSpec := { name := "mappingReads", fn := fun _ => fun
  | [d1, d2] => { results := [.lit (.bool true)], args := [d1, d2] }
  | _ => none }
def mappingReadsRow : OpenClaim := { program := "yteooabcgojadcaa", sum := "4bc09ac5b019e2bcc5197d9ea6037abd343c312c7475aa8d231e23f7ceda85f3", func := "commutator/commutatorlaw54.MappingReads", spec := "mappingReads", unfollowed := true, recurses := true, plainKeys := false, apart := false }
def MappingReadsSaid : Prop := mappingReadsRow.holds Try.pinned (OpenSpec.ofChange mappingReadsSpec)

/-- ITS FALSE NEIGHBOUR: 'it returns false'. Refute it at one input. -/
def mappingReadsWrong : ChangeSpec := { name := "mappingReads", fn := fun _ => fun
  | [d1, d2] => { results := [.lit (.bool false)], args := [d1, d2] }
  | _ => none }
def MappingReadsWrongFalsely : Prop := mappingReadsRow.holds Try.pinned (OpenSpec.ofChange mappingReadsWrong)

/-- 'commutatorlaw54.MappingSpoiled': WHATEVER THE INPUT: true; the input reads as it did. -/
def mappingSpoiledSpec : ChangeSpec := { name := "mappingSpoiled", fn := fun _ => fun
  | [d1, d2, d3] => { results := [.lit (.bool true)], args := [d1, d2, d3] }
  | _ => none }
def mappingSpoiledRow : OpenClaim := { program := "yteooabcgojadcaa", sum := "4bc09ac5b019e2bcc5197d9ea6037abd343c312c7475aa8d231e23f7ceda85f3", func := "commutator/commutatorlaw54.MappingSpoiled", spec := "mappingSpoiled", unfollowed := true, recurses := true, plainKeys := false, apart := false }
def MappingSpoiledSaid : Prop := mappingSpoiledRow.holds Try.pinned (OpenSpec.ofChange mappingSpoiledSpec)

/-- ITS FALSE NEIGHBOUR: 'it returns false'. Refute it at one input. -/
def mappingSpoiledWrong : ChangeSpec := { name := "mappingSpoiled", fn := fun _ => fun
  | [d1, d2, d3] => { results := [.lit (.bool false)], args := [d1, d2, d3] }
  | _ => none }
def MappingSpoiledWrongFalsely : Prop := mappingSpoiledRow.holds Try.pinned (OpenSpec.ofChange mappingSpoiledWrong)

/-- 'commutatorlaw54.MappingFrames': WHATEVER THE INPUT: true; the input reads as it did. -/
def mappingFramesSpec : ChangeSpec := { name := "mappingFrames", fn := fun _ => fun
  | [d1, d2, d3] => { results := [.lit (.bool true)], args := [d1, d2, d3] }
  | _ => none }
def mappingFramesRow : OpenClaim := { program := "yteooabcgojadcaa", sum := "4bc09ac5b019e2bcc5197d9ea6037abd343c312c7475aa8d231e23f7ceda85f3", func := "commutator/commutatorlaw54.MappingFrames", spec := "mappingFrames", unfollowed := true, recurses := true, plainKeys := false, apart := false }
def MappingFramesSaid : Prop := mappingFramesRow.holds Try.pinned (OpenSpec.ofChange mappingFramesSpec)

/-- ITS FALSE NEIGHBOUR: 'it returns false'. Refute it at one input. -/
def mappingFramesWrong : ChangeSpec := { name := "mappingFrames", fn := fun _ => fun
  | [d1, d2, d3] => { results := [.lit (.bool false)], args := [d1, d2, d3] }
  | _ => none }
def MappingFramesWrongFalsely : Prop := mappingFramesRow.holds Try.pinned (OpenSpec.ofChange mappingFramesWrong)

/-- 'commutatorlaw54.MappingChecks': WHATEVER THE INPUT: true; the input reads as it did. -/
def mappingChecksSpec : ChangeSpec := { name := "mappingChecks", fn := fun _ => fun
  | [d1, d2, d3] => { results := [.lit (.bool true)], args := [d1, d2, d3] }
  | _ => none }
def mappingChecksRow : OpenClaim := { program := "yteooabcgojadcaa", sum := "4bc09ac5b019e2bcc5197d9ea6037abd343c312c7475aa8d231e23f7ceda85f3", func := "commutator/commutatorlaw54.MappingChecks", spec := "mappingChecks", unfollowed := true, recurses := true, plainKeys := false, apart := false }
def MappingChecksSaid : Prop := mappingChecksRow.holds Try.pinned (OpenSpec.ofChange mappingChecksSpec)

/-- ITS FALSE NEIGHBOUR: 'it returns false'. Refute it at one input. -/
def mappingChecksWrong : ChangeSpec := { name := "mappingChecks", fn := fun _ => fun
  | [d1, d2, d3] => { results := [.lit (.bool false)], args := [d1, d2, d3] }
  | _ => none }
def MappingChecksWrongFalsely : Prop := mappingChecksRow.holds Try.pinned (OpenSpec.ofChange mappingChecksWrong)

/-- 'commutatorlaw54.MappingUnpacks': WHATEVER THE INPUT: true; the input reads as it did. -/
def mappingUnpacksSpec : ChangeSpec := { name := "mappingUnpacks", fn := fun _ => fun
  | [d1, d2, d3] => { results := [.lit (.bool true)], args := [d1, d2, d3] }
  | _ => none }
def mappingUnpacksRow : OpenClaim := { program := "yteooabcgojadcaa", sum := "4bc09ac5b019e2bcc5197d9ea6037abd343c312c7475aa8d231e23f7ceda85f3", func := "commutator/commutatorlaw54.MappingUnpacks", spec := "mappingUnpacks", unfollowed := true, recurses := true, plainKeys := false, apart := false }
def MappingUnpacksSaid : Prop := mappingUnpacksRow.holds Try.pinned (OpenSpec.ofChange mappingUnpacksSpec)

/-- ITS FALSE NEIGHBOUR: 'it returns false'. Refute it at one input. -/
def mappingUnpacksWrong : ChangeSpec := { name := "mappingUnpacks", fn := fun _ => fun
  | [d1, d2, d3] => { results := [.lit (.bool false)], args := [d1, d2, d3] }
  | _ => none }
def MappingUnpacksWrongFalsely : Prop := mappingUnpacksRow.holds Try.pinned (OpenSpec.ofChange mappingUnpacksWrong)

/-- 'commutatorlaw54.MappingBack': WHATEVER THE INPUT: true; the input reads as it did. -/
def mappingBackSpec : ChangeSpec := { name := "mappingBack", fn := fun _ => fun
  | [d1, d2, d3] => { results := [.lit (.bool true)], args := [d1, d2, d3] }
  | _ => none }
def mappingBackRow : OpenClaim := { program := "yteooabcgojadcaa", sum := "4bc09ac5b019e2bcc5197d9ea6037abd343c312c7475aa8d231e23f7ceda85f3", func := "commutator/commutatorlaw54.MappingBack", spec := "mappingBack", unfollowed := true, recurses := true, plainKeys := false, apart := false }
def MappingBackSaid : Prop := mappingBackRow.holds Try.pinned (OpenSpec.ofChange mappingBackSpec)

/-- ITS FALSE NEIGHBOUR: 'it returns false'. Refute it at one input. -/
def mappingBackWrong : ChangeSpec := { name := "mappingBack", fn := fun _ => fun
  | [d1, d2, d3] => { results := [.lit (.bool false)], args := [d1, d2, d3] }
  | _ => none }
def MappingBackWrongFalsely : Prop := mappingBackRow.holds Try.pinned (OpenSpec.ofChange mappingBackWrong)

/- THE SECOND FORM. 'bulk': how many values and letters a reading holds, each counted each time it is reached (what is shared counts as often as it is met; a slice's spare places count too). A statement '..UptoSaid' is the law's where the arguments, and the package variables that the reading takes, are together of bulk at most 1048576: NARROWER than '..Said'. Prove '..Said' where nothing that the law and all that it calls make is longer than what came in: it says more and counts as full. Else prove '..UptoSaid'. A law counts once. -/
mutual
def uptoBulk {H : Type} : DataW H → Nat
  | .lit (.string bytes) => bytes.length + 1
  | .lit _ => 1
  | .nil => 1
  | .ptr d => uptoBulk d + 1
  | .slice elems spare => uptoBulkAll elems + uptoBulkAll spare + 1
  | .agg parts => uptoBulkAll parts + 1
  | .iface _ d => uptoBulk d + 1
  | .map entries => uptoBulkEntries entries + 1
  | .held _ => 1
def uptoBulkAll {H : Type} : List (DataW H) → Nat
  | [] => 0
  | d :: r => uptoBulk d + uptoBulkAll r
def uptoBulkEntries {H : Type} : List (Lit × DataW H) → Nat
  | [] => 0
  | x :: r => uptoBulkEntry x + uptoBulkEntries r
def uptoBulkEntry {H : Type} : Lit × DataW H → Nat
  | (.string bytes, d) => bytes.length + uptoBulk d + 1
  | (_, d) => uptoBulk d + 1
 end
def uptoSmall : (H : Type) → List (DataW H) → Bool := fun _ ds => decide (uptoBulkAll ds ≤ 1048576)
def OpenSpec.upto (s : _root_.Go.ChangeSpec) : _root_.Go.OpenSpec := { _root_.Go.OpenSpec.ofChange s with cond := some uptoSmall }

/-- 'commutatorlaw53.DictionaryChecks', WHERE WHAT IT READS IS OF BULK AT MOST 1048576: true; the input reads as it did. -/
def dictionaryChecksUptoRow : OpenClaim := { program := "yteooabcgojadcaa", sum := "4bc09ac5b019e2bcc5197d9ea6037abd343c312c7475aa8d231e23f7ceda85f3", func := "commutator/commutatorlaw53.DictionaryChecks", spec := "dictionaryChecks", plainKeys := false, apart := false, narrowed := true }
def DictionaryChecksUptoSaid : Prop := dictionaryChecksUptoRow.holds Try.pinned (OpenSpec.upto dictionaryChecksSpec)

/-- 'commutatorlaw53.DictionaryBytes', WHERE WHAT IT READS IS OF BULK AT MOST 1048576: true; the input reads as it did. -/
def dictionaryBytesUptoRow : OpenClaim := { program := "yteooabcgojadcaa", sum := "4bc09ac5b019e2bcc5197d9ea6037abd343c312c7475aa8d231e23f7ceda85f3", func := "commutator/commutatorlaw53.DictionaryBytes", spec := "dictionaryBytes", plainKeys := false, apart := false, narrowed := true }
def DictionaryBytesUptoSaid : Prop := dictionaryBytesUptoRow.holds Try.pinned (OpenSpec.upto dictionaryBytesSpec)

/-- 'commutatorlaw53.DictionaryBack', WHERE WHAT IT READS IS OF BULK AT MOST 1048576: true; the input reads as it did. -/
def dictionaryBackUptoRow : OpenClaim := { program := "yteooabcgojadcaa", sum := "4bc09ac5b019e2bcc5197d9ea6037abd343c312c7475aa8d231e23f7ceda85f3", func := "commutator/commutatorlaw53.DictionaryBack", spec := "dictionaryBack", plainKeys := false, apart := false, narrowed := true }
def DictionaryBackUptoSaid : Prop := dictionaryBackUptoRow.holds Try.pinned (OpenSpec.upto dictionaryBackSpec)

/-- 'commutatorlaw53.DictionaryLimits', WHERE WHAT IT READS IS OF BULK AT MOST 1048576: true; the input reads as it did. -/
def dictionaryLimitsUptoRow : OpenClaim := { program := "yteooabcgojadcaa", sum := "4bc09ac5b019e2bcc5197d9ea6037abd343c312c7475aa8d231e23f7ceda85f3", func := "commutator/commutatorlaw53.DictionaryLimits", spec := "dictionaryLimits", plainKeys := false, apart := false, narrowed := true }
def DictionaryLimitsUptoSaid : Prop := dictionaryLimitsUptoRow.holds Try.pinned (OpenSpec.upto dictionaryLimitsSpec)

/-- 'commutatorlaw53.DictionaryWrites', WHERE WHAT IT READS IS OF BULK AT MOST 1048576: true; the input reads as it did. -/
def dictionaryWritesUptoRow : OpenClaim := { program := "yteooabcgojadcaa", sum := "4bc09ac5b019e2bcc5197d9ea6037abd343c312c7475aa8d231e23f7ceda85f3", func := "commutator/commutatorlaw53.DictionaryWrites", spec := "dictionaryWrites", plainKeys := false, apart := false, narrowed := true }
def DictionaryWritesUptoSaid : Prop := dictionaryWritesUptoRow.holds Try.pinned (OpenSpec.upto dictionaryWritesSpec)

/-- 'commutatorlaw53.DictionaryPlays', WHERE WHAT IT READS IS OF BULK AT MOST 1048576: true; the input reads as it did. -/
def dictionaryPlaysUptoRow : OpenClaim := { program := "yteooabcgojadcaa", sum := "4bc09ac5b019e2bcc5197d9ea6037abd343c312c7475aa8d231e23f7ceda85f3", func := "commutator/commutatorlaw53.DictionaryPlays", spec := "dictionaryPlays", plainKeys := false, apart := false, narrowed := true }
def DictionaryPlaysUptoSaid : Prop := dictionaryPlaysUptoRow.holds Try.pinned (OpenSpec.upto dictionaryPlaysSpec)

/-- 'commutatorlaw53.DictionaryApart', WHERE WHAT IT READS IS OF BULK AT MOST 1048576: true; the input reads as it did. -/
def dictionaryApartUptoRow : OpenClaim := { program := "yteooabcgojadcaa", sum := "4bc09ac5b019e2bcc5197d9ea6037abd343c312c7475aa8d231e23f7ceda85f3", func := "commutator/commutatorlaw53.DictionaryApart", spec := "dictionaryApart", plainKeys := false, apart := false, narrowed := true }
def DictionaryApartUptoSaid : Prop := dictionaryApartUptoRow.holds Try.pinned (OpenSpec.upto dictionaryApartSpec)

/-- 'commutatorlaw54.MappingPacks', WHERE WHAT IT READS IS OF BULK AT MOST 1048576: true; the input reads as it did. -/
def mappingPacksUptoRow : OpenClaim := { program := "yteooabcgojadcaa", sum := "4bc09ac5b019e2bcc5197d9ea6037abd343c312c7475aa8d231e23f7ceda85f3", func := "commutator/commutatorlaw54.MappingPacks", spec := "mappingPacks", unfollowed := true, recurses := true, plainKeys := false, apart := false, narrowed := true }
def MappingPacksUptoSaid : Prop := mappingPacksUptoRow.holds Try.pinned (OpenSpec.upto mappingPacksSpec)

/-- 'commutatorlaw54.MappingCounts', WHERE WHAT IT READS IS OF BULK AT MOST 1048576: true; the input reads as it did. -/
def mappingCountsUptoRow : OpenClaim := { program := "yteooabcgojadcaa", sum := "4bc09ac5b019e2bcc5197d9ea6037abd343c312c7475aa8d231e23f7ceda85f3", func := "commutator/commutatorlaw54.MappingCounts", spec := "mappingCounts", unfollowed := true, recurses := true, plainKeys := false, apart := false, narrowed := true }
def MappingCountsUptoSaid : Prop := mappingCountsUptoRow.holds Try.pinned (OpenSpec.upto mappingCountsSpec)

/-- 'commutatorlaw54.MappingReads', WHERE WHAT IT READS IS OF BULK AT MOST 1048576: true; the input reads as it did. -/
def mappingReadsUptoRow : OpenClaim := { program := "yteooabcgojadcaa", sum := "4bc09ac5b019e2bcc5197d9ea6037abd343c312c7475aa8d231e23f7ceda85f3", func := "commutator/commutatorlaw54.MappingReads", spec := "mappingReads", unfollowed := true, recurses := true, plainKeys := false, apart := false, narrowed := true }
def MappingReadsUptoSaid : Prop := mappingReadsUptoRow.holds Try.pinned (OpenSpec.upto mappingReadsSpec)

/-- 'commutatorlaw54.MappingSpoiled', WHERE WHAT IT READS IS OF BULK AT MOST 1048576: true; the input reads as it did. -/
def mappingSpoiledUptoRow : OpenClaim := { program := "yteooabcgojadcaa", sum := "4bc09ac5b019e2bcc5197d9ea6037abd343c312c7475aa8d231e23f7ceda85f3", func := "commutator/commutatorlaw54.MappingSpoiled", spec := "mappingSpoiled", unfollowed := true, recurses := true, plainKeys := false, apart := false, narrowed := true }
def MappingSpoiledUptoSaid : Prop := mappingSpoiledUptoRow.holds Try.pinned (OpenSpec.upto mappingSpoiledSpec)

/-- 'commutatorlaw54.MappingFrames', WHERE WHAT IT READS IS OF BULK AT MOST 1048576: true; the input reads as it did. -/
def mappingFramesUptoRow : OpenClaim := { program := "yteooabcgojadcaa", sum := "4bc09ac5b019e2bcc5197d9ea6037abd343c312c7475aa8d231e23f7ceda85f3", func := "commutator/commutatorlaw54.MappingFrames", spec := "mappingFrames", unfollowed := true, recurses := true, plainKeys := false, apart := false, narrowed := true }
def MappingFramesUptoSaid : Prop := mappingFramesUptoRow.holds Try.pinned (OpenSpec.upto mappingFramesSpec)

/-- 'commutatorlaw54.MappingChecks', WHERE WHAT IT READS IS OF BULK AT MOST 1048576: true; the input reads as it did. -/
def mappingChecksUptoRow : OpenClaim := { program := "yteooabcgojadcaa", sum := "4bc09ac5b019e2bcc5197d9ea6037abd343c312c7475aa8d231e23f7ceda85f3", func := "commutator/commutatorlaw54.MappingChecks", spec := "mappingChecks", unfollowed := true, recurses := true, plainKeys := false, apart := false, narrowed := true }
def MappingChecksUptoSaid : Prop := mappingChecksUptoRow.holds Try.pinned (OpenSpec.upto mappingChecksSpec)

/-- 'commutatorlaw54.MappingUnpacks', WHERE WHAT IT READS IS OF BULK AT MOST 1048576: true; the input reads as it did. -/
def mappingUnpacksUptoRow : OpenClaim := { program := "yteooabcgojadcaa", sum := "4bc09ac5b019e2bcc5197d9ea6037abd343c312c7475aa8d231e23f7ceda85f3", func := "commutator/commutatorlaw54.MappingUnpacks", spec := "mappingUnpacks", unfollowed := true, recurses := true, plainKeys := false, apart := false, narrowed := true }
def MappingUnpacksUptoSaid : Prop := mappingUnpacksUptoRow.holds Try.pinned (OpenSpec.upto mappingUnpacksSpec)

/-- 'commutatorlaw54.MappingBack', WHERE WHAT IT READS IS OF BULK AT MOST 1048576: true; the input reads as it did. -/
def mappingBackUptoRow : OpenClaim := { program := "yteooabcgojadcaa", sum := "4bc09ac5b019e2bcc5197d9ea6037abd343c312c7475aa8d231e23f7ceda85f3", func := "commutator/commutatorlaw54.MappingBack", spec := "mappingBack", unfollowed := true, recurses := true, plainKeys := false, apart := false, narrowed := true }
def MappingBackUptoSaid : Prop := mappingBackUptoRow.holds Try.pinned (OpenSpec.upto mappingBackSpec)

end Rows
end Go.Proofs.Yteooabcgojadcaa
