/-
  No cell of these rows narrows 'for every input' (looked for: loops, veiled, ifaces, maps, wideKeys, modest, calm, conditions, laid).
  DERIVED. THE GIVEN ROWS OF THIS SEAT. 15 by the template 'for every input the law returns true; each argument reads behind the call as it read before'; 0 by the template 'total and deterministic' (their statements: YtcfhnjdaijdoiaaTotals.lean).
  GIVEN WITH THE SEED: the statements are not yours to turn. If you find one false, say at which input.
  Laid BY PROGRAM, IN A SANDBOX (cutbox-rows.mjs): the forced cells as the released guide's own fill.sh prints them over the translation 4c8a56eba1c4d1e3… (all of the seat's roots in one cut). By AI agents, Wed Nov 11 2026. No macro, syntax, notation, axiom, sorry.
-/
import Derived.Test.YtcfhnjdaijdoiaaChecked
import GoSem.Claim
import GoSem.ClaimJoined
import GoSem.ClaimMapViews
import Derived.JoinedTies
import Derived.KernelRfl
namespace Go.Proofs.Ytcfhnjdaijdoiaa
/- THE CELL 'sum', in the pinned program and in every row, IS THE sha256 OF THE DUMP (.gsa) THAT YtcfhnjdaijdoiaaProg.lean LOADS. Nothing in Lean hashes anything: it is a label: what it is worth is what the hold of that sum in a sandbox is worth. -/
noncomputable def Try.pinned : Pinned := { name := "ytcfhnjdaijdoiaa", sum := "4c8a56eba1c4d1e302a7b5db86f672579d09f2468b27364f9b021ca641d58ec4", checked := Try.checked }
namespace Rows
def none {H : Type} : Left H := { results := [], args := [] }

/-- 'commutatorlaw42.TasksShorter': WHATEVER THE INPUT: true; the input reads as it did. -/
def tasksShorterSpec : ChangeSpec := { name := "tasksShorter", fn := fun _ => fun
  | [d1, d2] => { results := [.lit (.bool true)], args := [d1, d2] }
  | _ => none }
def tasksShorterRow : OpenClaim := { program := "ytcfhnjdaijdoiaa", sum := "4c8a56eba1c4d1e302a7b5db86f672579d09f2468b27364f9b021ca641d58ec4", func := "commutator/commutatorlaw42.TasksShorter", spec := "tasksShorter", apart := false }
def TasksShorterSaid : Prop := tasksShorterRow.holds Try.pinned (OpenSpec.ofChange tasksShorterSpec)

/-- ITS FALSE NEIGHBOUR: 'it returns false'. Refute it at one input. -/
def tasksShorterWrong : ChangeSpec := { name := "tasksShorter", fn := fun _ => fun
  | [d1, d2] => { results := [.lit (.bool false)], args := [d1, d2] }
  | _ => none }
def TasksShorterWrongFalsely : Prop := tasksShorterRow.holds Try.pinned (OpenSpec.ofChange tasksShorterWrong)

/-- 'commutatorlaw42.TasksWork': WHATEVER THE INPUT: true; the input reads as it did. -/
def tasksWorkSpec : ChangeSpec := { name := "tasksWork", fn := fun _ => fun
  | [d1, d2] => { results := [.lit (.bool true)], args := [d1, d2] }
  | _ => none }
def tasksWorkRow : OpenClaim := { program := "ytcfhnjdaijdoiaa", sum := "4c8a56eba1c4d1e302a7b5db86f672579d09f2468b27364f9b021ca641d58ec4", func := "commutator/commutatorlaw42.TasksWork", spec := "tasksWork", apart := false }
def TasksWorkSaid : Prop := tasksWorkRow.holds Try.pinned (OpenSpec.ofChange tasksWorkSpec)

/-- ITS FALSE NEIGHBOUR: 'it returns false'. Refute it at one input. -/
def tasksWorkWrong : ChangeSpec := { name := "tasksWork", fn := fun _ => fun
  | [d1, d2] => { results := [.lit (.bool false)], args := [d1, d2] }
  | _ => none }
def TasksWorkWrongFalsely : Prop := tasksWorkRow.holds Try.pinned (OpenSpec.ofChange tasksWorkWrong)

/-- 'commutatorlaw42.TasksUrgent': WHATEVER THE INPUT: true; the input reads as it did. -/
def tasksUrgentSpec : ChangeSpec := { name := "tasksUrgent", fn := fun _ => fun
  | [d1, d2] => { results := [.lit (.bool true)], args := [d1, d2] }
  | _ => none }
def tasksUrgentRow : OpenClaim := { program := "ytcfhnjdaijdoiaa", sum := "4c8a56eba1c4d1e302a7b5db86f672579d09f2468b27364f9b021ca641d58ec4", func := "commutator/commutatorlaw42.TasksUrgent", spec := "tasksUrgent", apart := false }
def TasksUrgentSaid : Prop := tasksUrgentRow.holds Try.pinned (OpenSpec.ofChange tasksUrgentSpec)

/-- ITS FALSE NEIGHBOUR: 'it returns false'. Refute it at one input. -/
def tasksUrgentWrong : ChangeSpec := { name := "tasksUrgent", fn := fun _ => fun
  | [d1, d2] => { results := [.lit (.bool false)], args := [d1, d2] }
  | _ => none }
def TasksUrgentWrongFalsely : Prop := tasksUrgentRow.holds Try.pinned (OpenSpec.ofChange tasksUrgentWrong)

/-- 'commutatorlaw42.TasksRun': WHATEVER THE INPUT: true; the input reads as it did. -/
def tasksRunSpec : ChangeSpec := { name := "tasksRun", fn := fun _ => fun
  | [d1, d2] => { results := [.lit (.bool true)], args := [d1, d2] }
  | _ => none }
def tasksRunRow : OpenClaim := { program := "ytcfhnjdaijdoiaa", sum := "4c8a56eba1c4d1e302a7b5db86f672579d09f2468b27364f9b021ca641d58ec4", func := "commutator/commutatorlaw42.TasksRun", spec := "tasksRun", apart := false }
def TasksRunSaid : Prop := tasksRunRow.holds Try.pinned (OpenSpec.ofChange tasksRunSpec)

/-- ITS FALSE NEIGHBOUR: 'it returns false'. Refute it at one input. -/
def tasksRunWrong : ChangeSpec := { name := "tasksRun", fn := fun _ => fun
  | [d1, d2] => { results := [.lit (.bool false)], args := [d1, d2] }
  | _ => none }
def TasksRunWrongFalsely : Prop := tasksRunRow.holds Try.pinned (OpenSpec.ofChange tasksRunWrong)

/-- 'commutatorlaw42.TasksReleases': WHATEVER THE INPUT: true; the input reads as it did. -/
def tasksReleasesSpec : ChangeSpec := { name := "tasksReleases", fn := fun _ => fun
  | [d1, d2] => { results := [.lit (.bool true)], args := [d1, d2] }
  | _ => none }
def tasksReleasesRow : OpenClaim := { program := "ytcfhnjdaijdoiaa", sum := "4c8a56eba1c4d1e302a7b5db86f672579d09f2468b27364f9b021ca641d58ec4", func := "commutator/commutatorlaw42.TasksReleases", spec := "tasksReleases", apart := false }
def TasksReleasesSaid : Prop := tasksReleasesRow.holds Try.pinned (OpenSpec.ofChange tasksReleasesSpec)

/-- ITS FALSE NEIGHBOUR: 'it returns false'. Refute it at one input. -/
def tasksReleasesWrong : ChangeSpec := { name := "tasksReleases", fn := fun _ => fun
  | [d1, d2] => { results := [.lit (.bool false)], args := [d1, d2] }
  | _ => none }
def TasksReleasesWrongFalsely : Prop := tasksReleasesRow.holds Try.pinned (OpenSpec.ofChange tasksReleasesWrong)

/-- 'commutatorlaw42.TasksRepeat': WHATEVER THE INPUT: true; the input reads as it did. -/
def tasksRepeatSpec : ChangeSpec := { name := "tasksRepeat", fn := fun _ => fun
  | [d] => { results := [.lit (.bool true)], args := [d] }
  | _ => none }
def tasksRepeatRow : OpenClaim := { program := "ytcfhnjdaijdoiaa", sum := "4c8a56eba1c4d1e302a7b5db86f672579d09f2468b27364f9b021ca641d58ec4", func := "commutator/commutatorlaw42.TasksRepeat", spec := "tasksRepeat", apart := false }
def TasksRepeatSaid : Prop := tasksRepeatRow.holds Try.pinned (OpenSpec.ofChange tasksRepeatSpec)

/-- ITS FALSE NEIGHBOUR: 'it returns false'. Refute it at one input. -/
def tasksRepeatWrong : ChangeSpec := { name := "tasksRepeat", fn := fun _ => fun
  | [d] => { results := [.lit (.bool false)], args := [d] }
  | _ => none }
def TasksRepeatWrongFalsely : Prop := tasksRepeatRow.holds Try.pinned (OpenSpec.ofChange tasksRepeatWrong)

/-- 'commutatorlaw42.TasksCheck': WHATEVER THE INPUT: true; the input reads as it did. -/
def tasksCheckSpec : ChangeSpec := { name := "tasksCheck", fn := fun _ => fun
  | [d] => { results := [.lit (.bool true)], args := [d] }
  | _ => none }
def tasksCheckRow : OpenClaim := { program := "ytcfhnjdaijdoiaa", sum := "4c8a56eba1c4d1e302a7b5db86f672579d09f2468b27364f9b021ca641d58ec4", func := "commutator/commutatorlaw42.TasksCheck", spec := "tasksCheck", apart := false }
def TasksCheckSaid : Prop := tasksCheckRow.holds Try.pinned (OpenSpec.ofChange tasksCheckSpec)

/-- ITS FALSE NEIGHBOUR: 'it returns false'. Refute it at one input. -/
def tasksCheckWrong : ChangeSpec := { name := "tasksCheck", fn := fun _ => fun
  | [d] => { results := [.lit (.bool false)], args := [d] }
  | _ => none }
def TasksCheckWrongFalsely : Prop := tasksCheckRow.holds Try.pinned (OpenSpec.ofChange tasksCheckWrong)

/-- 'commutatorlaw43.ResponseSlack': WHATEVER THE INPUT: true; the input reads as it did. -/
def responseSlackSpec : ChangeSpec := { name := "responseSlack", fn := fun _ => fun
  | [d1, d2] => { results := [.lit (.bool true)], args := [d1, d2] }
  | _ => none }
def responseSlackRow : OpenClaim := { program := "ytcfhnjdaijdoiaa", sum := "4c8a56eba1c4d1e302a7b5db86f672579d09f2468b27364f9b021ca641d58ec4", func := "commutator/commutatorlaw43.ResponseSlack", spec := "responseSlack", apart := false }
def ResponseSlackSaid : Prop := responseSlackRow.holds Try.pinned (OpenSpec.ofChange responseSlackSpec)

/-- ITS FALSE NEIGHBOUR: 'it returns false'. Refute it at one input. -/
def responseSlackWrong : ChangeSpec := { name := "responseSlack", fn := fun _ => fun
  | [d1, d2] => { results := [.lit (.bool false)], args := [d1, d2] }
  | _ => none }
def ResponseSlackWrongFalsely : Prop := responseSlackRow.holds Try.pinned (OpenSpec.ofChange responseSlackWrong)

/-- 'commutatorlaw43.ResponseAssign': WHATEVER THE INPUT: true; the input reads as it did. -/
def responseAssignSpec : ChangeSpec := { name := "responseAssign", fn := fun _ => fun
  | [d] => { results := [.lit (.bool true)], args := [d] }
  | _ => none }
def responseAssignRow : OpenClaim := { program := "ytcfhnjdaijdoiaa", sum := "4c8a56eba1c4d1e302a7b5db86f672579d09f2468b27364f9b021ca641d58ec4", func := "commutator/commutatorlaw43.ResponseAssign", spec := "responseAssign", apart := false }
def ResponseAssignSaid : Prop := responseAssignRow.holds Try.pinned (OpenSpec.ofChange responseAssignSpec)

/-- ITS FALSE NEIGHBOUR: 'it returns false'. Refute it at one input. -/
def responseAssignWrong : ChangeSpec := { name := "responseAssign", fn := fun _ => fun
  | [d] => { results := [.lit (.bool false)], args := [d] }
  | _ => none }
def ResponseAssignWrongFalsely : Prop := responseAssignRow.holds Try.pinned (OpenSpec.ofChange responseAssignWrong)

/-- 'commutatorlaw43.ResponseOptimal': WHATEVER THE INPUT: true; the input reads as it did. -/
def responseOptimalSpec : ChangeSpec := { name := "responseOptimal", fn := fun _ => fun
  | [d1, d2] => { results := [.lit (.bool true)], args := [d1, d2] }
  | _ => none }
def responseOptimalRow : OpenClaim := { program := "ytcfhnjdaijdoiaa", sum := "4c8a56eba1c4d1e302a7b5db86f672579d09f2468b27364f9b021ca641d58ec4", func := "commutator/commutatorlaw43.ResponseOptimal", spec := "responseOptimal", apart := false }
def ResponseOptimalSaid : Prop := responseOptimalRow.holds Try.pinned (OpenSpec.ofChange responseOptimalSpec)

/-- ITS FALSE NEIGHBOUR: 'it returns false'. Refute it at one input. -/
def responseOptimalWrong : ChangeSpec := { name := "responseOptimal", fn := fun _ => fun
  | [d1, d2] => { results := [.lit (.bool false)], args := [d1, d2] }
  | _ => none }
def ResponseOptimalWrongFalsely : Prop := responseOptimalRow.holds Try.pinned (OpenSpec.ofChange responseOptimalWrong)

/-- 'commutatorlaw43.ResponseBounds': WHATEVER THE INPUT: true; the input reads as it did. -/
def responseBoundsSpec : ChangeSpec := { name := "responseBounds", fn := fun _ => fun
  | [d1, d2] => { results := [.lit (.bool true)], args := [d1, d2] }
  | _ => none }
def responseBoundsRow : OpenClaim := { program := "ytcfhnjdaijdoiaa", sum := "4c8a56eba1c4d1e302a7b5db86f672579d09f2468b27364f9b021ca641d58ec4", func := "commutator/commutatorlaw43.ResponseBounds", spec := "responseBounds", apart := false }
def ResponseBoundsSaid : Prop := responseBoundsRow.holds Try.pinned (OpenSpec.ofChange responseBoundsSpec)

/-- ITS FALSE NEIGHBOUR: 'it returns false'. Refute it at one input. -/
def responseBoundsWrong : ChangeSpec := { name := "responseBounds", fn := fun _ => fun
  | [d1, d2] => { results := [.lit (.bool false)], args := [d1, d2] }
  | _ => none }
def ResponseBoundsWrongFalsely : Prop := responseBoundsRow.holds Try.pinned (OpenSpec.ofChange responseBoundsWrong)

/-- 'commutatorlaw43.ResponseAttained': WHATEVER THE INPUT: true; the input reads as it did. -/
def responseAttainedSpec : ChangeSpec := { name := "responseAttained", fn := fun _ => fun
  | [d] => { results := [.lit (.bool true)], args := [d] }
  | _ => none }
def responseAttainedRow : OpenClaim := { program := "ytcfhnjdaijdoiaa", sum := "4c8a56eba1c4d1e302a7b5db86f672579d09f2468b27364f9b021ca641d58ec4", func := "commutator/commutatorlaw43.ResponseAttained", spec := "responseAttained", apart := false }
def ResponseAttainedSaid : Prop := responseAttainedRow.holds Try.pinned (OpenSpec.ofChange responseAttainedSpec)

/-- ITS FALSE NEIGHBOUR: 'it returns false'. Refute it at one input. -/
def responseAttainedWrong : ChangeSpec := { name := "responseAttained", fn := fun _ => fun
  | [d] => { results := [.lit (.bool false)], args := [d] }
  | _ => none }
def ResponseAttainedWrongFalsely : Prop := responseAttainedRow.holds Try.pinned (OpenSpec.ofChange responseAttainedWrong)

/-- 'commutatorlaw43.ResponseBusy': WHATEVER THE INPUT: true; the input reads as it did. -/
def responseBusySpec : ChangeSpec := { name := "responseBusy", fn := fun _ => fun
  | [d1, d2] => { results := [.lit (.bool true)], args := [d1, d2] }
  | _ => none }
def responseBusyRow : OpenClaim := { program := "ytcfhnjdaijdoiaa", sum := "4c8a56eba1c4d1e302a7b5db86f672579d09f2468b27364f9b021ca641d58ec4", func := "commutator/commutatorlaw43.ResponseBusy", spec := "responseBusy", apart := false }
def ResponseBusySaid : Prop := responseBusyRow.holds Try.pinned (OpenSpec.ofChange responseBusySpec)

/-- ITS FALSE NEIGHBOUR: 'it returns false'. Refute it at one input. -/
def responseBusyWrong : ChangeSpec := { name := "responseBusy", fn := fun _ => fun
  | [d1, d2] => { results := [.lit (.bool false)], args := [d1, d2] }
  | _ => none }
def ResponseBusyWrongFalsely : Prop := responseBusyRow.holds Try.pinned (OpenSpec.ofChange responseBusyWrong)

/-- 'commutatorlaw43.ResponseWorst': WHATEVER THE INPUT: true; the input reads as it did. -/
def responseWorstSpec : ChangeSpec := { name := "responseWorst", fn := fun _ => fun
  | [d] => { results := [.lit (.bool true)], args := [d] }
  | _ => none }
def responseWorstRow : OpenClaim := { program := "ytcfhnjdaijdoiaa", sum := "4c8a56eba1c4d1e302a7b5db86f672579d09f2468b27364f9b021ca641d58ec4", func := "commutator/commutatorlaw43.ResponseWorst", spec := "responseWorst", apart := false }
def ResponseWorstSaid : Prop := responseWorstRow.holds Try.pinned (OpenSpec.ofChange responseWorstSpec)

/-- ITS FALSE NEIGHBOUR: 'it returns false'. Refute it at one input. -/
def responseWorstWrong : ChangeSpec := { name := "responseWorst", fn := fun _ => fun
  | [d] => { results := [.lit (.bool false)], args := [d] }
  | _ => none }
def ResponseWorstWrongFalsely : Prop := responseWorstRow.holds Try.pinned (OpenSpec.ofChange responseWorstWrong)

/-- 'commutatorlaw43.ResponseRests': WHATEVER THE INPUT: true; the input reads as it did. -/
def responseRestsSpec : ChangeSpec := { name := "responseRests", fn := fun _ => fun
  | [d1, d2] => { results := [.lit (.bool true)], args := [d1, d2] }
  | _ => none }
def responseRestsRow : OpenClaim := { program := "ytcfhnjdaijdoiaa", sum := "4c8a56eba1c4d1e302a7b5db86f672579d09f2468b27364f9b021ca641d58ec4", func := "commutator/commutatorlaw43.ResponseRests", spec := "responseRests", apart := false }
def ResponseRestsSaid : Prop := responseRestsRow.holds Try.pinned (OpenSpec.ofChange responseRestsSpec)

/-- ITS FALSE NEIGHBOUR: 'it returns false'. Refute it at one input. -/
def responseRestsWrong : ChangeSpec := { name := "responseRests", fn := fun _ => fun
  | [d1, d2] => { results := [.lit (.bool false)], args := [d1, d2] }
  | _ => none }
def ResponseRestsWrongFalsely : Prop := responseRestsRow.holds Try.pinned (OpenSpec.ofChange responseRestsWrong)

/- THE SECOND FORM. 'bulk': how many values and letters a reading holds, each counted each time it is reached (what is shared counts as often as it is met; a slice's spare places count too). A statement '..UptoSaid' is the law's where the arguments, and the package variables that the reading takes, are together of bulk at most 1048576: NARROWER than '..Said'. Prove '..Said' where nothing that the law and all that it calls make is longer than what came in: it says more and counts as full. Else prove '..UptoSaid'. A law counts once. -/
mutual
def uptoBulk {H : Type} : DataW H → Nat
  | .lit (.string bytes) => bytes.length + 1
  | .lit _ => 1
  | .nil => 1
  | .ptr d => uptoBulk d + 1
  | .slice elems spare => uptoBulkAll elems + uptoBulkAll spare + 1
  | .agg parts => uptoBulkAll parts + 1
  | .iface _ d => uptoBulk d + 1
  | .map entries => uptoBulkEntries entries + 1
  | .held _ => 1
def uptoBulkAll {H : Type} : List (DataW H) → Nat
  | [] => 0
  | d :: r => uptoBulk d + uptoBulkAll r
def uptoBulkEntries {H : Type} : List (Lit × DataW H) → Nat
  | [] => 0
  | x :: r => uptoBulkEntry x + uptoBulkEntries r
def uptoBulkEntry {H : Type} : Lit × DataW H → Nat
  | (.string bytes, d) => bytes.length + uptoBulk d + 1
  | (_, d) => uptoBulk d + 1
 end
def uptoSmall : (H : Type) → List (DataW H) → Bool := fun _ ds => decide (uptoBulkAll ds ≤ 1048576)
def OpenSpec.upto (s : _root_.Go.ChangeSpec) : _root_.Go.OpenSpec := { _root_.Go.OpenSpec.ofChange s with cond := some uptoSmall }

/-- 'commutatorlaw42.TasksShorter', WHERE WHAT IT READS IS OF BULK AT MOST 1048576: true; the input reads as it did. -/
def tasksShorterUptoRow : OpenClaim := { program := "ytcfhnjdaijdoiaa", sum := "4c8a56eba1c4d1e302a7b5db86f672579d09f2468b27364f9b021ca641d58ec4", func := "commutator/commutatorlaw42.TasksShorter", spec := "tasksShorter", apart := false, narrowed := true }
def TasksShorterUptoSaid : Prop := tasksShorterUptoRow.holds Try.pinned (OpenSpec.upto tasksShorterSpec)

/-- 'commutatorlaw42.TasksWork', WHERE WHAT IT READS IS OF BULK AT MOST 1048576: true; the input reads as it did. -/
def tasksWorkUptoRow : OpenClaim := { program := "ytcfhnjdaijdoiaa", sum := "4c8a56eba1c4d1e302a7b5db86f672579d09f2468b27364f9b021ca641d58ec4", func := "commutator/commutatorlaw42.TasksWork", spec := "tasksWork", apart := false, narrowed := true }
def TasksWorkUptoSaid : Prop := tasksWorkUptoRow.holds Try.pinned (OpenSpec.upto tasksWorkSpec)

/-- 'commutatorlaw42.TasksUrgent', WHERE WHAT IT READS IS OF BULK AT MOST 1048576: true; the input reads as it did. -/
def tasksUrgentUptoRow : OpenClaim := { program := "ytcfhnjdaijdoiaa", sum := "4c8a56eba1c4d1e302a7b5db86f672579d09f2468b27364f9b021ca641d58ec4", func := "commutator/commutatorlaw42.TasksUrgent", spec := "tasksUrgent", apart := false, narrowed := true }
def TasksUrgentUptoSaid : Prop := tasksUrgentUptoRow.holds Try.pinned (OpenSpec.upto tasksUrgentSpec)

/-- 'commutatorlaw42.TasksRun', WHERE WHAT IT READS IS OF BULK AT MOST 1048576: true; the input reads as it did. -/
def tasksRunUptoRow : OpenClaim := { program := "ytcfhnjdaijdoiaa", sum := "4c8a56eba1c4d1e302a7b5db86f672579d09f2468b27364f9b021ca641d58ec4", func := "commutator/commutatorlaw42.TasksRun", spec := "tasksRun", apart := false, narrowed := true }
def TasksRunUptoSaid : Prop := tasksRunUptoRow.holds Try.pinned (OpenSpec.upto tasksRunSpec)

/-- 'commutatorlaw42.TasksReleases', WHERE WHAT IT READS IS OF BULK AT MOST 1048576: true; the input reads as it did. -/
def tasksReleasesUptoRow : OpenClaim := { program := "ytcfhnjdaijdoiaa", sum := "4c8a56eba1c4d1e302a7b5db86f672579d09f2468b27364f9b021ca641d58ec4", func := "commutator/commutatorlaw42.TasksReleases", spec := "tasksReleases", apart := false, narrowed := true }
def TasksReleasesUptoSaid : Prop := tasksReleasesUptoRow.holds Try.pinned (OpenSpec.upto tasksReleasesSpec)

/-- 'commutatorlaw42.TasksRepeat', WHERE WHAT IT READS IS OF BULK AT MOST 1048576: true; the input reads as it did. -/
def tasksRepeatUptoRow : OpenClaim := { program := "ytcfhnjdaijdoiaa", sum := "4c8a56eba1c4d1e302a7b5db86f672579d09f2468b27364f9b021ca641d58ec4", func := "commutator/commutatorlaw42.TasksRepeat", spec := "tasksRepeat", apart := false, narrowed := true }
def TasksRepeatUptoSaid : Prop := tasksRepeatUptoRow.holds Try.pinned (OpenSpec.upto tasksRepeatSpec)

/-- 'commutatorlaw42.TasksCheck', WHERE WHAT IT READS IS OF BULK AT MOST 1048576: true; the input reads as it did. -/
def tasksCheckUptoRow : OpenClaim := { program := "ytcfhnjdaijdoiaa", sum := "4c8a56eba1c4d1e302a7b5db86f672579d09f2468b27364f9b021ca641d58ec4", func := "commutator/commutatorlaw42.TasksCheck", spec := "tasksCheck", apart := false, narrowed := true }
def TasksCheckUptoSaid : Prop := tasksCheckUptoRow.holds Try.pinned (OpenSpec.upto tasksCheckSpec)

/-- 'commutatorlaw43.ResponseSlack', WHERE WHAT IT READS IS OF BULK AT MOST 1048576: true; the input reads as it did. -/
def responseSlackUptoRow : OpenClaim := { program := "ytcfhnjdaijdoiaa", sum := "4c8a56eba1c4d1e302a7b5db86f672579d09f2468b27364f9b021ca641d58ec4", func := "commutator/commutatorlaw43.ResponseSlack", spec := "responseSlack", apart := false, narrowed := true }
def ResponseSlackUptoSaid : Prop := responseSlackUptoRow.holds Try.pinned (OpenSpec.upto responseSlackSpec)

/-- 'commutatorlaw43.ResponseAssign', WHERE WHAT IT READS IS OF BULK AT MOST 1048576: true; the input reads as it did. -/
def responseAssignUptoRow : OpenClaim := { program := "ytcfhnjdaijdoiaa", sum := "4c8a56eba1c4d1e302a7b5db86f672579d09f2468b27364f9b021ca641d58ec4", func := "commutator/commutatorlaw43.ResponseAssign", spec := "responseAssign", apart := false, narrowed := true }
def ResponseAssignUptoSaid : Prop := responseAssignUptoRow.holds Try.pinned (OpenSpec.upto responseAssignSpec)

/-- 'commutatorlaw43.ResponseOptimal', WHERE WHAT IT READS IS OF BULK AT MOST 1048576: true; the input reads as it did. -/
def responseOptimalUptoRow : OpenClaim := { program := "ytcfhnjdaijdoiaa", sum := "4c8a56eba1c4d1e302a7b5db86f672579d09f2468b27364f9b021ca641d58ec4", func := "commutator/commutatorlaw43.ResponseOptimal", spec := "responseOptimal", apart := false, narrowed := true }
def ResponseOptimalUptoSaid : Prop := responseOptimalUptoRow.holds Try.pinned (OpenSpec.upto responseOptimalSpec)

/-- 'commutatorlaw43.ResponseBounds', WHERE WHAT IT READS IS OF BULK AT MOST 1048576: true; the input reads as it did. -/
def responseBoundsUptoRow : OpenClaim := { program := "ytcfhnjdaijdoiaa", sum := "4c8a56eba1c4d1e302a7b5db86f672579d09f2468b27364f9b021ca641d58ec4", func := "commutator/commutatorlaw43.ResponseBounds", spec := "responseBounds", apart := false, narrowed := true }
def ResponseBoundsUptoSaid : Prop := responseBoundsUptoRow.holds Try.pinned (OpenSpec.upto responseBoundsSpec)

/-- 'commutatorlaw43.ResponseAttained', WHERE WHAT IT READS IS OF BULK AT MOST 1048576: true; the input reads as it did. -/
def responseAttainedUptoRow : OpenClaim := { program := "ytcfhnjdaijdoiaa", sum := "4c8a56eba1c4d1e302a7b5db86f672579d09f2468b27364f9b021ca641d58ec4", func := "commutator/commutatorlaw43.ResponseAttained", spec := "responseAttained", apart := false, narrowed := true }
def ResponseAttainedUptoSaid : Prop := responseAttainedUptoRow.holds Try.pinned (OpenSpec.upto responseAttainedSpec)

/-- 'commutatorlaw43.ResponseBusy', WHERE WHAT IT READS IS OF BULK AT MOST 1048576: true; the input reads as it did. -/
def responseBusyUptoRow : OpenClaim := { program := "ytcfhnjdaijdoiaa", sum := "4c8a56eba1c4d1e302a7b5db86f672579d09f2468b27364f9b021ca641d58ec4", func := "commutator/commutatorlaw43.ResponseBusy", spec := "responseBusy", apart := false, narrowed := true }
def ResponseBusyUptoSaid : Prop := responseBusyUptoRow.holds Try.pinned (OpenSpec.upto responseBusySpec)

/-- 'commutatorlaw43.ResponseWorst', WHERE WHAT IT READS IS OF BULK AT MOST 1048576: true; the input reads as it did. -/
def responseWorstUptoRow : OpenClaim := { program := "ytcfhnjdaijdoiaa", sum := "4c8a56eba1c4d1e302a7b5db86f672579d09f2468b27364f9b021ca641d58ec4", func := "commutator/commutatorlaw43.ResponseWorst", spec := "responseWorst", apart := false, narrowed := true }
def ResponseWorstUptoSaid : Prop := responseWorstUptoRow.holds Try.pinned (OpenSpec.upto responseWorstSpec)

/-- 'commutatorlaw43.ResponseRests', WHERE WHAT IT READS IS OF BULK AT MOST 1048576: true; the input reads as it did. -/
def responseRestsUptoRow : OpenClaim := { program := "ytcfhnjdaijdoiaa", sum := "4c8a56eba1c4d1e302a7b5db86f672579d09f2468b27364f9b021ca641d58ec4", func := "commutator/commutatorlaw43.ResponseRests", spec := "responseRests", apart := false, narrowed := true }
def ResponseRestsUptoSaid : Prop := responseRestsUptoRow.holds Try.pinned (OpenSpec.upto responseRestsSpec)

end Rows
end Go.Proofs.Ytcfhnjdaijdoiaa
