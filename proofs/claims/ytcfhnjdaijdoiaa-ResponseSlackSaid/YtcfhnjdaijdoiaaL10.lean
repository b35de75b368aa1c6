/-
  'commutator.ResponseSlack' returns true for every input: with the slack added deadlines are met, with one unit more they are not, or the tasks are refused; less cost never does harm. No condition.
-/
import Derived.Test.YtcfhnjdaijdoiaaRows
import Derived.Test.YtcfhnjdaijdoiaaFrame3
import Derived.Test.YtcfhnjdaijdoiaaW10
namespace Go.Proofs.Ytcfhnjdaijdoiaa.responseSlackDone
open Go.ChangeShapes Go.WideShapes Go.ChangeAt Go.RowKit
set_option linter.unusedVariables false

theorem own : ownKnob Try.prog.godebug = none := by kernel_rfl
theorem laidOut : laidOutB Try.prog = true := by kernel_rfl

set_option maxRecDepth 100000 in
theorem lifted (os : Os) (started : os.Started) (H : Type) (enc : TypeId × Value → H) :
    ReturnsInHanded {} Try.checked os 10 .any (Rows.responseSlackSpec.pre6 enc Try.prog Try.f10 Rows.responseSlackRow.domain false) (Rows.responseSlackSpec.post enc Try.prog Try.f10 false true false false) := by
  refine returnsInHanded_of_change (C := Try.checked) own started (by kernel_rfl) Try.func10
    (ChangeSpec.witness6 (enc := enc) (C := Try.checked) false ⟨#[], #[.slice none 0 0, .agg #[.int .u8 0, .int .u8 0]], []⟩ 8 (by kernel_rfl) (by kernel_rfl) (by kernel_rfl) (by kernel_rfl)) ?_
  intro W base args ds gs before hval0 hW hcnd _
  have hval : ∀ (j : Nat) t v, Try.f10.params[j]? = some t → args[j]? = some v → Value.okWide Try.prog W .any base t v := hval0
  have hW' := hW
  obtain ⟨p, q, hA0, hV, rfl, hfz, hnd⟩ := hW
  have hA : DataW.TrodAll enc Try.prog W 0 (fun _ => true) true Try.f10.params.toList args.toList ds p := hA0
  rw [Try.params10] at hA hval
  obtain ⟨v0, vs0, d0, ds0, p0, q0, hargs, rfl, rfl, h0, r0⟩ := trodAll_cons hA
  obtain ⟨v1, vs1, d1, ds1, p1, q1, rfl, rfl, rfl, h1, r1⟩ := trodAll_cons r0
  obtain ⟨rfl, rfl, rfl⟩ := trodAll_nil r1
  obtain rfl : args = #[v0, v1] := by cases args; simp_all
  obtain ⟨rfl, rfl⟩ := trodVars_none hV
  have k0 := h0
  have lt0 : ∀ x ∈ p0, x.block < W.heap.size := by obtain ⟨m, hm⟩ := k0; exact DataW.trod_lt m _ _ _ hm
  obtain ⟨A0, n0, c0, l0, rfl, g0n, g0c, g0m, g0r, g0f⟩ := open_tasks (hval 0 22 v0 rfl rfl) h0
  have k1 := h1
  have lt1 : ∀ x ∈ p1, x.block < W.heap.size := by obtain ⟨m, hm⟩ := k1; exact DataW.trod_lt m _ _ _ hm
  obtain ⟨x1, y1, rfl, wx1, wy1⟩ := open_arr2 Try.underlying61 Try.underlying5 (by kernel_rfl) (by kernel_rfl) (hval 1 61 v1 rfl rfl) h1
  clear hA0 hval0
  have walked : Calls Try.prog 10 #[.slice A0 n0 c0, .agg #[.int .u8 x1, .int .u8 y1]] W fun e w' => e = .returned (.bool true) ∧ Below W.heap.size W w' := if h : n0 = 0 ∨ 8 < n0 ∨ check l0 ≠ 0 then slack_refused A0 n0 c0 l0 x1 y1 W g0r g0n g0c g0m h else slack_main A0 n0 c0 l0 x1 y1 W g0r g0n g0c g0m (by omega) (by omega) (by simpa using bounds_u8 wx1) (by simpa using bounds_u8 wy1)
  refine walked.mono fun e W' ⟨he, bel⟩ => ?_
  subst he
  exact ⟨_, rfl, _, _, _, [], _, [], hW', trodAll_mk1 (shut_bool Try.underlying4 _), (trodAll_cons_mk (Below.trod laidOut (by kernel_rfl) (of_decide_eq_true (by kernel_rfl)) k0 bel lt0) (trodAll_cons_mk (Below.trod laidOut (by kernel_rfl) (of_decide_eq_true (by kernel_rfl)) k1 bel lt1) trodAll_mk0)), rfl, bel.frame _, fun h => by cases h⟩

theorem over : Rows.responseSlackRow.holds Try.pinned (OpenSpec.ofChange Rows.responseSlackSpec) :=
  OpenClaim.holds_of_wide 10 Try.f10 rfl rfl rfl rfl rfl rfl rfl ⟨rfl, rfl, rfl, rfl, rfl⟩ rfl rfl rfl rfl rfl (by kernel_rfl) Try.func10 (by kernel_rfl)
    (of_decide_eq_true (by kernel_rfl)) (by unfold Func.isWrapper; first | (rw [if_pos (by decide +kernel)]; kernel_rfl) | (rw [if_neg (by decide +kernel)]; exact ⟨rfl, rfl⟩))
    (fun os started H enc _ => lifted os started H enc)

theorem proved : Rows.ResponseSlackSaid := over
end Go.Proofs.Ytcfhnjdaijdoiaa.responseSlackDone
