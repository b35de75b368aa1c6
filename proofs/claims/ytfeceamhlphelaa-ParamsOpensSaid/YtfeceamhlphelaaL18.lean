/-
  'commutator.ParamsOpens' returns true for every input: Open of a flash with any bytes, for any region and specification, gives what the reference gives, and does not write. No condition.
-/
import Derived.Test.YtfeceamhlphelaaRows
import Derived.Test.YtfeceamhlphelaaFrame
import Derived.Test.YtfeceamhlphelaaClosed
import Derived.Test.YtfeceamhlphelaaFrameC
import Derived.Test.YtfeceamhlphelaaW74
namespace Go.Proofs.Ytfeceamhlphelaa.paramsOpensDone
open Go.ChangeShapes Go.WideShapes Go.ChangeAt Go.RowKit
set_option linter.unusedVariables false

theorem own : ownKnob Try.prog.godebug = none := by kernel_rfl
theorem laidOut : laidOutB Try.prog = true := closed3.1

set_option maxRecDepth 100000 in
theorem lifted (os : Os) (started : os.Started) (H : Type) (enc : TypeId × Value → H) :
    ReturnsInHanded {} Try.checked os 18 .any (Rows.paramsOpensSpec.pre6 enc Try.prog Try.f18 Rows.paramsOpensRow.domain false) (Rows.paramsOpensSpec.post enc Try.prog Try.f18 false true false false) := by
  refine returnsInHanded_of_change (C := Try.checked) own started (by kernel_rfl) Try.func18
    (ChangeSpec.witness6 (enc := enc) (C := Try.checked) false ⟨#[], #[.slice none 0 0, .agg #[.int .i64 0, .int .i64 0, .int .i64 0, .int .i64 0], .slice none 0 0], []⟩ 8 (by kernel_rfl) (by kernel_rfl) (by kernel_rfl) (by kernel_rfl)) ?_
  intro W base args ds gs before hval0 hW hcnd _
  have hval : ∀ (j : Nat) t v, Try.f18.params[j]? = some t → args[j]? = some v → Value.okWide Try.prog W .any base t v := hval0
  have hW' := hW
  obtain ⟨p, q, hA0, hV, rfl, hfz, hnd⟩ := hW
  have hA : DataW.TrodAll enc Try.prog W 0 (fun _ => true) true Try.f18.params.toList args.toList ds p := hA0
  rw [Try.params18] at hA hval
  obtain ⟨v0, vs0, d0, ds0, p0, q0, hargs, rfl, rfl, h0, r0⟩ := trodAll_cons hA
  obtain ⟨v1, vs1, d1, ds1, p1, q1, rfl, rfl, rfl, h1, r1⟩ := trodAll_cons r0
  obtain ⟨v2, vs2, d2, ds2, p2, q2, rfl, rfl, rfl, h2, r2⟩ := trodAll_cons r1
  obtain ⟨rfl, rfl, rfl⟩ := trodAll_nil r2
  obtain rfl : args = #[v0, v1, v2] := by cases args; simp_all
  obtain ⟨rfl, rfl⟩ := trodVars_none hV
  have k0 := h0
  have lt0 : ∀ x ∈ p0, x.block < W.heap.size := by obtain ⟨m, hm⟩ := k0; exact DataW.trod_lt m _ _ _ hm
  obtain ⟨A0, n0, c0, l0, rfl, g0n, g0c, g0m, g0r, g0f⟩ := open_kints Try.underlying23 Try.underlying5 (by kernel_rfl) (hval 0 23 v0 rfl rfl) h0
  have k1 := h1
  have lt1 : ∀ x ∈ p1, x.block < W.heap.size := by obtain ⟨m, hm⟩ := k1; exact DataW.trod_lt m _ _ _ hm
  obtain ⟨a1, b1, c1, e1, rfl, w1a, w1b, w1c, w1e⟩ := open_region (hval 1 82 v1 rfl rfl) h1
  have k2 := h2
  have lt2 : ∀ x ∈ p2, x.block < W.heap.size := by obtain ⟨m, hm⟩ := k2; exact DataW.trod_lt m _ _ _ hm
  obtain ⟨A2, n2, c2, l2, rfl, g2n, g2c, g2m, g2r, g2f⟩ := open_pars (hval 2 86 v2 rfl rfl) h2
  clear hA0 hval0
  have walked : Calls Try.prog 18 #[.slice A0 n0 c0, .agg #[.int .i64 a1, .int .i64 b1, .int .i64 c1, .int .i64 e1], .slice A2 n2 c2] W fun e w' => e = .returned (.bool true) ∧ Below W.heap.size W w' := Decidable.byCases (fun h : 30000 < n0 ∨ (¬ 30000 < n0 ∧ 60 < n2) => opens_long A0 n0 c0 a1 b1 c1 e1 A2 n2 c2 W (Nat.le_trans g0c g0m) (Nat.le_trans g2c g2m) h) (fun h => opens_main A0 n0 c0 l0 a1 b1 c1 e1 w1b w1c w1e A2 n2 c2 l2 W g0r g0n g0c g0m (fun z hz => by have := bounds_u8 (g0f z hz); omega) g2r g2n g2c g2m g2f (by omega) (by omega))
  refine walked.mono fun e W' ⟨he, bel⟩ => ?_
  subst he
  exact ⟨_, rfl, _, _, _, [], _, [], hW', trodAll_mk1 (shut_bool Try.underlying4 _), (trodAll_cons_mk (Below.trod laidOut (by kernel_rfl) (of_decide_eq_true (by kernel_rfl)) k0 bel lt0) (trodAll_cons_mk (Below.trod laidOut (by kernel_rfl) (of_decide_eq_true (by kernel_rfl)) k1 bel lt1) (trodAll_cons_mk (Below.trod laidOut (by kernel_rfl) (of_decide_eq_true (by kernel_rfl)) k2 bel lt2) trodAll_mk0))), rfl, bel.frame _, fun h => by cases h⟩

set_option maxRecDepth 100000 in
theorem joined : joinedFacts Try.checked.prog 18 Try.f18 Rows.paramsOpensSpec Rows.paramsOpensRow = true := by
  unfold joinedFacts
  simp only [Bool.and_eq_true]
  repeat' (apply And.intro)
  all_goals first
    | with_reducible exact closed3.1
    | with_reducible exact closed3.2.1
    | with_reducible exact plain_of _ _ closed3.2.2 rfl
    | with_reducible exact closed_heard
    | with_reducible exact closed_enter
    | with_reducible exact lifted_of _ _ closed_final rfl
    | with_reducible exact make_of _ _ closed_make rfl
    | kernel_rfl

theorem over : Rows.paramsOpensRow.holds Try.pinned (OpenSpec.ofChange Rows.paramsOpensSpec) :=
  OpenClaim.holds_of_wide 18 Try.f18 rfl rfl rfl rfl rfl rfl rfl ⟨rfl, rfl, rfl, rfl, rfl⟩ rfl rfl rfl rfl rfl (by kernel_rfl) Try.func18 joined
    (of_decide_eq_true (by kernel_rfl)) (by unfold Func.isWrapper; first | (rw [if_pos (by decide +kernel)]; kernel_rfl) | (rw [if_neg (by decide +kernel)]; exact ⟨rfl, rfl⟩))
    (fun os started H enc _ => lifted os started H enc)

theorem proved : Rows.ParamsOpensSaid := over
end Go.Proofs.Ytfeceamhlphelaa.paramsOpensDone
