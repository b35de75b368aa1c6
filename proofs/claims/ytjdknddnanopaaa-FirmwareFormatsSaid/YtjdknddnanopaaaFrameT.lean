/-
  An argument of layer 52, opened: a region.
-/
import Derived.Test.YtjdknddnanopaaaFrameC
namespace Go.Proofs.Ytjdknddnanopaaa
open Go.ChangeShapes Go.WideShapes Go.ChangeAt Go.RowKit Go.Deep
set_option linter.unusedVariables false

set_option maxRecDepth 100000 in
theorem open_region {H : Type} {enc : TypeId × Value → H} {W : World} {v : Value} {d : DataW H} {p : List MemPlace} {base b0 : Nat} {spare : Nat → Bool} {r : Reach}
    (hv : Value.okWide Try.prog W r b0 28 v) (h : DataW.Trod enc Try.prog W base spare true 28 v d p) :
    ∃ a b c e : Int, v = .agg #[.int .i64 a, .int .i64 b, .int .i64 c, .int .i64 e] ∧ I64 a ∧ I64 b ∧ I64 c ∧ I64 e := by
  obtain ⟨cs, rfl, hsz⟩ : ∃ cs, v = .agg cs ∧ cs.size = Try.prog.cellsOf 28 := by
    simp only [Value.okWide, Try.underlying28] at hv
    obtain ⟨cs, h1, h2, _⟩ := hv
    exact ⟨cs, h1, h2⟩
  have hC : Try.prog.cellsOf 28 = 4 := by kernel_rfl
  have hc2 : Try.prog.cellsOf 3 = 1 := by kernel_rfl
  obtain ⟨fuel, hf⟩ := h
  obtain ⟨ys, m, _, _, _, hx, hg⟩ := DataW.trod_struct Try.underlying28 hf
  obtain ⟨cl⟩ := cs
  rw [hC] at hsz
  match cl, hsz with
  | [v0, v1, v2, v3], _ =>
    have g0 : DataW.trod enc Try.prog W base spare true m 3 ((([v0, v1, v2, v3] : List Value).drop 0).take (Try.prog.cellsOf 3)) = ys[0]? := hg 0 _ rfl
    have g1 : DataW.trod enc Try.prog W base spare true m 3 ((([v0, v1, v2, v3] : List Value).drop 1).take (Try.prog.cellsOf 3)) = ys[1]? := hg 1 _ rfl
    have g2 : DataW.trod enc Try.prog W base spare true m 3 ((([v0, v1, v2, v3] : List Value).drop 2).take (Try.prog.cellsOf 3)) = ys[2]? := hg 2 _ rfl
    have g3 : DataW.trod enc Try.prog W base spare true m 3 ((([v0, v1, v2, v3] : List Value).drop 3).take (Try.prog.cellsOf 3)) = ys[3]? := hg 3 _ rfl
    rw [hc2] at g0 g1 g2 g3
    have hys : ys.length = 4 := hx
    rw [List.getElem?_eq_getElem (by omega)] at g0 g1 g2 g3
    obtain ⟨n0, e0, _, w0⟩ := DataW.trod_int Try.underlying3 g0
    obtain ⟨n1, e1, _, w1⟩ := DataW.trod_int Try.underlying3 g1
    obtain ⟨n2, e2, _, w2⟩ := DataW.trod_int Try.underlying3 g2
    obtain ⟨n3, e3, _, w3⟩ := DataW.trod_int Try.underlying3 g3
    obtain rfl : v0 = .int .i64 n0 := by simpa using e0
    obtain rfl : v1 = .int .i64 n1 := by simpa using e1
    obtain rfl : v2 = .int .i64 n2 := by simpa using e2
    obtain rfl : v3 = .int .i64 n3 := by simpa using e3
    exact ⟨n0, n1, n2, n3, rfl, i64_of w0, i64_of w1, i64_of w2, i64_of w3⟩
end Go.Proofs.Ytjdknddnanopaaa
