
/-
  Arguments that are frames and loads, opened.
-/
import Derived.Test.YtjdknddnanopaaaBFrameA
namespace Go.Proofs.Ytjdknddnanopaaa.Bus
open Go.ChangeShapes Go.WideShapes Go.ChangeAt Go.RowKit Go.Deep

set_option maxRecDepth 100000 in
/-- An argument that is a frame. -/
theorem open_frame {H : Type} {enc : TypeId × Value → H} {W : World} {v : Value} {d : DataW H} {p : List MemPlace} {base b0 : Nat} {spare : Nat → Bool} {r : Reach}
    (hv : Value.okWide Try.prog W r b0 102 v) (h : DataW.Trod enc Try.prog W base spare true 102 v d p) :
    ∃ (s : Int) (A : Option Addr) (n c : Nat) (l : List Int), v = .agg #[.int .i64 s, .slice A n c] ∧ (Lit.int .i64 s).wf = true ∧ l.length = n ∧ n ≤ c ∧ c ≤ maxLen ∧ Rd W W.heap.size A (kcells .u8 l) ∧ ∀ z ∈ l, 0 ≤ z ∧ z < 256 := by
  obtain ⟨cs, rfl, hsz⟩ : ∃ cs, v = .agg cs ∧ cs.size = Try.prog.cellsOf 102 := by
    simp only [Value.okWide, Try.underlying102] at hv
    obtain ⟨cs, h1, h2, _⟩ := hv
    exact ⟨cs, h1, h2⟩
  have hC : Try.prog.cellsOf 102 = 2 := by kernel_rfl
  have hc2 : Try.prog.cellsOf 3 = 1 := by kernel_rfl
  have hc3 : Try.prog.cellsOf 22 = 1 := by kernel_rfl
  obtain ⟨fuel, hf⟩ := h
  obtain ⟨ys, m, _, _, _, hx, hg⟩ := DataW.trod_struct Try.underlying102 hf
  obtain ⟨cl⟩ := cs
  rw [hC] at hsz
  match cl, hsz with
  | [v0, v1], _ =>
    have g0 : DataW.trod enc Try.prog W base spare true m 3 ((([v0, v1] : List Value).drop 0).take (Try.prog.cellsOf 3)) = ys[0]? := hg 0 _ rfl
    rw [hc2] at g0
    have g1 : DataW.trod enc Try.prog W base spare true m 22 ((([v0, v1] : List Value).drop 1).take (Try.prog.cellsOf 22)) = ys[1]? := hg 1 _ rfl
    rw [hc3] at g1
    have hys : ys.length = 2 := hx
    rw [List.getElem?_eq_getElem (by omega)] at g0 g1
    obtain ⟨n0, e0, _, w0⟩ := DataW.trod_int Try.underlying3 g0
    obtain ⟨A, n, c, zs, e1, h1, h2, h3, h4, h5⟩ := open_kfield Try.underlying22 Try.underlying5 (by kernel_rfl) g1
    simp only [List.drop_zero, List.take_succ_cons, List.take_zero, List.drop_succ_cons, List.cons.injEq, and_true] at e0 e1
    subst e0 e1
    exact ⟨n0, A, n, c, zs, rfl, w0, h1, h2, h3, h4, fun z hz => by have := bounds_u8 (h5 z hz); omega⟩

end Go.Proofs.Ytjdknddnanopaaa.Bus
