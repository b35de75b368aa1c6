/-
  Arguments that are arrays of two integers, opened.
-/
import Derived.Test.YtcfhnjdaijdoiaaFrame2
namespace Go.Proofs.Ytcfhnjdaijdoiaa
open Go.ChangeShapes Go.WideShapes Go.ChangeAt Go.RowKit Go.Deep

theorem open_arr2 {H : Type} {enc : TypeId × Value → H} {W : World} {v : Value} {d : DataW H} {p : List MemPlace} {base b0 : Nat} {spare : Nat → Bool} {r : Reach} {t e : TypeId} {k : IntKind}
    (ht : Try.prog.underlying t = some (.array 2 e)) (he : Try.prog.underlying e = some (.int k)) (hC : Try.prog.cellsOf e = 1) (hC2 : Try.prog.cellsOf t = 2)
    (hv : Value.okWide Try.prog W r b0 t v) (h : DataW.Trod enc Try.prog W base spare true t v d p) :
    ∃ (x y : Int), v = .agg #[.int k x, .int k y] ∧ (Lit.int k x).wf = true ∧ (Lit.int k y).wf = true := by
  obtain ⟨cs, rfl, hsz⟩ : ∃ cs, v = .agg cs ∧ cs.size = Try.prog.cellsOf t := by
    simp only [Value.okWide, ht] at hv
    obtain ⟨cs, h1, h2, _⟩ := hv
    exact ⟨cs, h1, h2⟩
  obtain ⟨fuel, hf⟩ := h
  obtain ⟨xs, m, _, _, _, hx, hg⟩ := DataW.trod_array ht hf
  obtain ⟨cl⟩ := cs
  rw [hC2] at hsz
  match cl, hsz with
  | [u, v], _ =>
    have g0 := hg 0 (by omega)
    have g1 := hg 1 (by omega)
    rw [hC] at g0 g1
    obtain ⟨y0, hy0⟩ : ∃ y, xs[0]? = some y := ⟨_, List.getElem?_eq_getElem (by omega)⟩
    obtain ⟨y1, hy1⟩ : ∃ y, xs[1]? = some y := ⟨_, List.getElem?_eq_getElem (by omega)⟩
    rw [hy0] at g0
    rw [hy1] at g1
    have e0 : ((Value.agg ⟨[u, v]⟩).cells.toList.drop (0 * 1)).take 1 = [u] := rfl
    have e1 : ((Value.agg ⟨[u, v]⟩).cells.toList.drop (1 * 1)).take 1 = [v] := rfl
    rw [e0] at g0
    rw [e1] at g1
    obtain ⟨a, ea, _, wa⟩ := DataW.trod_int he g0
    obtain ⟨b, eb, _, wb⟩ := DataW.trod_int he g1
    simp only [List.cons.injEq, and_true] at ea eb
    subst ea eb
    exact ⟨a, b, rfl, wa, wb⟩
end Go.Proofs.Ytcfhnjdaijdoiaa
