
/-
  Arguments of layer 51, opened: events, a region, a specification.
-/
import Derived.Test.YtjdknddnanopaaaFrameA
import Derived.Test.YtjdknddnanopaaaW54
namespace Go.Proofs.Ytjdknddnanopaaa
open Go.ChangeShapes Go.WideShapes Go.ChangeAt Go.RowKit Go.Deep
set_option linter.unusedVariables false

theorem i64_of {n : Int} (h : (Lit.int .i64 n).wf = true) : I64 n := by
  have := bounds_i64 h
  unfold I64
  omega
theorem ev_of {H : Type} {enc : TypeId × Value → H} {W : World} {base : Nat} {spare : Nat → Bool} {n : Nat} {v0 v1 v2 v3 : Value} {y0 y1 y2 y3 : DataW H × List MemPlace}
    (t0 : DataW.trod enc Try.prog W base spare true n 5 [v0] = some y0) (t1 : DataW.trod enc Try.prog W base spare true n 3 [v1] = some y1) (t2 : DataW.trod enc Try.prog W base spare true n 3 [v2] = some y2)
    (t3 : DataW.trod enc Try.prog W base spare true n 22 [v3] = some y3) (hw3 : ∀ k ∈ y3.1.weights Try.prog 22, k ≤ reachBytes) :
    ∃ x : Ev, x.ok W W.heap.size ∧ x.cells = [v0, v1, v2, v3] := by
  obtain ⟨n0, e0, _, w0⟩ := DataW.trod_int Try.underlying5 t0
  obtain ⟨n1, e1, _, w1⟩ := DataW.trod_int Try.underlying3 t1
  obtain ⟨n2, e2, _, w2⟩ := DataW.trod_int Try.underlying3 t2
  obtain ⟨A', m', c', zs', e3, h1', h2', h3', h4', h5', h6'⟩ := open_kfieldS t3 hw3
  simp only [List.cons.injEq, and_true] at e0 e1 e2 e3
  subst e0 e1 e2 e3
  have b0 := bounds_u8 w0
  exact ⟨⟨n0, n1, n2, A', m', c', zs'⟩, ⟨h4', h1', h2', h3', fun z hz => by have := bounds_u8 (h5' z hz); omega, h6', by simp only; omega, by simp only; omega, i64_of w1, i64_of w2⟩, rfl⟩

theorem par_of {H : Type} {enc : TypeId × Value → H} {W : World} {base : Nat} {spare : Nat → Bool} {n : Nat} {v0 v1 v2 : Value} {y0 y1 y2 : DataW H × List MemPlace}
    (t0 : DataW.trod enc Try.prog W base spare true n 3 [v0] = some y0) (t1 : DataW.trod enc Try.prog W base spare true n 3 [v1] = some y1) (t2 : DataW.trod enc Try.prog W base spare true n 3 [v2] = some y2) :
    ∃ x : Par, x.ok ∧ x.cells = [v0, v1, v2] := by
  obtain ⟨n0, e0, _, w0⟩ := DataW.trod_int Try.underlying3 t0
  obtain ⟨n1, e1, _, w1⟩ := DataW.trod_int Try.underlying3 t1
  obtain ⟨n2, e2, _, w2⟩ := DataW.trod_int Try.underlying3 t2
  simp only [List.cons.injEq, and_true] at e0 e1 e2
  subst e0 e1 e2
  exact ⟨⟨n0, n1, n2⟩, ⟨i64_of w0, i64_of w1, i64_of w2⟩, rfl⟩
set_option maxRecDepth 100000 in
/-- An argument that is a specification. -/
theorem open_pars {H : Type} {enc : TypeId × Value → H} {W : World} {v : Value} {d : DataW H} {p : List MemPlace} {base b0 : Nat} {spare : Nat → Bool} {r : Reach}
    (hv : Value.okWide Try.prog W r b0 43 v) (h : DataW.Trod enc Try.prog W base spare true 43 v d p) :
    ∃ (A : Option Addr) (n c : Nat) (l : List Par), v = .slice A n c ∧ l.length = n ∧ n ≤ c ∧ c ≤ maxLen ∧ Rd W W.heap.size A (pcells l) ∧ ∀ x ∈ l, x.ok := by
  obtain ⟨a0, len0, cap0, rfl⟩ := okWide_slice Try.underlying43 hv
  obtain ⟨fuel, hf⟩ := h
  rcases open_slice_fields Try.underlying43 Try.underlying141 (by kernel_rfl) (by kernel_rfl) hf with ⟨hcs, _⟩ | ⟨a, len, cap, m, D, Pl, hcs, _, hlc, hcm, hm, hxx, hi⟩
  · simp [Value.cells] at hcs
    obtain ⟨rfl, rfl, rfl⟩ := hcs
    exact ⟨none, 0, 0, [], rfl, rfl, Nat.le_refl _, Nat.zero_le _, fun h => absurd rfl h, fun x hx => by simp at hx⟩
  · simp [Value.cells] at hcs
    obtain ⟨rfl, rfl, rfl⟩ := hcs
    have hml : len0 ≤ m := by rw [hm]; split <;> omega
    obtain ⟨l, hl, hp⟩ := list_of_each (fun (i : Nat) (x : Par) => x.ok ∧ ∀ j u, x.cells[j]? = some u → W.cell? (a.add (i * 3 + j)) = some u) len0 (fun i hi' => by
      obtain ⟨ys, n, hDi, _, _, hf⟩ := hi i (by omega)
      obtain ⟨v0, y0, c0, _, t0⟩ := hf 0 _ rfl
      obtain ⟨v1, y1, c1, _, t1⟩ := hf 1 _ rfl
      obtain ⟨v2, y2, c2, _, t2⟩ := hf 2 _ rfl
      obtain ⟨x, hx, hcs⟩ := par_of t0 t1 t2
      refine ⟨x, hx, fun j u hu => ?_⟩
      rw [hcs] at hu
      match j, hu with
      | 0, hu => obtain rfl : v0 = u := by simpa using hu
                 exact c0
      | 1, hu => obtain rfl : v1 = u := by simpa using hu
                 exact c1
      | 2, hu => obtain rfl : v2 = u := by simpa using hu
                 exact c2
      | j + 3, hu => simp at hu)
    refine ⟨some a, len0, cap0, l, rfl, hl, hlc, hcm, rd_of_flat Par.cells 3 (fun _ => rfl) (by omega) (fun i x hx => (hp i x hx).2), fun x hx => ?_⟩
    obtain ⟨i, hi'⟩ := List.mem_iff_getElem?.1 hx
    exact (hp i x hi').1

end Go.Proofs.Ytjdknddnanopaaa
