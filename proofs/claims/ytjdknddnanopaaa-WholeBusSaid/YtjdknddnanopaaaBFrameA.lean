
/-
  Arguments that are acts, items, structs with a slice, opened.
-/
import Derived.Test.YtjdknddnanopaaaBFrame
import Derived.Test.YtjdknddnanopaaaBAc
namespace Go.Proofs.Ytjdknddnanopaaa.Bus
open Go.ChangeShapes Go.WideShapes Go.ChangeAt Go.RowKit Go.Deep

set_option maxRecDepth 100000 in
/-- A slice of integers as a field. -/
theorem open_kfield {H : Type} {enc : TypeId × Value → H} {W : World} {cs : List Value} {x : DataW H × List MemPlace} {base : Nat} {spare : Nat → Bool} {fuel : Nat} {t e : TypeId} {k : IntKind}
    (ht : Try.prog.underlying t = some (.slice e)) (he : Try.prog.underlying e = some (.int k)) (hC : Try.prog.cellsOf e = 1)
    (hf : DataW.trod enc Try.prog W base spare true fuel t cs = some x) :
    ∃ (A : Option Addr) (n c : Nat) (zs : List Int), cs = [.slice A n c] ∧ zs.length = n ∧ n ≤ c ∧ c ≤ maxLen ∧ Rd W W.heap.size A (kcells k zs) ∧ ∀ z ∈ zs, (Lit.int k z).wf = true := by
  rcases open_ints ht he hC hf with ⟨hcs, _⟩ | ⟨a, l, c, zs, hcs, _, hl, hm, hz, _, hcell, hwz⟩
  · exact ⟨none, 0, 0, [], hcs, rfl, Nat.le_refl _, Nat.zero_le _, fun h => absurd rfl h, fun x hx => by simp at hx⟩
  · have hlen : l ≤ zs.length := by
      rw [hz]
      split <;> omega
    refine ⟨some a, l, c, zs.take l, hcs, by simp; omega, hl, hm, rd_of_cells fun j u hu => ?_, fun z hz => hwz z (List.mem_of_mem_take hz)⟩
    simp only [kcells, List.map_take, List.getElem?_take] at hu
    split at hu
    · rename_i hj
      have hjz : j < zs.length := by omega
      rw [List.getElem?_map, List.getElem?_eq_getElem hjz] at hu
      simp at hu
      subst hu
      rw [hcell j hjz]
      simp [List.getD_eq_getElem?_getD, List.getElem?_eq_getElem hjz]
    · cases hu

theorem ac_of {H : Type} {enc : TypeId × Value → H} {W : World} {base : Nat} {spare : Nat → Bool} {n : Nat} {v0 v1 v2 v3 v4 : Value} {y0 y1 y2 y3 y4 : DataW H × List MemPlace}
    (t0 : DataW.trod enc Try.prog W base spare true n 5 [v0] = some y0) (t1 : DataW.trod enc Try.prog W base spare true n 3 [v1] = some y1) (t2 : DataW.trod enc Try.prog W base spare true n 3 [v2] = some y2)
    (t3 : DataW.trod enc Try.prog W base spare true n 3 [v3] = some y3) (t4 : DataW.trod enc Try.prog W base spare true n 22 [v4] = some y4) :
    ∃ x : Ac, x.ok W W.heap.size ∧ x.cells = [v0, v1, v2, v3, v4] := by
  obtain ⟨n0, e0, _, w0⟩ := DataW.trod_int Try.underlying5 t0
  obtain ⟨n1, e1, _, w1⟩ := DataW.trod_int Try.underlying3 t1
  obtain ⟨n2, e2, _, w2⟩ := DataW.trod_int Try.underlying3 t2
  obtain ⟨n3, e3, _, w3⟩ := DataW.trod_int Try.underlying3 t3
  obtain ⟨A, m, c, zs, e4, h1, h2, h3, h4, h5⟩ := open_kfield Try.underlying22 Try.underlying5 (by kernel_rfl) t4
  simp only [List.cons.injEq, and_true] at e0 e1 e2 e3 e4
  subst e0 e1 e2 e3 e4
  have b0 := bounds_u8 w0
  exact ⟨⟨n0, n1, n2, n3, A, m, c, zs⟩, ⟨h4, h1, h2, h3, fun z hz => by have := bounds_u8 (h5 z hz); omega, by simp only; omega, by simp only; omega, w1, w2, w3⟩, rfl⟩

set_option maxRecDepth 100000 in
/-- An argument that is a slice of items. -/
theorem open_items {H : Type} {enc : TypeId × Value → H} {W : World} {v : Value} {d : DataW H} {p : List MemPlace} {base b0 : Nat} {spare : Nat → Bool} {r : Reach}
    (hv : Value.okWide Try.prog W r b0 89 v) (h : DataW.Trod enc Try.prog W base spare true 89 v d p) :
    ∃ (A : Option Addr) (n c : Nat) (l : List It), v = .slice A n c ∧ l.length = n ∧ n ≤ c ∧ c ≤ maxLen ∧ Rd W W.heap.size A (mcells l) ∧ ∀ x ∈ l, Fits x.i ∧ Fits x.s := by
  obtain ⟨a0, len0, cap0, rfl⟩ := okWide_slice Try.underlying89 hv
  obtain ⟨fuel, hf⟩ := h
  rcases open_slice_fields Try.underlying89 Try.underlying97 (by kernel_rfl) (by kernel_rfl) hf with ⟨hcs, _⟩ | ⟨a, len, cap, m, D, Pl, hcs, _, hlc, hcm, hm, _, hi⟩
  · simp [Value.cells] at hcs
    obtain ⟨rfl, rfl, rfl⟩ := hcs
    exact ⟨none, 0, 0, [], rfl, rfl, Nat.le_refl _, Nat.zero_le _, fun h => absurd rfl h, fun x hx => by simp at hx⟩
  · simp [Value.cells] at hcs
    obtain ⟨rfl, rfl, rfl⟩ := hcs
    have hml : len0 ≤ m := by rw [hm]; split <;> omega
    obtain ⟨l, hl, hp⟩ := list_of_each (fun (i : Nat) (x : It) => (Fits x.i ∧ Fits x.s) ∧ ∀ j u, x.cells[j]? = some u → W.cell? (a.add (i * 2 + j)) = some u) len0 (fun i hi' => by
      obtain ⟨ys, n, _, _, _, hf⟩ := hi i (by omega)
      obtain ⟨v0, y0, c0, _, t0⟩ := hf 0 _ rfl
      obtain ⟨v1, y1, c1, _, t1⟩ := hf 1 _ rfl
      obtain ⟨n0, e0, _, w0⟩ := DataW.trod_int Try.underlying3 t0
      obtain ⟨n1, e1, _, w1⟩ := DataW.trod_int Try.underlying3 t1
      simp only [List.cons.injEq, and_true] at e0 e1
      subst e0 e1
      refine ⟨⟨n0, n1⟩, ⟨fits_of_wf w0, fits_of_wf w1⟩, fun j u hu => ?_⟩
      match j, hu with
      | 0, hu => obtain rfl : Value.int .i64 n0 = u := by simpa [It.cells] using hu
                 exact c0
      | 1, hu => obtain rfl : Value.int .i64 n1 = u := by simpa [It.cells] using hu
                 exact c1
      | j + 2, hu => simp [It.cells] at hu)
    refine ⟨some a, len0, cap0, l, rfl, hl, hlc, hcm, rd_of_flat It.cells 2 It.cells_length (by omega) (fun i x hx => (hp i x hx).2), fun x hx => ?_⟩
    obtain ⟨i, hi'⟩ := List.mem_iff_getElem?.1 hx
    exact (hp i x hi').1
end Go.Proofs.Ytjdknddnanopaaa.Bus
