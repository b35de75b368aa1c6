/-
  Arguments that are acts, items, structs with a slice, opened.
-/
import Derived.Test.YteooabcgojadcaaFrame
import Derived.Test.YteooabcgojadcaaAc
namespace Go.Proofs.Yteooabcgojadcaa
open Go.ChangeShapes Go.WideShapes Go.ChangeAt Go.RowKit Go.Deep

set_option maxRecDepth 100000 in
/-- A slice of integers as a field. -/
theorem open_kfield {H : Type} {enc : TypeId × Value → H} {W : World} {cs : List Value} {x : DataW H × List MemPlace} {base : Nat} {spare : Nat → Bool} {fuel : Nat} {t e : TypeId} {k : IntKind}
    (ht : Try.prog.underlying t = some (.slice e)) (he : Try.prog.underlying e = some (.int k)) (hC : Try.prog.cellsOf e = 1)
    (hf : DataW.trod enc Try.prog W base spare true fuel t cs = some x) :
    ∃ (A : Option Addr) (n c : Nat) (zs : List Int), cs = [.slice A n c] ∧ zs.length = n ∧ n ≤ c ∧ c ≤ maxLen ∧ Rd W W.heap.size A (kcells k zs) ∧ ∀ z ∈ zs, (Lit.int k z).wf = true := by
  rcases open_ints ht he hC hf with ⟨hcs, _⟩ | ⟨a, l, c, zs, hcs, _, hl, hm, hz, _, hcell, hwz⟩
  · exact ⟨none, 0, 0, [], hcs, rfl, Nat.le_refl _, Nat.zero_le _, fun h => absurd rfl h, fun x hx => by simp at hx⟩
  · have hlen : l ≤ zs.length := by
      rw [hz]
      split <;> omega
    refine ⟨some a, l, c, zs.take l, hcs, by simp; omega, hl, hm, rd_of_cells fun j u hu => ?_, fun z hz => hwz z (List.mem_of_mem_take hz)⟩
    simp only [kcells, List.map_take, List.getElem?_take] at hu
    split at hu
    · rename_i hj
      have hjz : j < zs.length := by omega
      rw [List.getElem?_map, List.getElem?_eq_getElem hjz] at hu
      simp at hu
      subst hu
      rw [hcell j hjz]
      simp [List.getD_eq_getElem?_getD, List.getElem?_eq_getElem hjz]
    · cases hu

theorem ac_of {H : Type} {enc : TypeId × Value → H} {W : World} {base : Nat} {spare : Nat → Bool} {n : Nat} {v0 v1 v2 v3 v4 : Value} {y0 y1 y2 y3 y4 : DataW H × List MemPlace}
    (t0 : DataW.trod enc Try.prog W base spare true n 5 [v0] = some y0) (t1 : DataW.trod enc Try.prog W base spare true n 3 [v1] = some y1) (t2 : DataW.trod enc Try.prog W base spare true n 3 [v2] = some y2)
    (t3 : DataW.trod enc Try.prog W base spare true n 3 [v3] = some y3) (t4 : DataW.trod enc Try.prog W base spare true n 35 [v4] = some y4) :
    ∃ x : Ac, x.ok W W.heap.size ∧ x.cells = [v0, v1, v2, v3, v4] := by
  obtain ⟨n0, e0, _, w0⟩ := DataW.trod_int Try.underlying5 t0
  obtain ⟨n1, e1, _, w1⟩ := DataW.trod_int Try.underlying3 t1
  obtain ⟨n2, e2, _, w2⟩ := DataW.trod_int Try.underlying3 t2
  obtain ⟨n3, e3, _, w3⟩ := DataW.trod_int Try.underlying3 t3
  obtain ⟨A, m, c, zs, e4, h1, h2, h3, h4, h5⟩ := open_kfield Try.underlying35 Try.underlying5 (by kernel_rfl) t4
  simp only [List.cons.injEq, and_true] at e0 e1 e2 e3 e4
  subst e0 e1 e2 e3 e4
  have b0 := bounds_u8 w0
  exact ⟨⟨n0, n1, n2, n3, A, m, c, zs⟩, ⟨h4, h1, h2, h3, fun z hz => by have := bounds_u8 (h5 z hz); omega, by simp only; omega, by simp only; omega, w1, w2, w3⟩, rfl⟩

set_option maxRecDepth 100000 in
/-- An argument that is a slice of acts. -/
theorem open_acts {H : Type} {enc : TypeId × Value → H} {W : World} {v : Value} {d : DataW H} {p : List MemPlace} {base b0 : Nat} {spare : Nat → Bool} {r : Reach}
    (hv : Value.okWide Try.prog W r b0 46 v) (h : DataW.Trod enc Try.prog W base spare true 46 v d p) :
    ∃ (A : Option Addr) (n c : Nat) (l : List Ac), v = .slice A n c ∧ l.length = n ∧ n ≤ c ∧ c ≤ maxLen ∧ Rd W W.heap.size A (acells l) ∧ ∀ x ∈ l, x.ok W W.heap.size := by
  obtain ⟨a0, len0, cap0, rfl⟩ := okWide_slice Try.underlying46 hv
  obtain ⟨fuel, hf⟩ := h
  rcases open_slice_fields Try.underlying46 Try.underlying48 (by kernel_rfl) (by kernel_rfl) hf with ⟨hcs, _⟩ | ⟨a, len, cap, m, D, Pl, hcs, _, hlc, hcm, hm, _, hi⟩
  · simp [Value.cells] at hcs
    obtain ⟨rfl, rfl, rfl⟩ := hcs
    exact ⟨none, 0, 0, [], rfl, rfl, Nat.le_refl _, Nat.zero_le _, fun h => absurd rfl h, fun x hx => by simp at hx⟩
  · simp [Value.cells] at hcs
    obtain ⟨rfl, rfl, rfl⟩ := hcs
    have hml : len0 ≤ m := by rw [hm]; split <;> omega
    obtain ⟨l, hl, hp⟩ := list_of_each (fun (i : Nat) (x : Ac) => x.ok W W.heap.size ∧ ∀ j u, x.cells[j]? = some u → W.cell? (a.add (i * 5 + j)) = some u) len0 (fun i hi' => by
      obtain ⟨ys, n, _, _, _, hf⟩ := hi i (by omega)
      obtain ⟨v0, y0, c0, _, t0⟩ := hf 0 _ rfl
      obtain ⟨v1, y1, c1, _, t1⟩ := hf 1 _ rfl
      obtain ⟨v2, y2, c2, _, t2⟩ := hf 2 _ rfl
      obtain ⟨v3, y3, c3, _, t3⟩ := hf 3 _ rfl
      obtain ⟨v4, y4, c4, _, t4⟩ := hf 4 _ rfl
      obtain ⟨x, hx, hcs⟩ := ac_of t0 t1 t2 t3 t4
      refine ⟨x, hx, fun j u hu => ?_⟩
      rw [hcs] at hu
      match j, hu with
      | 0, hu => obtain rfl : v0 = u := by simpa using hu
                 exact c0
      | 1, hu => obtain rfl : v1 = u := by simpa using hu
                 exact c1
      | 2, hu => obtain rfl : v2 = u := by simpa using hu
                 exact c2
      | 3, hu => obtain rfl : v3 = u := by simpa using hu
                 exact c3
      | 4, hu => obtain rfl : v4 = u := by simpa using hu
                 exact c4
      | j + 5, hu => simp at hu)
    refine ⟨some a, len0, cap0, l, rfl, hl, hlc, hcm, rd_of_flat Ac.cells 5 Ac.cells_length (by omega) (fun i x hx => (hp i x hx).2), fun x hx => ?_⟩
    obtain ⟨i, hi'⟩ := List.mem_iff_getElem?.1 hx
    exact (hp i x hi').1

set_option maxRecDepth 100000 in
/-- An argument that is an act. -/
theorem open_act {H : Type} {enc : TypeId × Value → H} {W : World} {v : Value} {d : DataW H} {p : List MemPlace} {base b0 : Nat} {spare : Nat → Bool} {r : Reach}
    (hv : Value.okWide Try.prog W r b0 48 v) (h : DataW.Trod enc Try.prog W base spare true 48 v d p) :
    ∃ x : Ac, v = .agg x.cells.toArray ∧ x.ok W W.heap.size := by
  obtain ⟨cs, rfl, hsz⟩ : ∃ cs, v = .agg cs ∧ cs.size = Try.prog.cellsOf 48 := by
    simp only [Value.okWide, Try.underlying48] at hv
    obtain ⟨cs, h1, h2, _⟩ := hv
    exact ⟨cs, h1, h2⟩
  have hC : Try.prog.cellsOf 48 = 5 := by kernel_rfl
  have hc1 : Try.prog.cellsOf 5 = 1 := by kernel_rfl
  have hc2 : Try.prog.cellsOf 3 = 1 := by kernel_rfl
  have hc3 : Try.prog.cellsOf 35 = 1 := by kernel_rfl
  obtain ⟨fuel, hf⟩ := h
  obtain ⟨ys, m, _, _, _, hx, hg⟩ := DataW.trod_struct Try.underlying48 hf
  obtain ⟨cl⟩ := cs
  rw [hC] at hsz
  match cl, hsz with
  | [v0, v1, v2, v3, v4], _ =>
    have g0 : DataW.trod enc Try.prog W base spare true m 5 ((([v0, v1, v2, v3, v4] : List Value).drop 0).take (Try.prog.cellsOf 5)) = ys[0]? := hg 0 _ rfl
    rw [hc1] at g0
    have g1 : DataW.trod enc Try.prog W base spare true m 3 ((([v0, v1, v2, v3, v4] : List Value).drop 1).take (Try.prog.cellsOf 3)) = ys[1]? := hg 1 _ rfl
    rw [hc2] at g1
    have g2 : DataW.trod enc Try.prog W base spare true m 3 ((([v0, v1, v2, v3, v4] : List Value).drop 2).take (Try.prog.cellsOf 3)) = ys[2]? := hg 2 _ rfl
    rw [hc2] at g2
    have g3 : DataW.trod enc Try.prog W base spare true m 3 ((([v0, v1, v2, v3, v4] : List Value).drop 3).take (Try.prog.cellsOf 3)) = ys[3]? := hg 3 _ rfl
    rw [hc2] at g3
    have g4 : DataW.trod enc Try.prog W base spare true m 35 ((([v0, v1, v2, v3, v4] : List Value).drop 4).take (Try.prog.cellsOf 35)) = ys[4]? := hg 4 _ rfl
    rw [hc3] at g4
    have hys : ys.length = 5 := hx
    rw [List.getElem?_eq_getElem (by omega)] at g0 g1 g2 g3 g4
    obtain ⟨x, hx, hcs⟩ := ac_of g0 g1 g2 g3 g4
    exact ⟨x, by rw [hcs], hx⟩

set_option maxRecDepth 100000 in
/-- An argument that is a slice of items. -/
theorem open_items {H : Type} {enc : TypeId × Value → H} {W : World} {v : Value} {d : DataW H} {p : List MemPlace} {base b0 : Nat} {spare : Nat → Bool} {r : Reach}
    (hv : Value.okWide Try.prog W r b0 64 v) (h : DataW.Trod enc Try.prog W base spare true 64 v d p) :
    ∃ (A : Option Addr) (n c : Nat) (l : List It), v = .slice A n c ∧ l.length = n ∧ n ≤ c ∧ c ≤ maxLen ∧ Rd W W.heap.size A (mcells l) ∧ ∀ x ∈ l, Fits x.i ∧ Fits x.s := by
  obtain ⟨a0, len0, cap0, rfl⟩ := okWide_slice Try.underlying64 hv
  obtain ⟨fuel, hf⟩ := h
  rcases open_slice_fields Try.underlying64 Try.underlying110 (by kernel_rfl) (by kernel_rfl) hf with ⟨hcs, _⟩ | ⟨a, len, cap, m, D, Pl, hcs, _, hlc, hcm, hm, _, hi⟩
  · simp [Value.cells] at hcs
    obtain ⟨rfl, rfl, rfl⟩ := hcs
    exact ⟨none, 0, 0, [], rfl, rfl, Nat.le_refl _, Nat.zero_le _, fun h => absurd rfl h, fun x hx => by simp at hx⟩
  · simp [Value.cells] at hcs
    obtain ⟨rfl, rfl, rfl⟩ := hcs
    have hml : len0 ≤ m := by rw [hm]; split <;> omega
    obtain ⟨l, hl, hp⟩ := list_of_each (fun (i : Nat) (x : It) => (Fits x.i ∧ Fits x.s) ∧ ∀ j u, x.cells[j]? = some u → W.cell? (a.add (i * 2 + j)) = some u) len0 (fun i hi' => by
      obtain ⟨ys, n, _, _, _, hf⟩ := hi i (by omega)
      obtain ⟨v0, y0, c0, _, t0⟩ := hf 0 _ rfl
      obtain ⟨v1, y1, c1, _, t1⟩ := hf 1 _ rfl
      obtain ⟨n0, e0, _, w0⟩ := DataW.trod_int Try.underlying3 t0
      obtain ⟨n1, e1, _, w1⟩ := DataW.trod_int Try.underlying3 t1
      simp only [List.cons.injEq, and_true] at e0 e1
      subst e0 e1
      refine ⟨⟨n0, n1⟩, ⟨fits_of_wf w0, fits_of_wf w1⟩, fun j u hu => ?_⟩
      match j, hu with
      | 0, hu => obtain rfl : Value.int .i64 n0 = u := by simpa [It.cells] using hu
                 exact c0
      | 1, hu => obtain rfl : Value.int .i64 n1 = u := by simpa [It.cells] using hu
                 exact c1
      | j + 2, hu => simp [It.cells] at hu)
    refine ⟨some a, len0, cap0, l, rfl, hl, hlc, hcm, rd_of_flat It.cells 2 It.cells_length (by omega) (fun i x hx => (hp i x hx).2), fun x hx => ?_⟩
    obtain ⟨i, hi'⟩ := List.mem_iff_getElem?.1 hx
    exact (hp i x hi').1
end Go.Proofs.Yteooabcgojadcaa
