
/-
  Arguments that are acts, items, structs with a slice, opened.
-/
import Derived.Test.YtjdknddnanopaaaFrame
import Derived.Test.YtjdknddnanopaaaMa
import Derived.SizedLaws
namespace Go.Proofs.Ytjdknddnanopaaa
open Go.ChangeShapes Go.WideShapes Go.ChangeAt Go.RowKit Go.Deep

theorem weights_elem {H : Type} {P : Program} {e : TypeId} : ∀ {l : List (DataW H)} {i : Nat} {d : DataW H}, l[i]? = some d → ∀ n ∈ d.weights P e, n ∈ DataW.weightsAll P e l
  | [], _, _, h, _, _ => by simp at h
  | x :: l, 0, d, h, n, hn => by
    simp at h
    subst h
    simp only [DataW.weightsAll, List.mem_append]
    exact Or.inl hn
  | x :: l, i + 1, d, h, n, hn => by
    simp only [DataW.weightsAll, List.mem_append]
    exact Or.inr (weights_elem (by simpa using h) n hn)

set_option maxRecDepth 100000 in
/-- A slice of bytes as a field, with its size. -/
theorem open_kfieldS {H : Type} {enc : TypeId × Value → H} {W : World} {cs : List Value} {x : DataW H × List MemPlace} {base : Nat} {spare : Nat → Bool} {fuel : Nat}
    (hf : DataW.trod enc Try.prog W base spare true fuel 22 cs = some x) (hw : ∀ k ∈ x.1.weights Try.prog 22, k ≤ reachBytes) :
    ∃ (A : Option Addr) (n c : Nat) (zs : List Int), cs = [.slice A n c] ∧ zs.length = n ∧ n ≤ c ∧ c ≤ maxLen ∧ Rd W W.heap.size A (kcells .u8 zs) ∧ (∀ z ∈ zs, (Lit.int .u8 z).wf = true) ∧ n ≤ 140737488351232 := by
  have hb : Try.prog.bytesOf 5 = 1 := by kernel_rfl
  rcases open_ints Try.underlying22 Try.underlying5 (by kernel_rfl) hf with ⟨hcs, _⟩ | ⟨a, l, c, zs, hcs, _, hl, hm, hz, hxx, hcell, hwz⟩
  · exact ⟨none, 0, 0, [], hcs, rfl, Nat.le_refl _, Nat.zero_le _, fun h => absurd rfl h, fun x hx => by simp at hx, by omega⟩
  · have hlen : l ≤ zs.length := by
      rw [hz]
      split <;> omega
    have hsz : l ≤ 140737488351232 := by
      have h1 : ((lits (H := H) .u8 (zs.take l)).length + (lits (H := H) .u8 (zs.drop l)).length) * Try.prog.bytesOf 5 ∈ x.1.weights Try.prog 22 := by
        rw [hxx]
        simp only [DataW.weights, Try.underlying22]
        exact List.mem_cons_self
      have h2 := hw _ h1
      rw [hb] at h2
      simp only [lits, List.length_map, List.length_take, List.length_drop] at h2
      unfold reachBytes at h2
      omega
    refine ⟨some a, l, c, zs.take l, hcs, by simp; omega, hl, hm, rd_of_cells fun j u hu => ?_, fun z hz => hwz z (List.mem_of_mem_take hz), hsz⟩
    simp only [kcells, List.map_take, List.getElem?_take] at hu
    split at hu
    · rename_i hj
      have hjz : j < zs.length := by omega
      rw [List.getElem?_map, List.getElem?_eq_getElem hjz] at hu
      simp at hu
      subst hu
      rw [hcell j hjz]
      simp [List.getD_eq_getElem?_getD, List.getElem?_eq_getElem hjz]
    · cases hu

theorem ac_of {H : Type} {enc : TypeId × Value → H} {W : World} {base : Nat} {spare : Nat → Bool} {n : Nat} {v0 v1 v2 v3 v4 : Value} {y0 y1 y2 y3 y4 : DataW H × List MemPlace}
    (t0 : DataW.trod enc Try.prog W base spare true n 5 [v0] = some y0) (t1 : DataW.trod enc Try.prog W base spare true n 3 [v1] = some y1) (t2 : DataW.trod enc Try.prog W base spare true n 3 [v2] = some y2)
    (t3 : DataW.trod enc Try.prog W base spare true n 22 [v3] = some y3) (t4 : DataW.trod enc Try.prog W base spare true n 22 [v4] = some y4) (hw4 : ∀ k ∈ y4.1.weights Try.prog 22, k ≤ reachBytes) :
    ∃ x : Ac, x.ok W W.heap.size ∧ x.cells = [v0, v1, v2, v3, v4] := by
  obtain ⟨n0, e0, _, w0⟩ := DataW.trod_int Try.underlying5 t0
  obtain ⟨n1, e1, _, w1⟩ := DataW.trod_int Try.underlying3 t1
  obtain ⟨n2, e2, _, w2⟩ := DataW.trod_int Try.underlying3 t2
  obtain ⟨A, m, c, zs, e3, h1, h2, h3, h4, h5⟩ := open_kfield Try.underlying22 Try.underlying5 (by kernel_rfl) t3
  obtain ⟨A', m', c', zs', e4, h1', h2', h3', h4', h5', h6'⟩ := open_kfieldS t4 hw4
  simp only [List.cons.injEq, and_true] at e0 e1 e2 e3 e4
  subst e0 e1 e2 e3 e4
  have b0 := bounds_u8 w0
  exact ⟨⟨n0, n1, n2, A, m, c, zs, A', m', c', zs'⟩, ⟨h4, h1, h2, h3, fun z hz => by have := bounds_u8 (h5 z hz); omega, h4', h1', h2', h3', fun z hz => by have := bounds_u8 (h5' z hz); omega, h6', by simp only; omega, by simp only; omega, w1, w2⟩, rfl⟩

end Go.Proofs.Ytjdknddnanopaaa
