/-
  Arguments that are acts, items, structs with a slice, opened.
-/
import Derived.Test.YtfeceamhlphelaaFrame
import Derived.Test.YtfeceamhlphelaaMa
import Derived.SizedLaws
namespace Go.Proofs.Ytfeceamhlphelaa
open Go.ChangeShapes Go.WideShapes Go.ChangeAt Go.RowKit Go.Deep

theorem weights_elem {H : Type} {P : Program} {e : TypeId} : ∀ {l : List (DataW H)} {i : Nat} {d : DataW H}, l[i]? = some d → ∀ n ∈ d.weights P e, n ∈ DataW.weightsAll P e l
  | [], _, _, h, _, _ => by simp at h
  | x :: l, 0, d, h, n, hn => by
    simp at h
    subst h
    simp only [DataW.weightsAll, List.mem_append]
    exact Or.inl hn
  | x :: l, i + 1, d, h, n, hn => by
    simp only [DataW.weightsAll, List.mem_append]
    exact Or.inr (weights_elem (by simpa using h) n hn)

set_option maxRecDepth 100000 in
/-- A slice of bytes as a field, with its size. -/
theorem open_kfieldS {H : Type} {enc : TypeId × Value → H} {W : World} {cs : List Value} {x : DataW H × List MemPlace} {base : Nat} {spare : Nat → Bool} {fuel : Nat}
    (hf : DataW.trod enc Try.prog W base spare true fuel 23 cs = some x) (hw : ∀ k ∈ x.1.weights Try.prog 23, k ≤ reachBytes) :
    ∃ (A : Option Addr) (n c : Nat) (zs : List Int), cs = [.slice A n c] ∧ zs.length = n ∧ n ≤ c ∧ c ≤ maxLen ∧ Rd W W.heap.size A (kcells .u8 zs) ∧ (∀ z ∈ zs, (Lit.int .u8 z).wf = true) ∧ n ≤ 140737488351232 := by
  have hb : Try.prog.bytesOf 5 = 1 := by kernel_rfl
  rcases open_ints Try.underlying23 Try.underlying5 (by kernel_rfl) hf with ⟨hcs, _⟩ | ⟨a, l, c, zs, hcs, _, hl, hm, hz, hxx, hcell, hwz⟩
  · exact ⟨none, 0, 0, [], hcs, rfl, Nat.le_refl _, Nat.zero_le _, fun h => absurd rfl h, fun x hx => by simp at hx, by omega⟩
  · have hlen : l ≤ zs.length := by
      rw [hz]
      split <;> omega
    have hsz : l ≤ 140737488351232 := by
      have h1 : ((lits (H := H) .u8 (zs.take l)).length + (lits (H := H) .u8 (zs.drop l)).length) * Try.prog.bytesOf 5 ∈ x.1.weights Try.prog 23 := by
        rw [hxx]
        simp only [DataW.weights, Try.underlying23]
        exact List.mem_cons_self
      have h2 := hw _ h1
      rw [hb] at h2
      simp only [lits, List.length_map, List.length_take, List.length_drop] at h2
      unfold reachBytes at h2
      omega
    refine ⟨some a, l, c, zs.take l, hcs, by simp; omega, hl, hm, rd_of_cells fun j u hu => ?_, fun z hz => hwz z (List.mem_of_mem_take hz), hsz⟩
    simp only [kcells, List.map_take, List.getElem?_take] at hu
    split at hu
    · rename_i hj
      have hjz : j < zs.length := by omega
      rw [List.getElem?_map, List.getElem?_eq_getElem hjz] at hu
      simp at hu
      subst hu
      rw [hcell j hjz]
      simp [List.getD_eq_getElem?_getD, List.getElem?_eq_getElem hjz]
    · cases hu

theorem ac_of {H : Type} {enc : TypeId × Value → H} {W : World} {base : Nat} {spare : Nat → Bool} {n : Nat} {v0 v1 v2 v3 v4 : Value} {y0 y1 y2 y3 y4 : DataW H × List MemPlace}
    (t0 : DataW.trod enc Try.prog W base spare true n 5 [v0] = some y0) (t1 : DataW.trod enc Try.prog W base spare true n 3 [v1] = some y1) (t2 : DataW.trod enc Try.prog W base spare true n 3 [v2] = some y2)
    (t3 : DataW.trod enc Try.prog W base spare true n 23 [v3] = some y3) (t4 : DataW.trod enc Try.prog W base spare true n 23 [v4] = some y4) (hw4 : ∀ k ∈ y4.1.weights Try.prog 23, k ≤ reachBytes) :
    ∃ x : Ac, x.ok W W.heap.size ∧ x.cells = [v0, v1, v2, v3, v4] := by
  obtain ⟨n0, e0, _, w0⟩ := DataW.trod_int Try.underlying5 t0
  obtain ⟨n1, e1, _, w1⟩ := DataW.trod_int Try.underlying3 t1
  obtain ⟨n2, e2, _, w2⟩ := DataW.trod_int Try.underlying3 t2
  obtain ⟨A, m, c, zs, e3, h1, h2, h3, h4, h5⟩ := open_kfield Try.underlying23 Try.underlying5 (by kernel_rfl) t3
  obtain ⟨A', m', c', zs', e4, h1', h2', h3', h4', h5', h6'⟩ := open_kfieldS t4 hw4
  simp only [List.cons.injEq, and_true] at e0 e1 e2 e3 e4
  subst e0 e1 e2 e3 e4
  have b0 := bounds_u8 w0
  exact ⟨⟨n0, n1, n2, A, m, c, zs, A', m', c', zs'⟩, ⟨h4, h1, h2, h3, fun z hz => by have := bounds_u8 (h5 z hz); omega, h4', h1', h2', h3', fun z hz => by have := bounds_u8 (h5' z hz); omega, h6', by simp only; omega, by simp only; omega, w1, w2⟩, rfl⟩

set_option maxRecDepth 100000 in
/-- An argument that is a slice of acts. -/
theorem open_acts {H : Type} {enc : TypeId × Value → H} {W : World} {v : Value} {d : DataW H} {p : List MemPlace} {base b0 : Nat} {spare : Nat → Bool} {r : Reach}
    (hv : Value.okWide Try.prog W r b0 50 v) (h : DataW.Trod enc Try.prog W base spare true 50 v d p) (hw : ∀ k ∈ d.weights Try.prog 50, k ≤ reachBytes) :
    ∃ (A : Option Addr) (n c : Nat) (l : List Ac), v = .slice A n c ∧ l.length = n ∧ n ≤ c ∧ c ≤ maxLen ∧ Rd W W.heap.size A (acells l) ∧ ∀ x ∈ l, x.ok W W.heap.size := by
  obtain ⟨a0, len0, cap0, rfl⟩ := okWide_slice Try.underlying50 hv
  obtain ⟨fuel, hf⟩ := h
  rcases open_slice_fields Try.underlying50 Try.underlying36 (by kernel_rfl) (by kernel_rfl) hf with ⟨hcs, _⟩ | ⟨a, len, cap, m, D, Pl, hcs, _, hlc, hcm, hm, hxx, hi⟩
  · simp [Value.cells] at hcs
    obtain ⟨rfl, rfl, rfl⟩ := hcs
    exact ⟨none, 0, 0, [], rfl, rfl, Nat.le_refl _, Nat.zero_le _, fun h => absurd rfl h, fun x hx => by simp at hx⟩
  · simp [Value.cells] at hcs
    obtain ⟨rfl, rfl, rfl⟩ := hcs
    have hml : len0 ≤ m := by rw [hm]; split <;> omega
    obtain ⟨l, hl, hp⟩ := list_of_each (fun (i : Nat) (x : Ac) => x.ok W W.heap.size ∧ ∀ j u, x.cells[j]? = some u → W.cell? (a.add (i * 5 + j)) = some u) len0 (fun i hi' => by
      obtain ⟨ys, n, hDi, _, _, hf⟩ := hi i (by omega)
      obtain ⟨v0, y0, c0, _, t0⟩ := hf 0 _ rfl
      obtain ⟨v1, y1, c1, _, t1⟩ := hf 1 _ rfl
      obtain ⟨v2, y2, c2, _, t2⟩ := hf 2 _ rfl
      obtain ⟨v3, y3, c3, _, t3⟩ := hf 3 _ rfl
      obtain ⟨v4, y4, c4, hy4, t4⟩ := hf 4 _ rfl
      obtain ⟨x, hx, hcs⟩ := ac_of t0 t1 t2 t3 t4 (fun k hk => by
        have hd : d = .slice ((List.range len0).map D) ((List.range (m - len0)).map fun j => D (len0 + j)) := by injection hxx
        refine hw k ?_
        rw [hd]
        simp only [DataW.weights, Try.underlying50]
        refine List.mem_cons_of_mem _ (List.mem_append_left _ (weights_elem (i := i) (d := D i) (by simp [hi']) k ?_))
        rw [hDi]
        simp only [DataW.weights, Try.underlying36]
        exact DataW.weights_mem_each (j := 4) (t := 23) (d := y4.1) rfl (by simp [hy4]) k hk)
      refine ⟨x, hx, fun j u hu => ?_⟩
      rw [hcs] at hu
      match j, hu with
      | 0, hu => obtain rfl : v0 = u := by simpa using hu
                 exact c0
      | 1, hu => obtain rfl : v1 = u := by simpa using hu
                 exact c1
      | 2, hu => obtain rfl : v2 = u := by simpa using hu
                 exact c2
      | 3, hu => obtain rfl : v3 = u := by simpa using hu
                 exact c3
      | 4, hu => obtain rfl : v4 = u := by simpa using hu
                 exact c4
      | j + 5, hu => simp at hu)
    refine ⟨some a, len0, cap0, l, rfl, hl, hlc, hcm, rd_of_flat Ac.cells 5 Ac.cells_length (by omega) (fun i x hx => (hp i x hx).2), fun x hx => ?_⟩
    obtain ⟨i, hi'⟩ := List.mem_iff_getElem?.1 hx
    exact (hp i x hi').1

set_option maxRecDepth 100000 in
/-- An argument that is two slices of bytes. -/
theorem open_sl2 {H : Type} {enc : TypeId × Value → H} {W : World} {v : Value} {d : DataW H} {p : List MemPlace} {base b0 : Nat} {spare : Nat → Bool} {r : Reach}
    (hv : Value.okWide Try.prog W r b0 24 v) (h : DataW.Trod enc Try.prog W base spare true 24 v d p) :
    ∃ (A : Option Addr) (n c : Nat) (l : List Int) (B : Option Addr) (n' c' : Nat) (l' : List Int), v = .agg #[.slice A n c, .slice B n' c'] ∧ l.length = n ∧ n ≤ c ∧ c ≤ maxLen ∧ Rd W W.heap.size A (kcells .u8 l) ∧ (∀ z ∈ l, 0 ≤ z ∧ z < 256) ∧
      l'.length = n' ∧ n' ≤ c' ∧ c' ≤ maxLen ∧ Rd W W.heap.size B (kcells .u8 l') ∧ ∀ z ∈ l', 0 ≤ z ∧ z < 256 := by
  obtain ⟨cs, rfl, hsz⟩ : ∃ cs, v = .agg cs ∧ cs.size = Try.prog.cellsOf 24 := by
    simp only [Value.okWide, Try.underlying24] at hv
    obtain ⟨cs, h1, h2, _⟩ := hv
    exact ⟨cs, h1, h2⟩
  have hC2 : Try.prog.cellsOf 24 = 2 := by kernel_rfl
  have hC : Try.prog.cellsOf 23 = 1 := by kernel_rfl
  obtain ⟨fuel, hf⟩ := h
  obtain ⟨xs, m, _, _, _, hx, hg⟩ := DataW.trod_array Try.underlying24 hf
  obtain ⟨cl⟩ := cs
  rw [hC2] at hsz
  match cl, hsz with
  | [u, v], _ =>
    have g0 := hg 0 (by omega)
    have g1 := hg 1 (by omega)
    rw [hC] at g0 g1
    obtain ⟨y0, hy0⟩ : ∃ y, xs[0]? = some y := ⟨_, List.getElem?_eq_getElem (by omega)⟩
    obtain ⟨y1, hy1⟩ : ∃ y, xs[1]? = some y := ⟨_, List.getElem?_eq_getElem (by omega)⟩
    rw [hy0] at g0
    rw [hy1] at g1
    have e0 : ((Value.agg ⟨[u, v]⟩).cells.toList.drop (0 * 1)).take 1 = [u] := rfl
    have e1 : ((Value.agg ⟨[u, v]⟩).cells.toList.drop (1 * 1)).take 1 = [v] := rfl
    rw [e0] at g0
    rw [e1] at g1
    obtain ⟨A, n, c, zs, ea, a1, a2, a3, a4, a5⟩ := open_kfield Try.underlying23 Try.underlying5 (by kernel_rfl) g0
    obtain ⟨B, n', c', zs', eb, b1, b2, b3, b4, b5⟩ := open_kfield Try.underlying23 Try.underlying5 (by kernel_rfl) g1
    simp only [List.cons.injEq, and_true] at ea eb
    subst ea eb
    exact ⟨A, n, c, zs, B, n', c', zs', rfl, a1, a2, a3, a4, fun z hz => by have := bounds_u8 (a5 z hz); omega, b1, b2, b3, b4, fun z hz => by have := bounds_u8 (b5 z hz); omega⟩
end Go.Proofs.Ytfeceamhlphelaa
