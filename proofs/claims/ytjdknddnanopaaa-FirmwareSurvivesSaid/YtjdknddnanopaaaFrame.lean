
/-
  Arguments that are slices, opened.
-/
import Derived.Test.YtjdknddnanopaaaChecked
import Derived.Test.YtjdknddnanopaaaMa
import Derived.Deep.Grids
import Derived.WalkKit
import Derived.ProofKit
import Derived.OpenShut
import Derived.ShutString
import Derived.ChangeOld
import Derived.Below
import Derived.Deep.Slices
import Derived.Deep.Fields
import Derived.ChangeSame
namespace Go.Proofs.Ytjdknddnanopaaa
open Go.ChangeShapes Go.WideShapes Go.ChangeAt Go.RowKit Go.Deep

section
variable {H : Type} {enc : TypeId × Value → H} {P : Program} {w : World} {base : Nat} {spare : Nat → Bool} {held : Bool}
theorem open_slice_fields {t e : TypeId} {fs : Array Field} {fuel : Nat} {cs : List Value} {x : DataW H × List MemPlace} (ht : P.underlying t = some (.slice e)) (he : P.underlying e = some (.struct fs))
    (hone : oneCellFields P fs = true) (hC : P.cellsOf e = fs.size) (h : DataW.trod enc P w base spare held fuel t cs = some x) :
    (cs = [.slice none 0 0] ∧ x = (.nil, [])) ∨
    ∃ (a : Addr) (len cap m : Nat) (D : Nat → DataW H) (Pl : Nat → List MemPlace), cs = [.slice (some a) len cap] ∧ base ≤ a.block ∧ len ≤ cap ∧ cap ≤ maxLen ∧ m = (if spare a.block then cap else len) ∧
      x = (.slice ((List.range len).map D) ((List.range (m - len)).map fun j => D (len + j)), MemPlace.row a (m * fs.size) ++ (List.range m).flatMap Pl) ∧
      ∀ i, i < m → ∃ (ys : List (DataW H × List MemPlace)) (n : Nat), D i = .agg (ys.map (·.1)) ∧ Pl i = ys.flatMap (·.2) ∧ ys.length = fs.size ∧
        ∀ (j : Nat) (f : Field), fs[j]? = some f → ∃ (v : Value) (y : DataW H × List MemPlace), w.cell? (a.add (i * fs.size + j)) = some v ∧ ys[j]? = some y ∧ DataW.trod enc P w base spare held n f.type [v] = some y := by
  rcases open_slice ht h with h0 | ⟨a, len, cap, m, n, D, Pl, hcs, hb, hl, hm, hmm, hx, hi⟩
  · exact .inl h0
  · refine .inr ⟨a, len, cap, m, D, Pl, hcs, hb, hl, hm, hmm, by rw [hC] at hx; exact hx, fun i him => ?_⟩
    obtain ⟨cs', hc, ht'⟩ := hi i him
    rw [hC] at hc
    obtain ⟨ys, n', hn', hy, hlen, hyl, hf⟩ := DataW.trod_struct he ht'
    obtain ⟨_, hcl, hat⟩ := World.cells?_some hc
    simp only [Prod.mk.injEq] at hy
    refine ⟨ys, n', hy.1, hy.2, hyl, fun j f hj => ?_⟩
    obtain ⟨ho, hk⟩ := hone_of hone j f hj
    have hjl : j < fs.size := (Array.getElem?_eq_some_iff.1 hj).1
    have hcell := hat j hjl
    have hv : cs'[j]? = some (cs'[j]'(by omega)) := List.getElem?_eq_getElem (by omega)
    have h1 := hf j f hj
    rw [ho, hk] at h1
    have hone' : (cs'.drop j).take 1 = [cs'[j]'(by omega)] := by
      rw [List.drop_eq_getElem_cons (by omega)]
      rfl
    rw [hone'] at h1
    have hys : ys[j]? = some (ys[j]'(by omega)) := List.getElem?_eq_getElem (by omega)
    refine ⟨_, _, ?_, hys, h1.trans hys⟩
    rw [← Go.Deep.add_add, hcell, hv]
end

theorem list_of_each {α : Type} (P : Nat → α → Prop) : ∀ (n : Nat), (∀ i, i < n → ∃ x, P i x) → ∃ l : List α, l.length = n ∧ ∀ i x, l[i]? = some x → P i x
  | 0, _ => ⟨[], rfl, fun i x h => by simp at h⟩
  | n + 1, h => by
    obtain ⟨l, hl, hp⟩ := list_of_each P n (fun i hi => h i (by omega))
    obtain ⟨x, hx⟩ := h n (by omega)
    refine ⟨l ++ [x], by simp [hl], fun i y hy => ?_⟩
    rw [List.getElem?_append] at hy
    split at hy
    · exact hp i y hy
    · have : i = n := by
        have := (List.getElem?_eq_some_iff.1 hy).1
        simp at this
        omega
      subst this
      simp [hl] at hy
      subst hy
      exact hx

theorem flat_get_inv {α β : Type} (f : α → List β) (m : Nat) (hm : ∀ a, (f a).length = m) (hm0 : 0 < m) :
    ∀ (l : List α) (j : Nat) (u : β), (l.flatMap f)[j]? = some u → ∃ x, l[j / m]? = some x ∧ (f x)[j % m]? = some u
  | [], j, u, h => by simp at h
  | a :: l, j, u, h => by
    simp only [List.flatMap_cons] at h
    by_cases hj : j < m
    · rw [List.getElem?_append_left (by rw [hm]; exact hj)] at h
      exact ⟨a, by rw [Nat.div_eq_of_lt hj]; rfl, by rw [Nat.mod_eq_of_lt hj]; exact h⟩
    · rw [List.getElem?_append_right (by rw [hm]; omega), hm] at h
      obtain ⟨x, hx, hu⟩ := flat_get_inv f m hm hm0 l (j - m) u h
      refine ⟨x, ?_, ?_⟩
      · rw [Nat.div_eq_sub_div hm0 (by omega)]
        simpa using hx
      · rw [Nat.mod_eq_sub_mod (by omega)]
        exact hu

theorem rd_of_cells {w : World} {a : Addr} {xs : List Value} (key : ∀ j u, xs[j]? = some u → w.cell? (a.add j) = some u) : Rd w w.heap.size (some a) xs := by
  intro hne
  obtain ⟨u, hu⟩ : ∃ u, xs[0]? = some u := by
    cases e : xs with
    | nil => exact absurd e hne
    | cons u r => exact ⟨u, rfl⟩
  obtain ⟨b, off, spot⟩ := a
  have hc := key 0 u hu
  have hspot : spot = none := by simpa [Addr.add] using World.cell?_spot hc
  subst hspot
  refine ⟨b, off, rfl, ?_, fun j u hu => ?_⟩
  · have := World.block_lt_of_cell? w _ hc
    simpa [Addr.add] using this
  · have := key j u hu
    rwa [Addr.add_lit] at this

theorem rd_of_flat {α : Type} (f : α → List Value) (m : Nat) (hm : ∀ a, (f a).length = m) (hm0 : 0 < m) {w : World} {a : Addr} {l : List α}
    (h : ∀ i x, l[i]? = some x → ∀ j u, (f x)[j]? = some u → w.cell? (a.add (i * m + j)) = some u) : Rd w w.heap.size (some a) (l.flatMap f) := by
  refine rd_of_cells fun j u hu => ?_
  obtain ⟨x, hx, hu'⟩ := flat_get_inv f m hm hm0 l j u hu
  have := h _ _ hx _ _ hu'
  rwa [show j / m * m + j % m = j by rw [Nat.mul_comm]; exact Nat.div_add_mod j m] at this

def Fits (n : Int) : Prop := -9223372036854775808 ≤ n ∧ n ≤ 9223372036854775807

theorem fits_of_wf {n : Int} (h : (Lit.int .i64 n).wf = true) : Fits n := by
  simpa [Fits] using bounds_i64 h

set_option maxRecDepth 100000 in
theorem open_kints {H : Type} {enc : TypeId × Value → H} {W : World} {v : Value} {d : DataW H} {p : List MemPlace} {base b0 : Nat} {spare : Nat → Bool} {r : Reach} {t e : TypeId} {k : IntKind}
    (ht : Try.prog.underlying t = some (.slice e)) (he : Try.prog.underlying e = some (.int k)) (hC : Try.prog.cellsOf e = 1)
    (hv : Value.okWide Try.prog W r b0 t v) (h : DataW.Trod enc Try.prog W base spare true t v d p) :
    ∃ (A : Option Addr) (n c : Nat) (zs : List Int), v = .slice A n c ∧ zs.length = n ∧ n ≤ c ∧ c ≤ maxLen ∧ Rd W W.heap.size A (kcells k zs) ∧ ∀ z ∈ zs, (Lit.int k z).wf = true := by
  obtain ⟨a0, len0, cap0, rfl⟩ := okWide_slice ht hv
  obtain ⟨fuel, hf⟩ := h
  rcases open_ints ht he hC hf with ⟨hcs, _⟩ | ⟨x, l, c, zs, hcs, _, hl, hm, hz, _, hcell, hwz⟩
  · simp [Value.cells] at hcs
    obtain ⟨rfl, rfl, rfl⟩ := hcs
    exact ⟨none, 0, 0, [], rfl, rfl, Nat.le_refl _, Nat.zero_le _, fun h => absurd rfl h, fun x hx => by simp at hx⟩
  · simp [Value.cells] at hcs
    obtain ⟨rfl, rfl, rfl⟩ := hcs
    have hlen : len0 ≤ zs.length := by
      rw [hz]
      split <;> omega
    refine ⟨some x, len0, cap0, zs.take len0, rfl, by simp; omega, hl, hm, ?_, fun z hz => hwz z (List.mem_of_mem_take hz)⟩
    have key : ∀ j u, (kcells k (zs.take len0))[j]? = some u → W.cell? (x.add j) = some u := by
      intro j u hu
      simp only [kcells, List.map_take, List.getElem?_take] at hu
      split at hu
      · rename_i hj
        have hjz : j < zs.length := by omega
        rw [List.getElem?_map, List.getElem?_eq_getElem hjz] at hu
        simp at hu
        subst hu
        rw [hcell j hjz]
        simp [List.getD_eq_getElem?_getD, List.getElem?_eq_getElem hjz]
      · cases hu
    intro hne
    obtain ⟨u, hu⟩ : ∃ u, (kcells k (zs.take len0))[0]? = some u := by
      cases e : kcells k (zs.take len0) with
      | nil => exact absurd e hne
      | cons u r => exact ⟨u, rfl⟩
    obtain ⟨b, off, spot⟩ := x
    have hc := key 0 u hu
    have hspot : spot = none := by simpa [Addr.add] using World.cell?_spot hc
    subst hspot
    refine ⟨b, off, rfl, ?_, fun j u hu => ?_⟩
    · have := World.block_lt_of_cell? W _ hc
      simpa [Addr.add] using this
    · have := key j u hu
      rwa [Addr.add_lit] at this

set_option maxRecDepth 100000 in
/-- A slice of integers as a field. -/
theorem open_kfield {H : Type} {enc : TypeId × Value → H} {W : World} {cs : List Value} {x : DataW H × List MemPlace} {base : Nat} {spare : Nat → Bool} {fuel : Nat} {t e : TypeId} {k : IntKind}
    (ht : Try.prog.underlying t = some (.slice e)) (he : Try.prog.underlying e = some (.int k)) (hC : Try.prog.cellsOf e = 1)
    (hf : DataW.trod enc Try.prog W base spare true fuel t cs = some x) :
    ∃ (A : Option Addr) (n c : Nat) (zs : List Int), cs = [.slice A n c] ∧ zs.length = n ∧ n ≤ c ∧ c ≤ maxLen ∧ Rd W W.heap.size A (kcells k zs) ∧ ∀ z ∈ zs, (Lit.int k z).wf = true := by
  rcases open_ints ht he hC hf with ⟨hcs, _⟩ | ⟨a, l, c, zs, hcs, _, hl, hm, hz, _, hcell, hwz⟩
  · exact ⟨none, 0, 0, [], hcs, rfl, Nat.le_refl _, Nat.zero_le _, fun h => absurd rfl h, fun x hx => by simp at hx⟩
  · have hlen : l ≤ zs.length := by
      rw [hz]
      split <;> omega
    refine ⟨some a, l, c, zs.take l, hcs, by simp; omega, hl, hm, rd_of_cells fun j u hu => ?_, fun z hz => hwz z (List.mem_of_mem_take hz)⟩
    simp only [kcells, List.map_take, List.getElem?_take] at hu
    split at hu
    · rename_i hj
      have hjz : j < zs.length := by omega
      rw [List.getElem?_map, List.getElem?_eq_getElem hjz] at hu
      simp at hu
      subst hu
      rw [hcell j hjz]
      simp [List.getD_eq_getElem?_getD, List.getElem?_eq_getElem hjz]
    · cases hu

set_option maxRecDepth 100000 in
theorem open_arr2 {H : Type} {enc : TypeId × Value → H} {W : World} {v : Value} {d : DataW H} {p : List MemPlace} {base b0 : Nat} {spare : Nat → Bool} {r : Reach} {t e : TypeId} {k : IntKind}
    (ht : Try.prog.underlying t = some (.array 2 e)) (he : Try.prog.underlying e = some (.int k)) (hC : Try.prog.cellsOf e = 1) (hC2 : Try.prog.cellsOf t = 2)
    (hv : Value.okWide Try.prog W r b0 t v) (h : DataW.Trod enc Try.prog W base spare true t v d p) :
    ∃ (x y : Int), v = .agg #[.int k x, .int k y] ∧ (Lit.int k x).wf = true ∧ (Lit.int k y).wf = true := by
  obtain ⟨cs, rfl, hsz⟩ : ∃ cs, v = .agg cs ∧ cs.size = Try.prog.cellsOf t := by
    simp only [Value.okWide, ht] at hv
    obtain ⟨cs, h1, h2, _⟩ := hv
    exact ⟨cs, h1, h2⟩
  obtain ⟨fuel, hf⟩ := h
  obtain ⟨xs, m, _, _, _, hx, hg⟩ := DataW.trod_array ht hf
  obtain ⟨cl⟩ := cs
  rw [hC2] at hsz
  match cl, hsz with
  | [u, v], _ =>
    have g0 := hg 0 (by omega)
    have g1 := hg 1 (by omega)
    rw [hC] at g0 g1
    obtain ⟨y0, hy0⟩ : ∃ y, xs[0]? = some y := ⟨_, List.getElem?_eq_getElem (by omega)⟩
    obtain ⟨y1, hy1⟩ : ∃ y, xs[1]? = some y := ⟨_, List.getElem?_eq_getElem (by omega)⟩
    rw [hy0] at g0
    rw [hy1] at g1
    have e0 : ((Value.agg ⟨[u, v]⟩).cells.toList.drop (0 * 1)).take 1 = [u] := rfl
    have e1 : ((Value.agg ⟨[u, v]⟩).cells.toList.drop (1 * 1)).take 1 = [v] := rfl
    rw [e0] at g0
    rw [e1] at g1
    obtain ⟨a, ea, _, wa⟩ := DataW.trod_int he g0
    obtain ⟨b, eb, _, wb⟩ := DataW.trod_int he g1
    simp only [List.cons.injEq, and_true] at ea eb
    subst ea eb
    exact ⟨a, b, rfl, wa, wb⟩

set_option maxRecDepth 100000 in
/-- An argument that is a slice of truth values. -/
theorem open_bools0 {H : Type} {enc : TypeId × Value → H} {W : World} {v : Value} {d : DataW H} {p : List MemPlace} {base b0 : Nat} {r : Reach} {t e : TypeId}
    (ht : Try.prog.underlying t = some (.slice e)) (he : Try.prog.underlying e = some .bool) (hC : Try.prog.cellsOf e = 1)
    (hv : Value.okWide Try.prog W r b0 t v) (h : DataW.Trod enc Try.prog W base (fun _ => true) true t v d p) :
    ∃ (A : Option Addr) (n c : Nat) (bs : List Bool), v = .slice A n c ∧ bs.length = n ∧ n ≤ c ∧ c ≤ maxLen ∧ Rd W W.heap.size A (bs.map Value.bool) := by
  obtain ⟨a0, len0, cap0, rfl⟩ := okWide_slice ht hv
  obtain ⟨fuel, hf⟩ := h
  rcases open_bools ht he hC hf with ⟨hcs, _⟩ | ⟨a, len, cap, B, hcs, _, hl, hm, _, hcell⟩
  · simp [Value.cells] at hcs
    obtain ⟨rfl, rfl, rfl⟩ := hcs
    exact ⟨none, 0, 0, [], rfl, rfl, Nat.le_refl _, Nat.zero_le _, fun h => absurd rfl h⟩
  · simp [Value.cells] at hcs
    obtain ⟨rfl, rfl, rfl⟩ := hcs
    refine ⟨some a, len0, cap0, (List.range len0).map B, rfl, by simp, hl, hm, rd_of_cells fun j u hu => ?_⟩
    by_cases hj : j < len0
    · simp [hj] at hu
      subst hu
      exact hcell j (by omega)
    · simp [hj] at hu
end Go.Proofs.Ytjdknddnanopaaa
