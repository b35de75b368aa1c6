
/-
  Arguments that are slices, opened.
-/
import Derived.Test.YtjdknddnanopaaaChecked
import Derived.Test.YtjdknddnanopaaaMa
import Derived.Deep.Grids
import Derived.WalkKit
import Derived.ProofKit
import Derived.OpenShut
import Derived.ShutString
import Derived.ChangeOld
import Derived.Below
import Derived.Deep.Slices
import Derived.Deep.Fields
import Derived.ChangeSame
namespace Go.Proofs.Ytjdknddnanopaaa
open Go.ChangeShapes Go.WideShapes Go.ChangeAt Go.RowKit Go.Deep

section
variable {H : Type} {enc : TypeId × Value → H} {P : Program} {w : World} {base : Nat} {spare : Nat → Bool} {held : Bool}
end

set_option maxRecDepth 100000 in
theorem open_kints {H : Type} {enc : TypeId × Value → H} {W : World} {v : Value} {d : DataW H} {p : List MemPlace} {base b0 : Nat} {spare : Nat → Bool} {r : Reach} {t e : TypeId} {k : IntKind}
    (ht : Try.prog.underlying t = some (.slice e)) (he : Try.prog.underlying e = some (.int k)) (hC : Try.prog.cellsOf e = 1)
    (hv : Value.okWide Try.prog W r b0 t v) (h : DataW.Trod enc Try.prog W base spare true t v d p) :
    ∃ (A : Option Addr) (n c : Nat) (zs : List Int), v = .slice A n c ∧ zs.length = n ∧ n ≤ c ∧ c ≤ maxLen ∧ Rd W W.heap.size A (kcells k zs) ∧ ∀ z ∈ zs, (Lit.int k z).wf = true := by
  obtain ⟨a0, len0, cap0, rfl⟩ := okWide_slice ht hv
  obtain ⟨fuel, hf⟩ := h
  rcases open_ints ht he hC hf with ⟨hcs, _⟩ | ⟨x, l, c, zs, hcs, _, hl, hm, hz, _, hcell, hwz⟩
  · simp [Value.cells] at hcs
    obtain ⟨rfl, rfl, rfl⟩ := hcs
    exact ⟨none, 0, 0, [], rfl, rfl, Nat.le_refl _, Nat.zero_le _, fun h => absurd rfl h, fun x hx => by simp at hx⟩
  · simp [Value.cells] at hcs
    obtain ⟨rfl, rfl, rfl⟩ := hcs
    have hlen : len0 ≤ zs.length := by
      rw [hz]
      split <;> omega
    refine ⟨some x, len0, cap0, zs.take len0, rfl, by simp; omega, hl, hm, ?_, fun z hz => hwz z (List.mem_of_mem_take hz)⟩
    have key : ∀ j u, (kcells k (zs.take len0))[j]? = some u → W.cell? (x.add j) = some u := by
      intro j u hu
      simp only [kcells, List.map_take, List.getElem?_take] at hu
      split at hu
      · rename_i hj
        have hjz : j < zs.length := by omega
        rw [List.getElem?_map, List.getElem?_eq_getElem hjz] at hu
        simp at hu
        subst hu
        rw [hcell j hjz]
        simp [List.getD_eq_getElem?_getD, List.getElem?_eq_getElem hjz]
      · cases hu
    intro hne
    obtain ⟨u, hu⟩ : ∃ u, (kcells k (zs.take len0))[0]? = some u := by
      cases e : kcells k (zs.take len0) with
      | nil => exact absurd e hne
      | cons u r => exact ⟨u, rfl⟩
    obtain ⟨b, off, spot⟩ := x
    have hc := key 0 u hu
    have hspot : spot = none := by simpa [Addr.add] using World.cell?_spot hc
    subst hspot
    refine ⟨b, off, rfl, ?_, fun j u hu => ?_⟩
    · have := World.block_lt_of_cell? W _ hc
      simpa [Addr.add] using this
    · have := key j u hu
      rwa [Addr.add_lit] at this

end Go.Proofs.Ytjdknddnanopaaa
