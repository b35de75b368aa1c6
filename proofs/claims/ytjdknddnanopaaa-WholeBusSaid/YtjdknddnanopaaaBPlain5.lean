
/-
  The first object with a key, step by step; a list's memory apart from one block.
-/
import Derived.Test.YtjdknddnanopaaaBPlain3
namespace Go.Proofs.Ytjdknddnanopaaa.Bus
open Go.RowKit

theorem locO_nil (i s : Int) : locO [] i s = none := rfl
theorem hasO_nil (i : Int) : hasO [] i = false := rfl

theorem locO_hit {l : List Ob} {k : Nat} {x : Ob} {i s : Int} (h : locO (l.take k) i s = none) (hx : l[k]? = some x) (h1 : x.i = i) (h2 : x.s = s) : locO l i s = some k := by
  have hk := (List.getElem?_eq_some_iff.1 hx)
  obtain ⟨hk, he⟩ := hk
  unfold locO
  rw [List.findIdx?_eq_some_iff_getElem]
  refine ⟨hk, by rw [he]; simp [h1, h2], fun j hj => ?_⟩
  have := locO_none h (l[j]'(by omega)) (List.mem_of_getElem? (i := j) (by rw [List.getElem?_take, if_pos hj]; exact List.getElem?_eq_getElem (by omega)))
  simpa using this

theorem locO_miss {l : List Ob} {k : Nat} {x : Ob} {i s : Int} (h : locO (l.take k) i s = none) (hx : l[k]? = some x) (h1 : ¬ (x.i = i ∧ x.s = s)) : locO (l.take (k + 1)) i s = none := by
  rw [take_snoc_get l k x hx]
  unfold locO at h ⊢
  rw [List.findIdx?_eq_none_iff] at h ⊢
  intro y hy
  rcases List.mem_append.1 hy with hy | hy
  · exact h y hy
  · obtain rfl : y = x := by simpa using hy
    simpa using h1

theorem hasO_snoc {l : List Ob} {k : Nat} {x : Ob} (i : Int) (hx : l[k]? = some x) : hasO (l.take (k + 1)) i = (hasO (l.take k) i || decide (x.i = i)) := by
  rw [take_snoc_get l k x hx]
  simp [hasO]

/-- The address leads to these cells, in a block that is not g. -/
def RdN (w : World) (g : Nat) (A : Option Addr) (xs : List Value) : Prop :=
  xs ≠ [] → ∃ b off, A = some ⟨b, off, none⟩ ∧ b < w.heap.size ∧ b ≠ g ∧ ∀ j u, xs[j]? = some u → w.cell? ⟨b, off + j, none⟩ = some u

theorem RdN.rd {w : World} {g : Nat} {A : Option Addr} {xs : List Value} (h : RdN w g A xs) : Rd w w.heap.size A xs := fun hx => by
  obtain ⟨b, off, e, hlt, _, hc⟩ := h hx
  exact ⟨b, off, e, hlt, hc⟩
theorem RdN.grown {w w' : World} {g : Nat} {A : Option Addr} {xs : List Value} (h : RdN w g A xs) (hg : w.grownBy w' (some g)) : RdN w' g A xs := fun hx => by
  obtain ⟨b, off, e, hlt, hne, hc⟩ := h hx
  exact ⟨b, off, e, Nat.lt_of_lt_of_le hlt hg.size, hne, fun j u hu => hg.cell (hc j u hu) (fun e => hne (by simpa using e))⟩
theorem RdN.below {w w' : World} {g : Nat} {A : Option Addr} {xs : List Value} (h : RdN w g A xs) (hb : Below w.heap.size w w') : RdN w' g A xs := fun hx => by
  obtain ⟨b, off, e, hlt, hne, hc⟩ := h hx
  exact ⟨b, off, e, Nat.lt_of_lt_of_le hlt hb.size, hne, fun j u hu => (hb.cell (p := ⟨b, off + j, none⟩) hlt).trans (hc j u hu)⟩
theorem Rd.apart {w : World} {g B : Nat} {A : Option Addr} {xs : List Value} (h : Rd w B A xs) (hB : B ≤ g) (hg : g ≤ w.heap.size) : RdN w g A xs := fun hx => by
  obtain ⟨b, off, e, hlt, hc⟩ := h hx
  exact ⟨b, off, e, by omega, by omega, hc⟩
/-- A row of one's own that is made behind g. -/
theorem own_apart {w : World} {base g : Nat} {e : TypeId} {size : Nat} {A : Option Addr} {n c : Nat} {xs : List Value} (h : w.ownsRow base e size (.slice A n c) n xs) (hg : g < base) : RdN w g A xs := fun hx => by
  rcases h.2 with ⟨h1, h0⟩ | ⟨b, cap, cur, h1, hb, hgb, hnc, hcm, hcs, htake⟩
  · have := h.1
    simp only [Value.slice.injEq] at h1
    subst h0
    exact absurd (List.eq_nil_of_length_eq_zero (by simpa using this)) hx
  · simp only [Value.slice.injEq] at h1
    obtain ⟨rfl, _, rfl⟩ := h1
    refine ⟨b, 0, rfl, (Array.getElem?_eq_some_iff.1 hgb).1, by omega, fun j u hu => ?_⟩
    rw [Nat.zero_add, cell_of_row w b j cur e (0, 0) hgb]
    rw [← htake, List.getElem?_take] at hu
    split at hu
    · simpa using hu
    · cases hu
end Go.Proofs.Ytjdknddnanopaaa.Bus
