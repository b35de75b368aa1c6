
/-
  Four cells; slices beside a store.
-/
import Derived.Test.YtjdknddnanopaaaW55
import Derived.Deep.DeepCutAuto
import Derived.Deep.CutBlock
namespace Go.Proofs.Ytjdknddnanopaaa
open Go.RowKit
set_option linter.unusedVariables false

/-- Four cells. -/
def four (w : World) (B : Nat) (a b c d : Value) : Prop :=
  w.cell? ⟨B, 0, none⟩ = some a ∧ w.cell? ⟨B, 1, none⟩ = some b ∧ w.cell? ⟨B, 2, none⟩ = some c ∧ w.cell? ⟨B, 3, none⟩ = some d ∧ ∀ j, w.frozen? ⟨B, j, none⟩ = false
theorem set_far4 (w : World) (p q : Addr) (u : Value) (h : p ≠ q) : (w.setCell p u).cell? q = w.cell? q := World.cell?_setCell_other _ _ _ _ h
theorem four_new (w : World) (a b c d : Value) (t : TypeId) (B : Nat) (hB : B = w.heap.size) : four (w.alloc (.cells #[a, b, c, d] t)) B a b c d := by
  subst hB
  exact ⟨cell_new_at _ _ _ _ _ _ rfl rfl, cell_new_at _ _ _ _ _ _ rfl rfl, cell_new_at _ _ _ _ _ _ rfl rfl, cell_new_at _ _ _ _ _ _ rfl rfl, fun j => frozen_row (heap_new w _ t)⟩
theorem four.lt {w : World} {B : Nat} {a b c d : Value} (h : four w B a b c d) : B < w.heap.size := World.block_lt_of_cell? w _ h.1
theorem four.below {w w' : World} {B N : Nat} {a b c d : Value} (h : four w B a b c d) (hb : Below N w w') (hB : B < N) : four w' B a b c d :=
  ⟨(hb.cell (p := ⟨B, 0, none⟩) hB).trans h.1, (hb.cell (p := ⟨B, 1, none⟩) hB).trans h.2.1, (hb.cell (p := ⟨B, 2, none⟩) hB).trans h.2.2.1, (hb.cell (p := ⟨B, 3, none⟩) hB).trans h.2.2.2.1, fun j => (hb.frozen (p := ⟨B, j, none⟩) hB).trans (h.2.2.2.2 j)⟩
def put4 (w : World) (B : Nat) (a b c d : Value) : World := (((w.setCell ⟨B, 0, none⟩ a).setCell ⟨B, 1, none⟩ b).setCell ⟨B, 2, none⟩ c).setCell ⟨B, 3, none⟩ d
theorem four.put {w : World} {B : Nat} {a b c d : Value} (h : four w B a b c d) (a' b' c' d' : Value) : four (put4 w B a' b' c' d') B a' b' c' d' := by
  obtain ⟨h0, h1, h2, h3, hf⟩ := h
  unfold put4
  refine ⟨?_, ?_, ?_, ?_, fun j => by rw [World.frozen?_setCell, World.frozen?_setCell, World.frozen?_setCell, World.frozen?_setCell]; exact hf j⟩
  · rw [set_far4 _ _ _ _ (by simp), set_far4 _ _ _ _ (by simp), set_far4 _ _ _ _ (by simp)]
    exact World.cell?_setCell_same _ _ _ h0
  · rw [set_far4 _ _ _ _ (by simp), set_far4 _ _ _ _ (by simp)]
    exact World.cell?_setCell_same _ _ _ ((set_far4 _ _ _ _ (by simp)).trans h1)
  · rw [set_far4 _ _ _ _ (by simp)]
    exact World.cell?_setCell_same _ _ _ ((set_far4 _ _ _ _ (by simp)).trans ((set_far4 _ _ _ _ (by simp)).trans h2))
  · exact World.cell?_setCell_same _ _ _ ((set_far4 _ _ _ _ (by simp)).trans ((set_far4 _ _ _ _ (by simp)).trans ((set_far4 _ _ _ _ (by simp)).trans h3)))
/-- A slice of values. -/
def SlV (X : Nat → Prop) (w : World) (N : Nat) (l : List Int) (v : Value) : Prop :=
  ∃ A c, v = .slice A N c ∧ l.length = N ∧ N ≤ c ∧ c ≤ maxLen ∧ RdX X w A (icells l)
theorem SlV.onlyX {X : Nat → Prop} {w w' : World} {N : Nat} {l : List Int} {v : Value} (h : SlV X w N l v) (k : OnlyX X w w') : SlV X w' N l v := by
  obtain ⟨A, c, h1, h2, h3, h4, h5⟩ := h
  exact ⟨A, c, h1, h2, h3, h4, h5.onlyX k⟩
theorem SlV.newX {X Y : Nat → Prop} {w : World} {N : Nat} {l : List Int} {v : Value} (h : SlV X w N l v) (hY : ∀ b, b < w.heap.size → Y b → X b) : SlV Y w N l v := by
  obtain ⟨A, c, h1, h2, h3, h4, h5⟩ := h
  exact ⟨A, c, h1, h2, h3, h4, h5.newX hY⟩
theorem SlV.own {X : Nat → Prop} {w w0 : World} {N e : Nat} {l : List Int} {v : Value} (h : w.ownsRow w0.heap.size e 1 v N (icells l)) (hl : l.length = N) (hX : ∀ b, X b → b < w0.heap.size) : SlV X w N l v := by
  obtain ⟨A, c, rfl, h1, h2, h3⟩ := own_form h
  exact ⟨A, c, rfl, hl, h1, h2, own_rdx h (fun b hb hx => by have := (h.lt b hb).1; have := hX b hx; omega)⟩
/-- Values, or none. -/
def WrV (X : Nat → Prop) (w : World) (N : Nat) (o : Option (List Int)) (v : Value) : Prop :=
  match o with
  | none => v = .slice none 0 0
  | some l => SlV X w N l v
theorem WrV.onlyX {X : Nat → Prop} {w w' : World} {N : Nat} {o : Option (List Int)} {v : Value} (h : WrV X w N o v) (k : OnlyX X w w') : WrV X w' N o v := by
  cases o with
  | none => exact h
  | some l => exact SlV.onlyX h k
theorem WrV.newX {X Y : Nat → Prop} {w : World} {N : Nat} {o : Option (List Int)} {v : Value} (h : WrV X w N o v) (hY : ∀ b, b < w.heap.size → Y b → X b) : WrV Y w N o v := by
  cases o with
  | none => exact h
  | some l => exact SlV.newX h hY
theorem SlV.some {X : Nat → Prop} {w : World} {N : Nat} {l : List Int} {v : Value} (h : SlV X w N l v) (h1 : 1 ≤ N) : ∃ b o c, v = .slice (some ⟨b, o, none⟩) N c := by
  obtain ⟨A, c, e, h2, h3, h4, h5⟩ := h
  obtain ⟨b, off, e', _⟩ := h5 (by intro e; have := icells_length l; rw [e] at this; simp at this; omega)
  exact ⟨b, off, c, by rw [e, e']⟩

end Go.Proofs.Ytjdknddnanopaaa
