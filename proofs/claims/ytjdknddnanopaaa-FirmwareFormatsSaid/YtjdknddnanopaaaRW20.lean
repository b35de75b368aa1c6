
/-
  The reference's flash: SetFuse.
-/
import Derived.Test.YtjdknddnanopaaaRW19
namespace Go.Proofs.Ytjdknddnanopaaa
open Go.RowKit
set_option linter.unusedVariables false

/-- X, and two blocks more. -/
def X2 (X : Nat → Prop) (N b : Nat) : Prop := X b ∨ b = N ∨ b = N + 1
theorem RdX.two {X : Nat → Prop} {w : World} {A : Option Addr} {xs : List Value} (h : RdX X w A xs) : RdX (X2 X w.heap.size) w A xs := fun hx => by
  obtain ⟨b, off, e, hlt, hn, hc⟩ := h hx
  exact ⟨b, off, e, hlt, fun h2 => by
    rcases h2 with h2 | h2 | h2
    · exact hn h2
    · omega
    · omega, hc⟩
theorem x2_lt {X : Nat → Prop} {N M : Nat} (h : ∀ b, X b → b < N) (hM : N + 1 < M) : ∀ b, X2 X N b → b < M := fun b hb => by
  rcases hb with hb | hb | hb
  · have := h b hb; omega
  · omega
  · omega
theorem x2_zero (X : Nat → Prop) (N : Nat) : X2 X N N := .inr (.inl rfl)
theorem x2_one (X : Nat → Prop) (N : Nat) : X2 X N (N + 1) := .inr (.inr rfl)

/-- The six cells of a struct. -/
def six (w : World) (B : Nat) (a b c d e f : Value) : Prop :=
  w.cell? ⟨B, 0, none⟩ = some a ∧ w.cell? ⟨B, 1, none⟩ = some b ∧ w.cell? ⟨B, 2, none⟩ = some c ∧ w.cell? ⟨B, 3, none⟩ = some d ∧ w.cell? ⟨B, 4, none⟩ = some e ∧ w.cell? ⟨B, 5, none⟩ = some f ∧ ∀ j, w.frozen? ⟨B, j, none⟩ = false
theorem six_new (w : World) (a b c d e f : Value) (t : TypeId) (B : Nat) (hB : B = w.heap.size) : six (w.alloc (.cells #[a, b, c, d, e, f] t)) B a b c d e f := by
  subst hB
  exact ⟨cell_new_at _ _ _ _ _ _ rfl rfl, cell_new_at _ _ _ _ _ _ rfl rfl, cell_new_at _ _ _ _ _ _ rfl rfl, cell_new_at _ _ _ _ _ _ rfl rfl, cell_new_at _ _ _ _ _ _ rfl rfl, cell_new_at _ _ _ _ _ _ rfl rfl, fun j => frozen_row (heap_new w _ t)⟩
theorem six.below {w w' : World} {B N : Nat} {a b c d e f : Value} (h : six w B a b c d e f) (hb : Below N w w') (hB : B < N) : six w' B a b c d e f :=
  ⟨(hb.cell (p := ⟨B, 0, none⟩) hB).trans h.1, (hb.cell (p := ⟨B, 1, none⟩) hB).trans h.2.1, (hb.cell (p := ⟨B, 2, none⟩) hB).trans h.2.2.1, (hb.cell (p := ⟨B, 3, none⟩) hB).trans h.2.2.2.1, (hb.cell (p := ⟨B, 4, none⟩) hB).trans h.2.2.2.2.1, (hb.cell (p := ⟨B, 5, none⟩) hB).trans h.2.2.2.2.2.1, fun j => (hb.frozen (p := ⟨B, j, none⟩) hB).trans (h.2.2.2.2.2.2 j)⟩
theorem six.lt {w : World} {B : Nat} {a b c d e f : Value} (h : six w B a b c d e f) : B < w.heap.size := World.block_lt_of_cell? w _ h.1

/-- The two structs that a function of the reference lays at its start: what came, and the result. -/
theorem two_six (w : World) (a b c d e f a' b' c' d' e' f' : Value) (t u : TypeId) :
    six ((w.alloc (.cells #[a, b, c, d, e, f] t)).alloc (.cells #[a', b', c', d', e', f'] u)) w.heap.size a b c d e f ∧ six ((w.alloc (.cells #[a, b, c, d, e, f] t)).alloc (.cells #[a', b', c', d', e', f'] u)) (w.heap.size + 1) a' b' c' d' e' f' := by
  have hs := World.size_alloc w (.cells #[a, b, c, d, e, f] t)
  exact ⟨(six_new w a b c d e f t _ rfl).below ((Below.refl _ _).alloc (Nat.le_refl _) _) (by omega), six_new _ _ _ _ _ _ _ _ _ hs.symm⟩

end Go.Proofs.Ytjdknddnanopaaa
