
/-
  Four cells; slices beside a store.
-/
import Derived.Test.YtjdknddnanopaaaW55
import Derived.Deep.DeepCutAuto
import Derived.Deep.CutBlock
namespace Go.Proofs.Ytjdknddnanopaaa
open Go.RowKit
set_option linter.unusedVariables false

/-- Four cells. -/
def four (w : World) (B : Nat) (a b c d : Value) : Prop :=
  w.cell? ⟨B, 0, none⟩ = some a ∧ w.cell? ⟨B, 1, none⟩ = some b ∧ w.cell? ⟨B, 2, none⟩ = some c ∧ w.cell? ⟨B, 3, none⟩ = some d ∧ ∀ j, w.frozen? ⟨B, j, none⟩ = false
theorem set_far4 (w : World) (p q : Addr) (u : Value) (h : p ≠ q) : (w.setCell p u).cell? q = w.cell? q := World.cell?_setCell_other _ _ _ _ h
theorem four_new (w : World) (a b c d : Value) (t : TypeId) (B : Nat) (hB : B = w.heap.size) : four (w.alloc (.cells #[a, b, c, d] t)) B a b c d := by
  subst hB
  exact ⟨cell_new_at _ _ _ _ _ _ rfl rfl, cell_new_at _ _ _ _ _ _ rfl rfl, cell_new_at _ _ _ _ _ _ rfl rfl, cell_new_at _ _ _ _ _ _ rfl rfl, fun j => frozen_row (heap_new w _ t)⟩
theorem four.lt {w : World} {B : Nat} {a b c d : Value} (h : four w B a b c d) : B < w.heap.size := World.block_lt_of_cell? w _ h.1
theorem four.below {w w' : World} {B N : Nat} {a b c d : Value} (h : four w B a b c d) (hb : Below N w w') (hB : B < N) : four w' B a b c d :=
  ⟨(hb.cell (p := ⟨B, 0, none⟩) hB).trans h.1, (hb.cell (p := ⟨B, 1, none⟩) hB).trans h.2.1, (hb.cell (p := ⟨B, 2, none⟩) hB).trans h.2.2.1, (hb.cell (p := ⟨B, 3, none⟩) hB).trans h.2.2.2.1, fun j => (hb.frozen (p := ⟨B, j, none⟩) hB).trans (h.2.2.2.2 j)⟩
def put4 (w : World) (B : Nat) (a b c d : Value) : World := (((w.setCell ⟨B, 0, none⟩ a).setCell ⟨B, 1, none⟩ b).setCell ⟨B, 2, none⟩ c).setCell ⟨B, 3, none⟩ d
theorem four.put {w : World} {B : Nat} {a b c d : Value} (h : four w B a b c d) (a' b' c' d' : Value) : four (put4 w B a' b' c' d') B a' b' c' d' := by
  obtain ⟨h0, h1, h2, h3, hf⟩ := h
  unfold put4
  refine ⟨?_, ?_, ?_, ?_, fun j => by rw [World.frozen?_setCell, World.frozen?_setCell, World.frozen?_setCell, World.frozen?_setCell]; exact hf j⟩
  · rw [set_far4 _ _ _ _ (by simp), set_far4 _ _ _ _ (by simp), set_far4 _ _ _ _ (by simp)]
    exact World.cell?_setCell_same _ _ _ h0
  · rw [set_far4 _ _ _ _ (by simp), set_far4 _ _ _ _ (by simp)]
    exact World.cell?_setCell_same _ _ _ ((set_far4 _ _ _ _ (by simp)).trans h1)
  · rw [set_far4 _ _ _ _ (by simp)]
    exact World.cell?_setCell_same _ _ _ ((set_far4 _ _ _ _ (by simp)).trans ((set_far4 _ _ _ _ (by simp)).trans h2))
  · exact World.cell?_setCell_same _ _ _ ((set_far4 _ _ _ _ (by simp)).trans ((set_far4 _ _ _ _ (by simp)).trans ((set_far4 _ _ _ _ (by simp)).trans h3)))
theorem below_put4 {N : Nat} {w0 w : World} (h : Below N w0 w) {C : Nat} (hC : N ≤ C) (a' b' c' d' : Value) : Below N w0 (put4 w C a' b' c' d') :=
  (((h.setCell (p := ⟨C, 0, none⟩) hC _).setCell (p := ⟨C, 1, none⟩) hC _).setCell (p := ⟨C, 2, none⟩) hC _).setCell (p := ⟨C, 3, none⟩) hC _

/-- A slice of values. -/
def SlV (X : Nat → Prop) (w : World) (N : Nat) (l : List Int) (v : Value) : Prop :=
  ∃ A c, v = .slice A N c ∧ l.length = N ∧ N ≤ c ∧ c ≤ maxLen ∧ RdX X w A (icells l)
theorem SlV.onlyX {X : Nat → Prop} {w w' : World} {N : Nat} {l : List Int} {v : Value} (h : SlV X w N l v) (k : OnlyX X w w') : SlV X w' N l v := by
  obtain ⟨A, c, h1, h2, h3, h4, h5⟩ := h
  exact ⟨A, c, h1, h2, h3, h4, h5.onlyX k⟩
theorem SlV.newX {X Y : Nat → Prop} {w : World} {N : Nat} {l : List Int} {v : Value} (h : SlV X w N l v) (hY : ∀ b, b < w.heap.size → Y b → X b) : SlV Y w N l v := by
  obtain ⟨A, c, h1, h2, h3, h4, h5⟩ := h
  exact ⟨A, c, h1, h2, h3, h4, h5.newX hY⟩
theorem SlV.own {X : Nat → Prop} {w w0 : World} {N e : Nat} {l : List Int} {v : Value} (h : w.ownsRow w0.heap.size e 1 v N (icells l)) (hl : l.length = N) (hX : ∀ b, X b → b < w0.heap.size) : SlV X w N l v := by
  obtain ⟨A, c, rfl, h1, h2, h3⟩ := own_form h
  exact ⟨A, c, rfl, hl, h1, h2, own_rdx h (fun b hb hx => by have := (h.lt b hb).1; have := hX b hx; omega)⟩
theorem SlV.rdx {X : Nat → Prop} {w : World} {N c : Nat} {A : Option Addr} {l : List Int} (h : SlV X w N l (.slice A N c)) : RdX X w A (icells l) := by
  obtain ⟨A', c', e, _, _, _, h5⟩ := h
  injection e with e1 _ _
  rw [e1]
  exact h5
/-- Values, or none. -/
def WrV (X : Nat → Prop) (w : World) (N : Nat) (o : Option (List Int)) (v : Value) : Prop :=
  match o with
  | none => v = .slice none 0 0
  | some l => SlV X w N l v
theorem WrV.onlyX {X : Nat → Prop} {w w' : World} {N : Nat} {o : Option (List Int)} {v : Value} (h : WrV X w N o v) (k : OnlyX X w w') : WrV X w' N o v := by
  cases o with
  | none => exact h
  | some l => exact SlV.onlyX h k
theorem WrV.newX {X Y : Nat → Prop} {w : World} {N : Nat} {o : Option (List Int)} {v : Value} (h : WrV X w N o v) (hY : ∀ b, b < w.heap.size → Y b → X b) : WrV Y w N o v := by
  cases o with
  | none => exact h
  | some l => exact SlV.newX h hY
theorem SlV.some {X : Nat → Prop} {w : World} {N : Nat} {l : List Int} {v : Value} (h : SlV X w N l v) (h1 : 1 ≤ N) : ∃ b o c, v = .slice (some ⟨b, o, none⟩) N c := by
  obtain ⟨A, c, e, h2, h3, h4, h5⟩ := h
  obtain ⟨b, off, e', _⟩ := h5 (by intro e; have := icells_length l; rw [e] at this; simp at this; omega)
  exact ⟨b, off, c, by rw [e, e']⟩

/-- What the walk keeps of a store, and of the two slices beside it. -/
def SvI (w0 w : World) (L0 : Lc) (F C N : Nat) (p a b : Value) : Prop :=
  ∃ Ap cp S f s v o, p = .pointer (some ⟨S.D, 0, none⟩) ∧ StAt w0 w { L0 with Ap := Ap, cp := cp } S f s ∧ Surv f s v o ∧ s.spec = sureP N ∧ s.first = F ∧ s.blocks = C ∧ SlV (Own L0 S) w N v a ∧ WrV (Own L0 S) w N o b

/-- A new flash has no store of this shape only if the record is too long. -/
theorem open_long {B P F C N : Nat} (hB : 2 ≤ B) (hC : 2 ≤ C) (hFC : F + C ≤ B) (hB6 : B ≤ 6) (hN : 1 ≤ N) (hN20 : N ≤ 20) (h : openE (newF B P) F C (sureP N) ≠ 0) : openE (newF B P) F C (sureP N) = 11 := by
  have hw : (newF B P).wear.length = B := by unfold newF; simp
  have hl : (sureP N).length = N := by unfold sureP; simp
  revert h
  unfold openE
  have hb : ((sureP N).any fun p => decide (p.df < p.lo ∨ p.hi < p.df)) = false := sureP_bad N
  rw [if_neg (by unfold newF; simp), hw, hl, hb]
  repeat' split
  all_goals first
    | (intro h; rfl)
    | (intro h; exact absurd rfl h)
    | (intro h; exfalso; omega)
    | (intro h; exfalso; simp_all; done)
    | (intro h; exfalso; simp_all; omega)

theorem ev_more {x : Ev} {w : World} {B0 B1 : Nat} (h : x.ok w B0) (hB : B0 ≤ B1) : x.ok w B1 :=
  ⟨h.rp.more hB, h.lp, h.mp, h.cp, h.bp, h.sq, h.k0, h.k1, h.a0, h.b0⟩
end Go.Proofs.Ytjdknddnanopaaa
