
/-
  Acts: calls of a dictionary, in memory.
-/
import Derived.Test.YtjdknddnanopaaaBPlain
namespace Go.Proofs.Ytjdknddnanopaaa.Bus
open Go.RowKit

/-- An act: kind, index, sub, value, and the bytes' slice. -/
structure Ac where
  k : Int
  i : Int
  s : Int
  v : Int
  A : Option Addr
  n : Nat
  c : Nat
  b : List Int
  deriving Inhabited

def Ac.cells (x : Ac) : List Value := [.int .u8 x.k, .int .i64 x.i, .int .i64 x.s, .int .i64 x.v, .slice x.A x.n x.c]
theorem Ac.cells_length (x : Ac) : x.cells.length = 5 := rfl
def acells (l : List Ac) : List Value := l.flatMap Ac.cells

structure Ac.ok (w : World) (B : Nat) (x : Ac) : Prop where
  rd : Rd w B x.A (kcells .u8 x.b)
  len : x.b.length = x.n
  cap : x.n ≤ x.c
  max : x.c ≤ maxLen
  byte : ∀ z ∈ x.b, 0 ≤ z ∧ z < 256
  k0 : 0 ≤ x.k
  k1 : x.k < 256
  wi : (Lit.int .i64 x.i).wf = true
  ws : (Lit.int .i64 x.s).wf = true
  wv : (Lit.int .i64 x.v).wf = true

theorem Rd.ac {w : World} {B : Nat} {A : Option Addr} {l : List Ac} (h : Rd w B A (acells l)) {k : Nat} {x : Ac} (hx : l[k]? = some x) :
    ∃ b off, A = some ⟨b, off, none⟩ ∧ b < B ∧ w.cell? ⟨b, off + k * 5, none⟩ = some (.int .u8 x.k) ∧ w.cell? ⟨b, off + k * 5 + 1, none⟩ = some (.int .i64 x.i) ∧
      w.cell? ⟨b, off + k * 5 + 2, none⟩ = some (.int .i64 x.s) ∧ w.cell? ⟨b, off + k * 5 + 3, none⟩ = some (.int .i64 x.v) ∧ w.cell? ⟨b, off + k * 5 + 4, none⟩ = some (.slice x.A x.n x.c) := by
  have g : ∀ j u, x.cells[j]? = some u → (acells l)[k * 5 + j]? = some u := fun j u hu => flat_get Ac.cells 5 Ac.cells_length l k j x u hx hu
  have hne : acells l ≠ [] := by
    intro e
    have := g 0 _ rfl
    rw [e] at this
    simp at this
  obtain ⟨b, off, e, hlt, hc⟩ := h hne
  refine ⟨b, off, e, hlt, ?_, ?_, ?_, ?_, ?_⟩
  · simpa using hc _ _ (g 0 _ rfl)
  · simpa [Nat.add_assoc] using hc _ _ (g 1 _ rfl)
  · simpa [Nat.add_assoc] using hc _ _ (g 2 _ rfl)
  · simpa [Nat.add_assoc] using hc _ _ (g 3 _ rfl)
  · simpa [Nat.add_assoc] using hc _ _ (g 4 _ rfl)

/-- An item of a mapping: index, sub. -/
structure It where
  i : Int
  s : Int
  deriving DecidableEq, Inhabited
def It.cells (x : It) : List Value := [.int .i64 x.i, .int .i64 x.s]
theorem It.cells_length (x : It) : x.cells.length = 2 := rfl
def mcells (l : List It) : List Value := l.flatMap It.cells

theorem Rd.it {w : World} {B : Nat} {A : Option Addr} {l : List It} (h : Rd w B A (mcells l)) {k : Nat} {x : It} (hx : l[k]? = some x) :
    ∃ b off, A = some ⟨b, off, none⟩ ∧ b < B ∧ w.cell? ⟨b, off + k * 2, none⟩ = some (.int .i64 x.i) ∧ w.cell? ⟨b, off + k * 2 + 1, none⟩ = some (.int .i64 x.s) := by
  have g : ∀ j u, x.cells[j]? = some u → (mcells l)[k * 2 + j]? = some u := fun j u hu => flat_get It.cells 2 It.cells_length l k j x u hx hu
  have hne : mcells l ≠ [] := by
    intro e
    have := g 0 _ rfl
    rw [e] at this
    simp at this
  obtain ⟨b, off, e, hlt, hc⟩ := h hne
  refine ⟨b, off, e, hlt, ?_, ?_⟩
  · simpa using hc _ _ (g 0 _ rfl)
  · simpa [Nat.add_assoc] using hc _ _ (g 1 _ rfl)
end Go.Proofs.Ytjdknddnanopaaa.Bus
