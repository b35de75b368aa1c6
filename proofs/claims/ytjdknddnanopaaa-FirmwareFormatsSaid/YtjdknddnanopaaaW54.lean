
/-
  The events of layer 51; large, fit, sure.
-/
import Derived.Test.YtjdknddnanopaaaMe
namespace Go.Proofs.Ytjdknddnanopaaa
open Go.RowKit
set_option linter.unusedVariables false

structure Ev where
  k : Int
  a : Int
  b : Int
  P : Option Addr
  q : Nat
  r : Nat
  p : List Int

def Ev.cells (x : Ev) : List Value := [.int .u8 x.k, .int .i64 x.a, .int .i64 x.b, .slice x.P x.q x.r]
theorem Ev.cells_length (x : Ev) : x.cells.length = 4 := rfl
def ecells (l : List Ev) : List Value := l.flatMap Ev.cells

structure Ev.ok (x : Ev) (w : World) (B0 : Nat) : Prop where
  rp : Rd w B0 x.P (kcells .u8 x.p)
  lp : x.p.length = x.q
  mp : x.q ≤ x.r
  cp : x.r ≤ maxLen
  bp : Bytes x.p
  sq : x.q ≤ 140737488351232
  k0 : 0 ≤ x.k
  k1 : x.k < 256
  a0 : I64 x.a
  b0 : I64 x.b
theorem Ev.ok.below {x : Ev} {w w' : World} {B0 B1 : Nat} (h : x.ok w B0) (hb : Below B1 w w') (hB : B0 ≤ B1) : x.ok w' B0 :=
  ⟨h.rp.below hb hB, h.lp, h.mp, h.cp, h.bp, h.sq, h.k0, h.k1, h.a0, h.b0⟩
theorem Rd.ev {w : World} {B : Nat} {A : Option Addr} {l : List Ev} (h : Rd w B A (ecells l)) {k : Nat} {x : Ev} (hx : l[k]? = some x) :
    ∃ b off, A = some ⟨b, off, none⟩ ∧ b < B ∧ w.cell? ⟨b, off + k * 4, none⟩ = some (.int .u8 x.k) ∧ w.cell? ⟨b, off + k * 4 + 1, none⟩ = some (.int .i64 x.a) ∧ w.cell? ⟨b, off + k * 4 + 2, none⟩ = some (.int .i64 x.b) ∧
      w.cell? ⟨b, off + k * 4 + 3, none⟩ = some (.slice x.P x.q x.r) := by
  have key : ∀ j u, x.cells[j]? = some u → (ecells l)[k * 4 + j]? = some u := fun j u hu => flat_get Ev.cells 4 Ev.cells_length l k j x u hx hu
  have hne : ecells l ≠ [] := by
    intro e
    have := key 0 _ rfl
    rw [e] at this
    simp at this
  obtain ⟨b, off, e, hlt, hc⟩ := h hne
  exact ⟨b, off, e, hlt, hc _ _ (key 0 _ rfl), hc _ _ (key 1 _ rfl), hc _ _ (key 2 _ rfl), hc _ _ (key 3 _ rfl)⟩
end Go.Proofs.Ytjdknddnanopaaa
