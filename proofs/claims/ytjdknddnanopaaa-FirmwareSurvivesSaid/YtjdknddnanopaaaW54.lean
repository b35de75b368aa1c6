
/-
  The events of layer 51; large, fit, sure.
-/
import Derived.Test.YtjdknddnanopaaaMe
namespace Go.Proofs.Ytjdknddnanopaaa
open Go.RowKit
set_option linter.unusedVariables false

structure Ev where
  k : Int
  a : Int
  b : Int
  P : Option Addr
  q : Nat
  r : Nat
  p : List Int

def Ev.cells (x : Ev) : List Value := [.int .u8 x.k, .int .i64 x.a, .int .i64 x.b, .slice x.P x.q x.r]
theorem Ev.cells_length (x : Ev) : x.cells.length = 4 := rfl
def ecells (l : List Ev) : List Value := l.flatMap Ev.cells

structure Ev.ok (x : Ev) (w : World) (B0 : Nat) : Prop where
  rp : Rd w B0 x.P (kcells .u8 x.p)
  lp : x.p.length = x.q
  mp : x.q ≤ x.r
  cp : x.r ≤ maxLen
  bp : Bytes x.p
  sq : x.q ≤ 140737488351232
  k0 : 0 ≤ x.k
  k1 : x.k < 256
  a0 : I64 x.a
  b0 : I64 x.b
theorem Ev.ok.below {x : Ev} {w w' : World} {B0 B1 : Nat} (h : x.ok w B0) (hb : Below B1 w w') (hB : B0 ≤ B1) : x.ok w' B0 :=
  ⟨h.rp.below hb hB, h.lp, h.mp, h.cp, h.bp, h.sq, h.k0, h.k1, h.a0, h.b0⟩
theorem Rd.ev {w : World} {B : Nat} {A : Option Addr} {l : List Ev} (h : Rd w B A (ecells l)) {k : Nat} {x : Ev} (hx : l[k]? = some x) :
    ∃ b off, A = some ⟨b, off, none⟩ ∧ b < B ∧ w.cell? ⟨b, off + k * 4, none⟩ = some (.int .u8 x.k) ∧ w.cell? ⟨b, off + k * 4 + 1, none⟩ = some (.int .i64 x.a) ∧ w.cell? ⟨b, off + k * 4 + 2, none⟩ = some (.int .i64 x.b) ∧
      w.cell? ⟨b, off + k * 4 + 3, none⟩ = some (.slice x.P x.q x.r) := by
  have key : ∀ j u, x.cells[j]? = some u → (ecells l)[k * 4 + j]? = some u := fun j u hu => flat_get Ev.cells 4 Ev.cells_length l k j x u hx hu
  have hne : ecells l ≠ [] := by
    intro e
    have := key 0 _ rfl
    rw [e] at this
    simp at this
  obtain ⟨b, off, e, hlt, hc⟩ := h hne
  exact ⟨b, off, e, hlt, hc _ _ (key 0 _ rfl), hc _ _ (key 1 _ rfl), hc _ _ (key 2 _ rfl), hc _ _ (key 3 _ rfl)⟩
def sumE : List Ev → Nat
  | [] => 0
  | x :: l => 10 + min x.q 10000 + sumE l
theorem sumE_append (a b : List Ev) : sumE (a ++ b) = sumE a + sumE b := by
  induction a with
  | nil => simp [sumE]
  | cons x a ih => simp only [List.cons_append, sumE, ih]; omega
theorem sumE_le (l : List Ev) : sumE l ≤ 10010 * l.length := by
  induction l with
  | nil => simp [sumE]
  | cons x a ih => simp only [sumE, List.length_cons]; omega
def largeE (l : List Ev) : Bool := decide (200 < l.length ∨ 20000 < sumE l)

def surePar : Par := ⟨-9223372036854775808, 9223372036854775807, 0⟩
def sureP (n : Nat) : List Par := List.replicate n surePar
theorem sureP_ok (n : Nat) : ∀ p ∈ sureP n, p.ok := by
  intro p hp
  unfold sureP at hp
  rw [List.mem_replicate] at hp
  rw [hp.2]
  exact ⟨by unfold I64 surePar; simp, by unfold I64 surePar; simp, by unfold I64 surePar; simp⟩
theorem sureP_bad (n : Nat) : (sureP n).any badP = false := by
  rw [List.any_eq_false]
  intro p hp
  unfold sureP at hp
  rw [List.mem_replicate] at hp
  rw [hp.2]
  decide
theorem sureP_in {n i : Nat} {p : Par} (h : (sureP n)[i]? = some p) {x : Int} (hx : I64 x) : inPar p x = true := by
  unfold sureP at h
  rw [List.getElem?_replicate] at h
  split at h
  · injection h with h
    subst h
    unfold I64 at hx
    unfold inPar surePar
    rw [decide_eq_true_eq]
    simp only
    omega
  · cases h
theorem results_cell_o {fn : Func} {p : Tmp} {ty : TypeId} (h : fn.results = #[.cell p ty]) (tmps : Array Value) (P : Program) (w : World) :
    (results fn tmps).run P w = ((asAddr (tmps.getD p undef)).run P w).andThen fun a w₁ => (loadVar ty a).run P w₁ := by
  simp only [results, h]
  simp [Sem.run_bind, Result.andThen]
theorem cells_four (w : World) (a b c d : Value) (t : TypeId) : (w.alloc (.cells #[a, b, c, d] t)).cell? ⟨w.heap.size, 0, none⟩ = some a ∧ (w.alloc (.cells #[a, b, c, d] t)).cell? ⟨w.heap.size, 1, none⟩ = some b ∧ (w.alloc (.cells #[a, b, c, d] t)).cell? ⟨w.heap.size, 2, none⟩ = some c ∧ (w.alloc (.cells #[a, b, c, d] t)).cell? ⟨w.heap.size, 3, none⟩ = some d := by
  refine ⟨?_, ?_, ?_, ?_⟩ <;> (rw [World.cell?_alloc_new]; rfl)

end Go.Proofs.Ytjdknddnanopaaa
