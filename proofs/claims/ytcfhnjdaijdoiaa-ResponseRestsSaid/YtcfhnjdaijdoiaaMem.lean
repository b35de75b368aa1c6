/-
  Words for memory: a slice of structs that reads as a list.
-/
import Derived.Test.YtcfhnjdaijdoiaaPlain
import Derived.WalkKit
import Derived.Lib.Hide
import Derived.Deep.Draws
namespace Go.Proofs.Ytcfhnjdaijdoiaa
open Go.RowKit

/-- The address leads to these cells, in a block below B. -/
def Rd (w : World) (B : Nat) (A : Option Addr) (xs : List Value) : Prop :=
  xs ≠ [] → ∃ b off, A = some ⟨b, off, none⟩ ∧ b < B ∧ ∀ j u, xs[j]? = some u → w.cell? ⟨b, off + j, none⟩ = some u

theorem Rd.below {w w' : World} {B B' : Nat} {A : Option Addr} {xs : List Value} (h : Rd w B A xs) (hb : Below B' w w') (hB : B ≤ B') : Rd w' B A xs := fun hx => by
  obtain ⟨b, off, e, hlt, hc⟩ := h hx
  exact ⟨b, off, e, hlt, fun j u hu => (hb.cell (p := ⟨b, off + j, none⟩) (Nat.lt_of_lt_of_le hlt hB)).trans (hc j u hu)⟩

theorem Rd.more {w : World} {B B' : Nat} {A : Option Addr} {xs : List Value} (h : Rd w B A xs) (hB : B ≤ B') : Rd w B' A xs := fun hx => by
  obtain ⟨b, off, e, hlt, hc⟩ := h hx
  exact ⟨b, off, e, by omega, hc⟩

def Tsk.cells (x : Tsk) : List Value := [.int .i64 x.p, .int .i64 x.o, .int .i64 x.c, .int .i64 x.d, .int .i64 x.q]
theorem Tsk.cells_length (x : Tsk) : x.cells.length = 5 := rfl
def tcells (l : List Tsk) : List Value := l.flatMap Tsk.cells

theorem Rd.tsk {w : World} {B : Nat} {A : Option Addr} {l : List Tsk} (h : Rd w B A (tcells l)) {k : Nat} {x : Tsk} (hx : l[k]? = some x) :
    ∃ b off, A = some ⟨b, off, none⟩ ∧ b < B ∧ w.cell? ⟨b, off + k * 5, none⟩ = some (.int .i64 x.p) ∧ w.cell? ⟨b, off + k * 5 + 1, none⟩ = some (.int .i64 x.o) ∧
      w.cell? ⟨b, off + k * 5 + 2, none⟩ = some (.int .i64 x.c) ∧ w.cell? ⟨b, off + k * 5 + 3, none⟩ = some (.int .i64 x.d) ∧ w.cell? ⟨b, off + k * 5 + 4, none⟩ = some (.int .i64 x.q) := by
  have g : ∀ j u, x.cells[j]? = some u → (tcells l)[k * 5 + j]? = some u := fun j u hu => flat_get Tsk.cells 5 Tsk.cells_length l k j x u hx hu
  have hne : tcells l ≠ [] := by
    intro e
    have := g 0 _ rfl
    rw [e] at this
    simp at this
  obtain ⟨b, off, e, hlt, hc⟩ := h hne
  refine ⟨b, off, e, hlt, ?_, ?_, ?_, ?_, ?_⟩
  · simpa using hc _ _ (g 0 _ rfl)
  · simpa [Nat.add_assoc] using hc _ _ (g 1 _ rfl)
  · simpa [Nat.add_assoc] using hc _ _ (g 2 _ rfl)
  · simpa [Nat.add_assoc] using hc _ _ (g 3 _ rfl)
  · simpa [Nat.add_assoc] using hc _ _ (g 4 _ rfl)

theorem bcell {B : Nat} {W w1 : World} (hb : Below B W w1) : (∀ b o, b < B → w1.cell? ⟨b, o, none⟩ = W.cell? ⟨b, o, none⟩) ∧ (∀ b o, b < B → w1.frozen? ⟨b, o, none⟩ = W.frozen? ⟨b, o, none⟩) :=
  ⟨fun b o h => hb.cell (p := ⟨b, o, none⟩) h, fun b o h => hb.frozen (p := ⟨b, o, none⟩) h⟩

theorem getElem?_of_lt {α : Type} {l : List α} {k : Nat} (h : k < l.length) : ∃ x, l[k]? = some x := ⟨l[k], List.getElem?_eq_getElem h⟩
theorem Below.drewN {B : Nat} {a w : World} (h : Below B a w) (n : Nat) : Below B a (w.drewN n) := ⟨h.os, h.tape, h.output, h.size, h.block⟩

def icells (l : List Int) : List Value := l.map (Value.int .i64)

theorem icells_snoc {m : List Int} {j : Nat} {x : Int} (h : m[j]? = some x) : icells (m.take (j + 1)) = icells (m.take j) ++ [.int .i64 x] := by
  rw [take_snoc_get m j x h, icells, List.map_append]; rfl

theorem Rd.int {w : World} {B : Nat} {A : Option Addr} {l : List Int} (h : Rd w B A (icells l)) {k : Nat} {x : Int} (hx : l[k]? = some x) :
    ∃ b off, A = some ⟨b, off, none⟩ ∧ b < B ∧ w.cell? ⟨b, off + k, none⟩ = some (.int .i64 x) := by
  have hl : (icells l)[k]? = some (.int .i64 x) := by simp [icells, hx]
  have hne : icells l ≠ [] := by
    intro e
    rw [e] at hl
    simp at hl
  obtain ⟨b, off, e, hlt, hc⟩ := h hne
  exact ⟨b, off, e, hlt, hc _ _ hl⟩

theorem grown_of_below {w w' : World} (hb : Below w.heap.size w w') : w.grownBy w' none := ⟨hb.os, hb.tape, hb.output, hb.size, fun k hk _ => hb.block k hk⟩

theorem own_below {w w' : World} {base : Nat} {e : TypeId} {size : Nat} {v : Value} {n : Nat} {xs : List Value} (h : w.ownsRow base e size v n xs) (hb : Below w.heap.size w w') : w'.ownsRow base e size v n xs :=
  h.kept (grown_of_below hb) (by cases hv : v.ownBlock <;> simp)

/-- A slice of the call's own, read. -/
theorem own_read {w : World} {base : Nat} {e : TypeId} {size : Nat} {v : Value} {n : Nat} {xs : List Value} (h : w.ownsRow base e size v n xs) :
    ∃ A c, v = .slice A n c ∧ n ≤ c ∧ c ≤ maxLen ∧ Rd w w.heap.size A xs := by
  rcases h.2 with ⟨rfl, rfl⟩ | ⟨g, cap, cur, rfl, hb, hg, hnc, hcm, hcs, htake⟩
  · refine ⟨none, 0, rfl, Nat.le_refl _, Nat.zero_le _, fun hx => absurd (List.eq_nil_of_length_eq_zero (by simpa using h.1)) hx⟩
  · refine ⟨_, cap, rfl, hnc, hcm, fun _ => ⟨g, 0, rfl, (Array.getElem?_eq_some_iff.1 hg).1, fun j u hu => ?_⟩⟩
    rw [Nat.zero_add, cell_of_row w g j cur e (0, 0) hg]
    rw [← htake, List.getElem?_take] at hu
    split at hu
    · simpa using hu
    · cases hu

/-- The error value of a code; 0: none. -/
def errV (c : Int) : Value := if c = 0 then .nilIface else .iface 47 (.int .i64 c)
theorem errV_zero : errV 0 = .nilIface := rfl
theorem errV_ne {c : Int} (h : c ≠ 0) : errV c = .iface 47 (.int .i64 c) := if_neg h
end Go.Proofs.Ytcfhnjdaijdoiaa
