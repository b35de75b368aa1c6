
/-
  Objects of a dictionary, and what is wrong with them. No program in sight.
-/
import Derived.Test.YtjdknddnanopaaaBMem
namespace Go.Proofs.Ytjdknddnanopaaa.Bus
open Go.RowKit

/-- An object: index, sub, type, access, least, greatest, value, map, hold. -/
structure Ob where
  i : Int
  s : Int
  t : Int
  a : Int
  lo : Int
  hi : Int
  v : Int
  mp : Bool
  hd : Bool
  deriving DecidableEq, Inhabited

def Ob.cells (x : Ob) : List Value := [.int .i64 x.i, .int .i64 x.s, .int .i64 x.t, .int .i64 x.a, .int .i64 x.lo, .int .i64 x.hi, .int .i64 x.v, .bool x.mp, .bool x.hd]
theorem Ob.cells_length (x : Ob) : x.cells.length = 9 := rfl
def ocells (l : List Ob) : List Value := l.flatMap Ob.cells
theorem ocells_length (l : List Ob) : (ocells l).length = l.length * 9 := flat_length Ob.cells 9 Ob.cells_length l
theorem ocells_append (a b : List Ob) : ocells (a ++ b) = ocells a ++ ocells b := by simp [ocells]
theorem ocells_single (x : Ob) : ocells [x] = x.cells := by simp [ocells]
theorem ob_one (x : Ob) : ∀ u ∈ x.cells, u.oneCell' = true := by
  intro u hu
  simp only [Ob.cells, List.mem_cons, List.not_mem_nil, or_false] at hu
  rcases hu with rfl | rfl | rfl | rfl | rfl | rfl | rfl | rfl | rfl <;> rfl
theorem ocells_one (l : List Ob) : ∀ u ∈ ocells l, u.oneCell' = true := by
  intro u hu
  obtain ⟨x, _, hx⟩ := List.mem_flatMap.1 hu
  exact ob_one x u hx

theorem Rd.ob {w : World} {B : Nat} {A : Option Addr} {l : List Ob} (h : Rd w B A (ocells l)) {k : Nat} {x : Ob} (hx : l[k]? = some x) :
    ∃ b off, A = some ⟨b, off, none⟩ ∧ b < B ∧ w.cell? ⟨b, off + k * 9, none⟩ = some (.int .i64 x.i) ∧ w.cell? ⟨b, off + k * 9 + 1, none⟩ = some (.int .i64 x.s) ∧
      w.cell? ⟨b, off + k * 9 + 2, none⟩ = some (.int .i64 x.t) ∧ w.cell? ⟨b, off + k * 9 + 3, none⟩ = some (.int .i64 x.a) ∧ w.cell? ⟨b, off + k * 9 + 4, none⟩ = some (.int .i64 x.lo) ∧
      w.cell? ⟨b, off + k * 9 + 5, none⟩ = some (.int .i64 x.hi) ∧ w.cell? ⟨b, off + k * 9 + 6, none⟩ = some (.int .i64 x.v) ∧ w.cell? ⟨b, off + k * 9 + 7, none⟩ = some (.bool x.mp) ∧ w.cell? ⟨b, off + k * 9 + 8, none⟩ = some (.bool x.hd) := by
  have g : ∀ j u, x.cells[j]? = some u → (ocells l)[k * 9 + j]? = some u := fun j u hu => flat_get Ob.cells 9 Ob.cells_length l k j x u hx hu
  have hne : ocells l ≠ [] := by
    intro e
    have := g 0 _ rfl
    rw [e] at this
    simp at this
  obtain ⟨b, off, e, hlt, hc⟩ := h hne
  refine ⟨b, off, e, hlt, ?_, ?_, ?_, ?_, ?_, ?_, ?_, ?_, ?_⟩
  · simpa using hc _ _ (g 0 _ rfl)
  · simpa [Nat.add_assoc] using hc _ _ (g 1 _ rfl)
  · simpa [Nat.add_assoc] using hc _ _ (g 2 _ rfl)
  · simpa [Nat.add_assoc] using hc _ _ (g 3 _ rfl)
  · simpa [Nat.add_assoc] using hc _ _ (g 4 _ rfl)
  · simpa [Nat.add_assoc] using hc _ _ (g 5 _ rfl)
  · simpa [Nat.add_assoc] using hc _ _ (g 6 _ rfl)
  · simpa [Nat.add_assoc] using hc _ _ (g 7 _ rfl)
  · simpa [Nat.add_assoc] using hc _ _ (g 8 _ rfl)

/-- A type's bytes, and its least and greatest number; 0 bytes: there is no such type. -/
structure Kd where
  n : Nat
  lo : Int
  hi : Int

def kindOf (t : Int) : Kd :=
  if t = 0 then ⟨1, 0, 1⟩ else if t = 1 then ⟨1, 0, 255⟩ else if t = 2 then ⟨1, -128, 127⟩ else if t = 3 then ⟨2, 0, 65535⟩ else if t = 4 then ⟨2, -32768, 32767⟩ else
  if t = 5 then ⟨4, 0, 4294967295⟩ else if t = 6 then ⟨4, -2147483648, 2147483647⟩ else ⟨0, 0, 0⟩

def Ob.far (x : Ob) : Prop := x.i < 0 ∨ 65535 < x.i ∨ x.s < 0 ∨ 255 < x.s
instance (x : Ob) : Decidable x.far := by unfold Ob.far; infer_instance
/-- x does not lie behind y. -/
def Ob.back (y x : Ob) : Prop := x.i < y.i ∨ (x.i = y.i ∧ x.s ≤ y.s)
instance (y x : Ob) : Decidable (y.back x) := by unfold Ob.back; infer_instance
def backO : Option Ob → Ob → Prop
  | none, _ => False
  | some y, x => y.back x
instance (p : Option Ob) (x : Ob) : Decidable (backO p x) := by unfold backO; split <;> infer_instance
def Ob.odd (x : Ob) : Prop := x.a ≠ 0 ∧ x.a ≠ 1 ∧ x.a ≠ 2
instance (x : Ob) : Decidable x.odd := by unfold Ob.odd; infer_instance
def Ob.wide (x : Ob) : Prop := x.lo < (kindOf x.t).lo ∨ (kindOf x.t).hi < x.lo ∨ x.hi < (kindOf x.t).lo ∨ (kindOf x.t).hi < x.hi ∨ x.v < x.lo ∨ x.hi < x.v
instance (x : Ob) : Decidable x.wide := by unfold Ob.wide; infer_instance

/-- The number of the first error of the objects behind the one given. -/
def checkFrom : Option Ob → List Ob → Int
  | _, [] => 0
  | p, x :: r => if x.far then 3 else if backO p x then 26 else if (kindOf x.t).n = 0 then 7 else if x.odd then 21 else if x.wide then 3 else checkFrom (some x) r

def prevOf (l : List Ob) (k : Nat) : Option Ob := if k = 0 then none else l[k - 1]?
def checkO (l : List Ob) : Int := if 128 < l.length then 4 else checkFrom none l

theorem checkFrom_step (l : List Ob) (k : Nat) (x : Ob) (h : l[k]? = some x) :
    checkFrom (prevOf l k) (l.drop k) = if x.far then 3 else if backO (prevOf l k) x then 26 else if (kindOf x.t).n = 0 then 7 else if x.odd then 21 else if x.wide then 3 else checkFrom (prevOf l (k + 1)) (l.drop (k + 1)) := by
  have e : prevOf l (k + 1) = some x := by unfold prevOf; rw [if_neg (by omega)]; simpa using h
  rw [e, drop_cons_get l k x h, checkFrom]

theorem back_dec (y x : Ob) : decide (backO (some y) x) = (decide (x.i < y.i) || ((x.i == y.i) && decide (x.s ≤ y.s))) := by
  rw [Bool.eq_iff_iff, decide_eq_true_iff]
  simp only [decide_eq_true_eq, Bool.or_eq_true, Bool.and_eq_true, beq_iff_eq, backO, Ob.back]

theorem wide_dec {x : Ob} {kd : Kd} (h : kindOf x.t = kd) :
    decide x.wide = (decide (x.lo < kd.lo) || (decide (kd.hi < x.lo) || (decide (x.hi < kd.lo) || (decide (kd.hi < x.hi) || (decide (x.v < x.lo) || decide (x.hi < x.v)))))) := by
  subst h
  rw [Bool.eq_iff_iff, decide_eq_true_iff]
  simp only [decide_eq_true_eq, Bool.or_eq_true, Ob.wide]
end Go.Proofs.Ytjdknddnanopaaa.Bus
