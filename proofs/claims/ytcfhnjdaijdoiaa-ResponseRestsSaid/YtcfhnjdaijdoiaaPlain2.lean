/-
  Whether deadlines are met.
-/
import Derived.Test.YtcfhnjdaijdoiaaPlain
namespace Go.Proofs.Ytcfhnjdaijdoiaa

/-- Do the tasks of r meet their deadlines among l? -/
def meetsOf (l : List Tsk) : List Tsk → Bool
  | [] => true
  | x :: r => if worst l x = 0 ∨ x.d < worst l x then false else meetsOf l r

def meets (l : List Tsk) : Bool := meetsOf l l

theorem meetsOf_step (l m : List Tsk) (k : Nat) (x : Tsk) (h : m[k]? = some x) :
    meetsOf l (m.drop k) = if worst l x = 0 ∨ x.d < worst l x then false else meetsOf l (m.drop (k + 1)) := by
  rw [drop_cons_get m k x h, meetsOf]

theorem meetsOf_iff (l : List Tsk) : ∀ m, meetsOf l m = true ↔ ∀ x ∈ m, worst l x ≠ 0 ∧ worst l x ≤ x.d
  | [] => by simp [meetsOf]
  | x :: r => by
    rw [meetsOf]
    by_cases h : worst l x = 0 ∨ x.d < worst l x
    · rw [if_pos h]
      constructor
      · intro e; simp at e
      · intro e
        have := e x (List.mem_cons_self ..)
        omega
    · rw [if_neg h, meetsOf_iff l r]
      constructor
      · intro e y hy
        rcases List.mem_cons.1 hy with rfl | hy
        · omega
        · exact e y hy
      · intro e y hy
        exact e y (List.mem_cons_of_mem _ hy)

theorem meets_iff (l : List Tsk) : meets l = true ↔ ∀ x ∈ l, worst l x ≠ 0 ∧ worst l x ≤ x.d := meetsOf_iff l l
end Go.Proofs.Ytcfhnjdaijdoiaa
