/-
  The cells of a block that was just made, one task.
-/
import Derived.Test.YtcfhnjdaijdoiaaMem3
namespace Go.Proofs.Ytcfhnjdaijdoiaa
open Go.RowKit

theorem cells_new (w : World) (cs : Array Value) (t : TypeId) (xs : List Value) (h : cs.toList = xs) :
    ∀ j u, xs[j]? = some u → (w.alloc (.cells cs t)).cell? ((⟨w.heap.size, 0, none⟩ : Addr).add j) = some u := by
  intro j u hu
  subst h
  rw [Addr.add_lit, Nat.zero_add, World.cell?_alloc_new]
  simpa using hu

theorem tsk_one (x : Tsk) : ∀ u ∈ x.cells, u.oneCell' = true := by
  intro u hu
  simp only [Tsk.cells, List.mem_cons, List.not_mem_nil, or_false] at hu
  rcases hu with rfl | rfl | rfl | rfl | rfl <;> rfl

theorem tcells_append (a b : List Tsk) : tcells (a ++ b) = tcells a ++ tcells b := by simp [tcells]
theorem tcells_single (x : Tsk) : tcells [x] = x.cells := by simp [tcells]
end Go.Proofs.Ytcfhnjdaijdoiaa
