/-
  The statements' fixed fact about the layer response.
-/
import Derived.Test.YtcfhnjdaijdoiaaW3
import Derived.Test.YtcfhnjdaijdoiaaW4
namespace Go.Proofs.Ytcfhnjdaijdoiaa
open Go.RowKit

theorem eq_err (c : Int) (w : World) : (binOp .eql 27 (.iface 47 (.int .i64 c)) .nilIface).run Try.prog w = .ok (.bool false) w := by kernel_rfl
theorem eq_nil (w : World) : (binOp .eql 27 .nilIface .nilIface).run Try.prog w = .ok (.bool true) w := by kernel_rfl

/-- The cells of a block that was just made. -/
theorem Rd.new (w : World) (cs : Array Value) (t : TypeId) (xs : List Value) (h : cs.toList = xs) : Rd (w.alloc (.cells cs t)) (w.heap.size + 1) (some ⟨w.heap.size, 0, none⟩) xs := fun _ =>
  ⟨w.heap.size, 0, rfl, by omega, fun j u hu => by
    subst h
    rw [Nat.zero_add, World.cell?_alloc_new]
    simpa using hu⟩

set_option maxHeartbeats 1000000 in
theorem awake43 (w : World) : Calls Try.prog 37 #[] w fun e w' => e = .returned (.bool true) ∧ Below w.heap.size w w' := by
  have h1 := eq_nil
  go_enter Try.func37, Try.ntmps37
  go_wp2_with (fail)
  have HR : Hid (Rd (w.alloc (.cells #[.int .i64 4, .int .i64 0, .int .i64 1, .int .i64 4, .int .i64 0, .int .i64 6, .int .i64 0, .int .i64 3, .int .i64 6, .int .i64 1] 34)) (w.heap.size + 1) (some ⟨w.heap.size, 0, none⟩) (tcells [⟨4, 0, 1, 4, 0⟩, ⟨6, 0, 3, 6, 1⟩])) := Rd.new w _ _ _ rfl
  (with_reducible refine (Worst_ok _ 2 2 [⟨4, 0, 1, 4, 0⟩, ⟨6, 0, 3, 6, 1⟩] _ (by rw [World.size_alloc]; exact HR.out) rfl (Nat.le_refl _) (by unfold maxLen; omega) (by decide)).mono ?_)
  rintro e w1 ⟨A, c, rfl, hc1, hc2, hr, hb⟩
  have HB : Hid (Below w.heap.size w w1) := ((Below.refl _ _).alloc (Nat.le_refl _) _).trans (hb.mono (by simp))
  have HR1 : Hid (Rd w1 w1.heap.size A (icells [1, 4])) := hr
  have hs : w.heap.size ≤ w1.heap.size := HB.out.size
  clear hr hb HR
  go_wp2_with (fail)
  have HR2 : Hid (Rd (w1.alloc (.cells #[.int .i64 1, .int .i64 4] 3)) (w1.heap.size + 1) (some ⟨w1.heap.size, 0, none⟩) (icells [1, 4])) := Rd.new w1 _ _ _ rfl
  have HB2 : Hid (Below w1.heap.size w1 (w1.alloc (.cells #[.int .i64 1, .int .i64 4] 3))) := (Below.refl _ _).alloc (Nat.le_refl _) _
  (with_reducible refine (ints_any A _ 2 2 c 2 [1, 4] [1, 4] _ (by rw [World.size_alloc]; exact (HR1.out.below HB2.out (Nat.le_refl _)).more (by omega)) (by rw [World.size_alloc]; exact HR2.out) rfl rfl (by unfold maxLen; omega) (by unfold maxLen; omega)).mono ?_)
  rintro e w2 ⟨rfl, q, rfl⟩
  go_wp2
  go_ret
  exact ⟨rfl, Below.drewN (HB.out.alloc hs _) _⟩
end Go.Proofs.Ytcfhnjdaijdoiaa
