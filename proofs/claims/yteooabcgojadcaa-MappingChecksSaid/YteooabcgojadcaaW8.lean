/-
  awake of layer 53.
-/
import Derived.Test.YteooabcgojadcaaW7
namespace Go.Proofs.Yteooabcgojadcaa
open Go.RowKit
set_option linter.unusedVariables false

section
variable {w0 wr w' : World} {d : Nat} {v : Value} {bp bk : Nat} {l : List Ob}
theorem Dic.kept (h : Dic w0 wr d v bp bk l) (hg : wr.grownBy w' none) : Dic w0 w' d v bp bk l := by
  obtain ⟨k, k', h, h8⟩ := h
  exact ⟨k, k', h.kept hg, h8⟩
theorem Dic.alloc (h : Dic w0 wr d v bp bk l) (o : Obj) : Dic w0 (wr.alloc o) d v bp bk l := h.kept (World.grownBy_alloc wr o none)
theorem Dic.drewN (h : Dic w0 wr d v bp bk l) (n : Nat) : Dic w0 (wr.drewN n) d v bp bk l := h.kept ⟨rfl, rfl, rfl, Nat.le_refl _, fun _ _ _ => rfl⟩
theorem Dic.later (h : Dic w0 wr d v bp bk l) (hb : Below wr.heap.size wr w') : Dic w0 w' d v bp bk l := h.kept (grown_of_below hb)
theorem Dic.below (h : Dic w0 wr d v bp bk l) : Below w0.heap.size w0 wr := by
  obtain ⟨k, k', h, h8⟩ := h
  exact h.below
end

def ob0 : Ob := ⟨5, 0, 4, 1, -9, 9, 0, false, false⟩

set_option maxRecDepth 100000 in
set_option maxHeartbeats 2000000 in
theorem awake53_any (w : World) : Calls Try.prog 18 #[] w fun e w' => e = .returned (.bool true) ∧ Below w.heap.size w w' := by
  have HC : Hid (checkO [ob0] = 0) := by show _ = _; decide
  have HW1 : Hid (writeO [ob0] 5 0 [254, 255] false = ([ob0.with (-2)], 0)) := by show _ = _; decide
  have HG : Hid (getO [ob0.with (-2)] 5 0 = (-2, 0)) := by show _ = _; decide
  have HW2 : Hid (writeO [ob0.with (-2)] 5 0 [1, 2, 3] false = ([ob0.with (-2)], 11)) := by show _ = _; decide
  have wf5 : (Lit.int .i64 5).wf = true := by decide
  have wf0 : (Lit.int .i64 0).wf = true := by decide
  have h1 := eq_ptr
  have h2 := ne_nil
  have h3 := eq_nil
  go_enter Try.func18, Try.ntmps18
  go_wp2_with (fail)
  have HR : Hid (Rd (w.alloc (.cells #[.int .i64 5, .int .i64 0, .int .i64 4, .int .i64 1, .int .i64 (-9), .int .i64 9, .int .i64 0, .bool false, .bool false] 52)) (w.heap.size + 1) (some ⟨w.heap.size, 0, none⟩) (ocells [ob0])) := Rd.new w _ _ _ rfl
  (with_reducible refine (New_ok _ 1 1 [ob0] _ (by rw [World.size_alloc]; exact HR.out) rfl (by omega) (by decide) HC.out).mono ?_)
  rintro e w1 ⟨d, v, bp, bk, rfl, hD⟩
  have HD : Hid (Dic _ w1 d v bp bk [ob0]) := Dic.of hD (fine_of HC.out) rfl
  have HB0 : Hid (∀ wx, Below (w.alloc (.cells #[.int .i64 5, .int .i64 0, .int .i64 4, .int .i64 1, .int .i64 (-9), .int .i64 9, .int .i64 0, .bool false, .bool false] 52)).heap.size (w.alloc (.cells #[.int .i64 5, .int .i64 0, .int .i64 4, .int .i64 1, .int .i64 (-9), .int .i64 9, .int .i64 0, .bool false, .bool false] 52)) wx → Below w.heap.size w wx) := fun wx h => ((Below.refl _ _).alloc (Nat.le_refl _) _).trans (h.mono (by simp))
  generalize (w.alloc (.cells #[.int .i64 5, .int .i64 0, .int .i64 4, .int .i64 1, .int .i64 (-9), .int .i64 9, .int .i64 0, .bool false, .bool false] 52)) = w0 at *
  clear hD HR
  go_wp2_with (fail)
  have HR : Hid (Rd (w1.alloc (.cells #[.int .u8 254, .int .u8 255] 5)) (w1.heap.size + 1) (some ⟨w1.heap.size, 0, none⟩) (kcells .u8 [254, 255])) := Rd.new w1 _ _ _ rfl
  (with_reducible refine (Write_any (HD.out.alloc _) 5 0 _ 2 2 [254, 255] false wf5 wf0 (by rw [World.size_alloc]; exact HR.out) rfl (by omega) (by decide) (by decide)).mono ?_)
  rintro e w2 ⟨rfl, hD2, _⟩
  rw [HW1.out] at hD2 ⊢
  have HD2 := Lib.hid hD2
  clear hD2 HR HD
  simp only [errV_zero]
  go_wp2_with (fail)
  (with_reducible refine (Get_any HD2.out 5 0 wf5 wf0).mono ?_)
  rintro e w3 ⟨rfl, rfl⟩
  rw [HG.out]
  simp only [errV_zero]
  go_wp2_with (fail)
  have HR : Hid (Rd (w2.alloc (.cells #[.int .u8 1, .int .u8 2, .int .u8 3] 5)) (w2.heap.size + 1) (some ⟨w2.heap.size, 0, none⟩) (kcells .u8 [1, 2, 3])) := Rd.new w2 _ _ _ rfl
  (with_reducible refine (Write_any (HD2.out.alloc _) 5 0 _ 3 3 [1, 2, 3] false wf5 wf0 (by rw [World.size_alloc]; exact HR.out) rfl (by omega) (by decide) (by decide)).mono ?_)
  rintro e w3 ⟨rfl, hD3, _⟩
  rw [HW2.out] at hD3 ⊢
  have HD3 := Lib.hid hD3
  clear hD3 HR HD2
  have HE : Hid (errV 11 = .iface 56 (.int .i64 11)) := by show _ = _; exact errV_ne (by omega)
  simp only
  rw [HE.out]
  go_wp2_with (fail)
  (with_reducible refine (is_err 11 11 _).mono ?_)
  rintro e w4 ⟨rfl, rfl⟩
  go_wp2
  go_ret
  exact ⟨rfl, HB0.out _ HD3.out.below⟩
end Go.Proofs.Yteooabcgojadcaa
