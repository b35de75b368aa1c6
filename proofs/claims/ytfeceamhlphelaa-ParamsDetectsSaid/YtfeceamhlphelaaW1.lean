/-
  Errors, pointers, within, Clone.
-/
import Derived.Test.YtfeceamhlphelaaChecked
import Derived.Test.YtfeceamhlphelaaMemF
import Derived.Deep.DeepCutAuto
namespace Go.Proofs.Ytfeceamhlphelaa
open Go.RowKit
set_option linter.unusedVariables false

theorem ta_err (c : Int) (w : World) : (Instr.typeAssert (.iface 40 (.int .i64 c)) 30 40 true).run Try.prog w = .ok (.tuple #[.int .i64 c, .bool true]) w := by kernel_rfl
theorem ta_nil (w : World) : (Instr.typeAssert .nilIface 30 40 true).run Try.prog w = .ok (.tuple #[.int .i64 0, .bool false]) w := by kernel_rfl
theorem ne_err (c : Int) (w : World) : (binOp .neq 30 (.iface 40 (.int .i64 c)) .nilIface).run Try.prog w = .ok (.bool true) w := by kernel_rfl
theorem ne_nil (w : World) : (binOp .neq 30 .nilIface .nilIface).run Try.prog w = .ok (.bool false) w := by kernel_rfl
theorem eq_err (c : Int) (w : World) : (binOp .eql 30 (.iface 40 (.int .i64 c)) .nilIface).run Try.prog w = .ok (.bool false) w := by kernel_rfl
theorem eq_nil (w : World) : (binOp .eql 30 .nilIface .nilIface).run Try.prog w = .ok (.bool true) w := by kernel_rfl
theorem eqp_some (d : Nat) (w : World) : (binOp .eql 28 (.pointer (some ⟨d, 0, none⟩)) (.pointer none)).run Try.prog w = .ok (.bool false) w := by kernel_rfl
theorem eqp_none (w : World) : (binOp .eql 28 (.pointer none) (.pointer none)).run Try.prog w = .ok (.bool true) w := by kernel_rfl
theorem nep_some (d : Nat) (w : World) : (binOp .neq 28 (.pointer (some ⟨d, 0, none⟩)) (.pointer none)).run Try.prog w = .ok (.bool true) w := by kernel_rfl
theorem nep_none (w : World) : (binOp .neq 28 (.pointer none) (.pointer none)).run Try.prog w = .ok (.bool false) w := by kernel_rfl

theorem num_nil (w : World) : Calls Try.prog 44 #[.nilIface] w fun e w' => e = .returned (.int .i64 0) ∧ w = w' := by
  go_enter Try.func44, Try.ntmps44
  go_wp2
  go_ret
  exact ⟨rfl, rfl⟩
theorem num_err (c : Int) (w : World) : Calls Try.prog 44 #[.iface 40 (.int .i64 c)] w fun e w' => e = .returned (.int .i64 c) ∧ w = w' := by
  have h1 := ta_err c
  go_enter Try.func44, Try.ntmps44
  go_wp2
  go_ret
  exact ⟨rfl, rfl⟩
theorem num_any (k : Int) (w : World) : Calls Try.prog 44 #[errV k] w fun e w' => e = .returned (.int .i64 k) ∧ w = w' := by
  by_cases h : k = 0
  · subst h
    exact num_nil w
  · rw [errV_ne h]
    exact num_err k w
theorem is_err (c d : Int) (w : World) : Calls Try.prog 28 #[.iface 40 (.int .i64 c), .int .i64 d] w fun e w' => e = .returned (.bool (c == d)) ∧ w = w' := by
  have h1 := ta_err c
  go_enter Try.func28, Try.ntmps28
  go_wp2
  go_ret
  exact ⟨rfl, rfl⟩
theorem is_nil (d : Int) (w : World) : Calls Try.prog 28 #[.nilIface, .int .i64 d] w fun e w' => e = .returned (.bool false) ∧ w = w' := by
  have h1 := ta_nil
  go_enter Try.func28, Try.ntmps28
  go_wp2
  go_ret
  exact ⟨rfl, rfl⟩

theorem within_yes (n lo hi : Int) (w : World) (h1 : lo ≤ n) (h2 : n ≤ hi) : Calls Try.prog 75 #[.int .i64 n, .int .i64 lo, .int .i64 hi] w fun e w' => e = .returned (.bool true) ∧ w = w' := by
  go_enter Try.func75, Try.ntmps75
  go_wp2
  go_ret
  refine ⟨?_, rfl⟩
  first | rfl | (simp; omega)
theorem within_no (n lo hi : Int) (w : World) (h : n < lo ∨ hi < n) : Calls Try.prog 75 #[.int .i64 n, .int .i64 lo, .int .i64 hi] w fun e w' => e = .returned (.bool false) ∧ w = w' := by
  by_cases h1 : n < lo
  · clear h
    go_enter Try.func75, Try.ntmps75
    go_wp2
    go_ret
    refine ⟨?_, rfl⟩
    first | rfl | (simp; omega)
  · have h2 : hi < n := by omega
    have h3 : lo ≤ n := by omega
    clear h h1
    go_enter Try.func75, Try.ntmps75
    go_wp2
    go_ret
    refine ⟨?_, rfl⟩
    first | rfl | (simp; omega)
theorem within_any (n lo hi : Int) (w : World) : Calls Try.prog 75 #[.int .i64 n, .int .i64 lo, .int .i64 hi] w fun e w' => e = .returned (.bool (decide (lo ≤ n ∧ n ≤ hi))) ∧ w = w' := by
  by_cases h : lo ≤ n ∧ n ≤ hi
  · rw [decide_eq_true h]
    exact within_yes n lo hi w h.1 h.2
  · rw [decide_eq_false h]
    exact within_no n lo hi w (by omega)

theorem info5 : (Try.prog.info? 5).map (fun i => (i.zero, i.size, i.bytes)) = some (some (.int .u8 0), 1, 1) := by kernel_rfl
theorem info3 : (Try.prog.info? 3).map (fun i => (i.zero, i.size, i.bytes)) = some (some (.int .i64 0), 1, 8) := by kernel_rfl
theorem cell_one_new (w : World) (u : Value) (t : TypeId) : ∀ j x, [u][j]? = some x → (w.alloc (.cells #[u] t)).cell? ((⟨w.heap.size, 0, none⟩ : Addr).add j) = some x := cells_new w #[u] t [u] rfl
theorem kcells_append (k : IntKind) (a b : List Int) : kcells k (a ++ b) = kcells k a ++ kcells k b := by simp [kcells]
theorem kcells_length (k : IntKind) (l : List Int) : (kcells k l).length = l.length := by simp [kcells]
theorem icells_length (l : List Int) : (icells l).length = l.length := by simp [icells]
theorem kcells_one (k : IntKind) (l : List Int) : ∀ u ∈ kcells k l, u.oneCell' = true := by
  intro u hu
  simp only [kcells, List.mem_map] at hu
  obtain ⟨x, _, rfl⟩ := hu
  rfl
theorem icells_one (l : List Int) : ∀ u ∈ icells l, u.oneCell' = true := by
  intro u hu
  simp only [icells, List.mem_map] at hu
  obtain ⟨x, _, rfl⟩ := hu
  rfl

theorem eqs8_some (a : Addr) (n c : Nat) (w : World) : (binOp .eql 23 (.slice (some a) n c) (.slice none 0 0)).run Try.prog w = .ok (.bool false) w := by kernel_rfl
theorem eqs8_none (n c : Nat) (w : World) : (binOp .eql 23 (.slice none n c) (.slice none 0 0)).run Try.prog w = .ok (.bool true) w := by kernel_rfl
theorem eqs3_some (a : Addr) (n c : Nat) (w : World) : (binOp .eql 44 (.slice (some a) n c) (.slice none 0 0)).run Try.prog w = .ok (.bool false) w := by kernel_rfl
theorem eqs3_none (n c : Nat) (w : World) : (binOp .eql 44 (.slice none n c) (.slice none 0 0)).run Try.prog w = .ok (.bool true) w := by kernel_rfl

set_option maxHeartbeats 2000000 in
theorem clone8_any (A : Option Addr) (n c B : Nat) (b : List Int) (w : World) (hA : Rd w B A (kcells .u8 b)) (hB : B ≤ w.heap.size) (hn : b.length = n) (hm : n ≤ 140737488351232) :
    Calls Try.prog 79 #[.slice A n c] w fun e w' => ∃ v', e = .returned v' ∧ w'.ownsRow w.heap.size 5 1 v' n (kcells .u8 b) ∧ Below w.heap.size w w' := by
  cases A with
  | none =>
    have hb : b = [] := by
      cases hbb : b with
      | nil => rfl
      | cons x r =>
        obtain ⟨_, _, e, _⟩ := hA (by rw [hbb]; simp [kcells])
        cases e
    subst hb
    simp at hn
    subst hn
    have h1 := eqs8_none 0 c
    clear hA
    go_enter Try.func79, Try.ntmps79
    go_wp2
    go_ret
    exact ⟨_, rfl, World.ownsRow_nil .., Below.refl _ _⟩
  | some a =>
    have h1 := eqs8_some a n c
    have HA := Lib.hid hA
    have HKL : Hid ((kcells .u8 b).length = n * 1) := by rw [Hid, kcells_length, hn]; omega
    obtain ⟨i5, hi5, hz50, hz51, hz52⟩ := info_parts info5
    have hm0 : 0 ≤ maxLen := Nat.zero_le _
    clear hA hn
    go_enter Try.func79, Try.ntmps79
    go_wp2_with (at_builtin; refine wpList_append_rd _ rfl _ _ 23 rfl w.heap.size 5 i5 (.int .u8 0) 1 1 Try.underlying23 hi5 hz50 hz51 hz52 rfl (by omega) _ 0 [] rfl (World.ownsRow_lit w #[] 0 (Nat.le_refl _) hm0 rfl) B _ n c (kcells .u8 b) rfl (HA.out.below ((Below.refl w.heap.size w).alloc (Nat.le_refl _) _) hB) HKL.out (kcells_one _ _) (by unfold maxLen; omega) (by omega) (by simp) ?_)
    intro v' w2 hown hgrow hat
    have HB2 : Hid (Below w.heap.size w w2) := ((Below.refl w.heap.size w).alloc (Nat.le_refl _) _).grown hgrow (by simp) (fun k hk => by have hk' : some w.heap.size = some k := hk; injection hk'; omega)
    try simp only [Nat.zero_add, List.nil_append] at hown
    have HO := Lib.hid hown
    clear hown hgrow hat
    go_wp2
    go_ret
    exact ⟨_, rfl, by simpa using HO.out, HB2.out⟩

set_option maxHeartbeats 2000000 in
theorem clone3_any (A : Option Addr) (n c B : Nat) (b : List Int) (w : World) (hA : Rd w B A (icells b)) (hB : B ≤ w.heap.size) (hn : b.length = n) (hm : n ≤ 1000000) :
    Calls Try.prog 80 #[.slice A n c] w fun e w' => ∃ v', e = .returned v' ∧ w'.ownsRow w.heap.size 3 1 v' n (icells b) ∧ Below w.heap.size w w' := by
  cases A with
  | none =>
    have hb : b = [] := by
      cases hbb : b with
      | nil => rfl
      | cons x r =>
        obtain ⟨_, _, e, _⟩ := hA (by rw [hbb]; simp [icells])
        cases e
    subst hb
    simp at hn
    subst hn
    have h1 := eqs3_none 0 c
    clear hA
    go_enter Try.func80, Try.ntmps80
    go_wp2
    go_ret
    exact ⟨_, rfl, World.ownsRow_nil .., Below.refl _ _⟩
  | some a =>
    have h1 := eqs3_some a n c
    have HA := Lib.hid hA
    have HKL : Hid ((icells b).length = n * 1) := by rw [Hid, icells_length, hn]; omega
    obtain ⟨i3, hi3, hz30, hz31, hz32⟩ := info_parts info3
    have hm0 : 0 ≤ maxLen := Nat.zero_le _
    clear hA hn
    go_enter Try.func80, Try.ntmps80
    go_wp2_with (at_builtin; refine wpList_append_rd _ rfl _ _ 44 rfl w.heap.size 3 i3 (.int .i64 0) 1 8 Try.underlying44 hi3 hz30 hz31 hz32 rfl (by omega) _ 0 [] rfl (World.ownsRow_lit w #[] 0 (Nat.le_refl _) hm0 rfl) B _ n c (icells b) rfl (HA.out.below ((Below.refl w.heap.size w).alloc (Nat.le_refl _) _) hB) HKL.out (icells_one _) (by unfold maxLen; omega) (by omega) (by simp) ?_)
    intro v' w2 hown hgrow hat
    have HB2 : Hid (Below w.heap.size w w2) := ((Below.refl w.heap.size w).alloc (Nat.le_refl _) _).grown hgrow (by simp) (fun k hk => by have hk' : some w.heap.size = some k := hk; injection hk'; omega)
    try simp only [Nat.zero_add, List.nil_append] at hown
    have HO := Lib.hid hown
    clear hown hgrow hat
    go_wp2
    go_ret
    exact ⟨_, rfl, by simpa using HO.out, HB2.out⟩
end Go.Proofs.Ytfeceamhlphelaa
