/-
  tasks.given, tasks.Timeline, tasks.Jobs.
-/
import Derived.Test.YtcfhnjdaijdoiaaW21
namespace Go.Proofs.Ytcfhnjdaijdoiaa
open Go.RowKit
set_option linter.unusedVariables false

/-- What is wrong with tasks and a time. -/
def givenC (l : List Tsk) (T : Int) : Int := if check l ≠ 0 then check l else if T < 0 ∨ 65536 < T then 3 else 0

set_option maxHeartbeats 1000000 in
theorem given_any (A : Option Addr) (n c : Nat) (T : Int) (l : List Tsk) (w : World) (hA : Rd w w.heap.size A (tcells l)) (hn : l.length = n) (hc : n ≤ c) (hcc : c ≤ maxLen) :
    Calls Try.prog 50 #[.slice A n c, .int .i64 T] w fun e w' => e = .returned (errV (givenC l T)) ∧ Below w.heap.size w w' := by
  have h1 := ne_err
  have h2 := ne_nil
  have HN := Lib.hid hn
  have HA := Lib.hid hA
  obtain ⟨k, HK⟩ : ∃ k, Hid (check l = k) := ⟨_, Lib.hid rfl⟩
  clear hn hA
  go_enter Try.func50, Try.ntmps50
  go_wp2_with (fail)
  (with_reducible refine (check_any A n c l _ HA.out HN.out hc hcc).mono ?_)
  rintro e w1 ⟨rfl, hb⟩
  have HB := Lib.hid hb
  clear hb
  rw [HK.out]
  by_cases hk : k = 0
  · subst hk
    rw [errV_zero]
    by_cases h0 : T < 0
    · have HM : Hid (givenC l T = 3) := by unfold givenC; rw [if_neg (by rw [HK.out]; simp), if_pos (.inl h0)]; rfl
      have hd : decide (T < 0) = true := by simp [h0]
      go_wp2
      go_ret
      exact ⟨by rw [HM.out]; rfl, HB.out⟩
    · have hd : decide (T < 0) = false := by simp; omega
      by_cases h6 : 65536 < T
      · have HM : Hid (givenC l T = 3) := by unfold givenC; rw [if_neg (by rw [HK.out]; simp), if_pos (.inr h6)]; rfl
        have hd : decide (65536 < T) = true := by simp [h6]
        go_wp2
        go_ret
        exact ⟨by rw [HM.out]; rfl, HB.out⟩
      · have HM : Hid (givenC l T = 0) := by unfold givenC; rw [if_neg (by rw [HK.out]; simp), if_neg (by rintro (h | h) <;> omega)]; rfl
        have hd : decide (65536 < T) = false := by simp; omega
        go_wp2
        go_ret
        exact ⟨by rw [HM.out]; rfl, HB.out⟩
  · have HM : Hid (givenC l T = k) := by unfold givenC; rw [if_pos (by rw [HK.out]; exact hk), HK.out]; exact rfl
    have HE := Lib.hid (errV_ne hk)
    rw [errV_ne hk]
    clear hk
    go_wp2
    go_ret
    exact ⟨by rw [HM.out, HE.out]; rfl, HB.out⟩

theorem givenC_ok {l : List Tsk} {T : Nat} (hk : check l = 0) (hT : T ≤ 65536) : givenC l T = 0 := by
  unfold givenC; rw [if_neg (by rw [hk]; simp), if_neg (by rintro (h | h) <;> omega)]

set_option maxHeartbeats 1000000 in
theorem Timeline_err (A : Option Addr) (n c : Nat) (T : Int) (l : List Tsk) (w : World) (hA : Rd w w.heap.size A (tcells l)) (hn : l.length = n) (hc : n ≤ c) (hcc : c ≤ maxLen) (k : Int) (hk : givenC l T = k) (hk0 : k ≠ 0) :
    Calls Try.prog 20 #[.slice A n c, .int .i64 T] w fun e w' => e = .returned (.tuple #[.slice none 0 0, .iface 47 (.int .i64 k)]) ∧ Below w.heap.size w w' := by
  have h1 := ne_err
  go_enter Try.func20, Try.ntmps20
  go_wp2_with (fail)
  (with_reducible refine (given_any A n c T l _ hA hn hc hcc).mono ?_)
  rintro e w1 ⟨rfl, hb⟩
  rw [hk, errV_ne hk0]
  have HB := Lib.hid hb
  clear hb hk hk0 hn
  go_wp2
  go_ret2
  exact ⟨rfl, HB.out⟩

set_option maxHeartbeats 1000000 in
theorem Timeline_ok (A : Option Addr) (n c T : Nat) (l : List Tsk) (w : World) (hA : Rd w w.heap.size A (tcells l)) (hn : l.length = n) (hc : n ≤ c) (hcc : c ≤ maxLen) (hk : check l = 0) (hT : T ≤ 65536) :
    Calls Try.prog 20 #[.slice A n c, .int .i64 T] w fun e w' => ∃ A' c', e = .returned (.tuple #[.slice A' T c', .nilIface]) ∧ T ≤ c' ∧ c' ≤ maxLen ∧ Rd w' w'.heap.size A' (icells (simTo l T).2.2) ∧ Below w.heap.size w w' := by
  have h1 := ne_nil
  have HA := Lib.hid hA
  have HN := Lib.hid hn
  have HK := Lib.hid hk
  clear hA hn hk
  go_enter Try.func20, Try.ntmps20
  go_wp2_with (fail)
  (with_reducible refine (given_any A n c T l _ HA.out HN.out hc hcc).mono ?_)
  rintro e w1 ⟨rfl, hb⟩
  rw [givenC_ok HK.out hT, errV_zero]
  have HB := Lib.hid hb
  clear hb
  go_wp2_with (fail)
  (with_reducible refine (simulate_any A n c T l _ ((HA.out.below HB.out (Nat.le_refl _)).more HB.out.size) HN.out HK.out hT).mono ?_)
  rintro e w2 ⟨A1, c1, A2, c2, rfl, h11, h12, h21, h22, h13, h23, hb⟩
  have HE : Hid (∃ A' c', Ending.returned (.tuple #[.slice A1 T c1, .nilIface]) = .returned (.tuple #[.slice A' T c', .nilIface]) ∧ T ≤ c' ∧ c' ≤ maxLen ∧ Rd w2 w2.heap.size A' (icells (simTo l T).2.2) ∧ Below w.heap.size w w2) :=
    ⟨A1, c1, rfl, h11, h12, h13, HB.out.trans (hb.mono HB.out.size)⟩
  clear h11 h12 h21 h22 h13 h23 hb
  generalize (simTo l T).2.1.length = nj at *
  go_wp2
  go_ret2
  exact HE.out

set_option maxHeartbeats 1000000 in
theorem Jobs_err (A : Option Addr) (n c : Nat) (T : Int) (l : List Tsk) (w : World) (hA : Rd w w.heap.size A (tcells l)) (hn : l.length = n) (hc : n ≤ c) (hcc : c ≤ maxLen) (k : Int) (hk : givenC l T = k) (hk0 : k ≠ 0) :
    Calls Try.prog 25 #[.slice A n c, .int .i64 T] w fun e w' => e = .returned (.tuple #[.slice none 0 0, .iface 47 (.int .i64 k)]) ∧ Below w.heap.size w w' := by
  have h1 := ne_err
  go_enter Try.func25, Try.ntmps25
  go_wp2_with (fail)
  (with_reducible refine (given_any A n c T l _ hA hn hc hcc).mono ?_)
  rintro e w1 ⟨rfl, hb⟩
  rw [hk, errV_ne hk0]
  have HB := Lib.hid hb
  clear hb hk hk0 hn
  go_wp2
  go_ret2
  exact ⟨rfl, HB.out⟩

set_option maxHeartbeats 1000000 in
theorem Jobs_ok (A : Option Addr) (n c T nj : Nat) (l : List Tsk) (w : World) (hA : Rd w w.heap.size A (tcells l)) (hn : l.length = n) (hc : n ≤ c) (hcc : c ≤ maxLen) (hk : check l = 0) (hT : T ≤ 65536) (hj : (simTo l T).2.1.length = nj) :
    Calls Try.prog 25 #[.slice A n c, .int .i64 T] w fun e w' => ∃ A' c', e = .returned (.tuple #[.slice A' nj c', .nilIface]) ∧ nj ≤ c' ∧ c' ≤ maxLen ∧ Rd w' w'.heap.size A' (jcells (simTo l T).2.1) ∧ Below w.heap.size w w' := by
  have h1 := ne_nil
  have HA := Lib.hid hA
  have HN := Lib.hid hn
  have HK := Lib.hid hk
  have HJ := Lib.hid hj
  clear hA hn hk hj
  go_enter Try.func25, Try.ntmps25
  go_wp2_with (fail)
  (with_reducible refine (given_any A n c T l _ HA.out HN.out hc hcc).mono ?_)
  rintro e w1 ⟨rfl, hb⟩
  rw [givenC_ok HK.out hT, errV_zero]
  have HB := Lib.hid hb
  clear hb
  go_wp2_with (fail)
  (with_reducible refine (simulate_any A n c T l _ ((HA.out.below HB.out (Nat.le_refl _)).more HB.out.size) HN.out HK.out hT).mono ?_)
  rintro e w2 ⟨A1, c1, A2, c2, rfl, h11, h12, h21, h22, h13, h23, hb⟩
  rw [HJ.out] at h21 ⊢
  have HE : Hid (∃ A' c', Ending.returned (.tuple #[.slice A2 nj c2, .nilIface]) = .returned (.tuple #[.slice A' nj c', .nilIface]) ∧ nj ≤ c' ∧ c' ≤ maxLen ∧ Rd w2 w2.heap.size A' (jcells (simTo l T).2.1) ∧ Below w.heap.size w w2) :=
    ⟨A2, c2, rfl, h21, h22, h23, HB.out.trans (hb.mono HB.out.size)⟩
  clear h11 h12 h21 h22 h13 h23 hb
  go_wp2
  go_ret2
  exact HE.out
end Go.Proofs.Ytcfhnjdaijdoiaa
