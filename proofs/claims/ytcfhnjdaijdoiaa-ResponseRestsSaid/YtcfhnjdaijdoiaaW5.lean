/-
  response.Meets.
-/
import Derived.Test.YtcfhnjdaijdoiaaW4
import Derived.Test.YtcfhnjdaijdoiaaPlain2
namespace Go.Proofs.Ytcfhnjdaijdoiaa
open Go.RowKit

set_option maxHeartbeats 1000000 in
theorem Meets_err (A : Option Addr) (n c : Nat) (l : List Tsk) (w : World) (hA : Rd w w.heap.size A (tcells l)) (hn : l.length = n) (hc : n ≤ c) (hcc : c ≤ maxLen) (k : Int) (hk : check l = k) (hk0 : k ≠ 0) :
    Calls Try.prog 39 #[.slice A n c] w fun e w' => e = .returned (.tuple #[.bool false, .iface 47 (.int .i64 k)]) ∧ Below w.heap.size w w' := by
  have h1 := ne_err
  go_enter Try.func39, Try.ntmps39
  go_wp2_with (fail)
  (with_reducible refine (Worst_err A n c l _ hA hn hc hcc k hk hk0).mono ?_)
  rintro e w1 ⟨rfl, hb⟩
  have HB := Lib.hid hb
  clear hb hk hk0 hn
  go_wp2
  go_ret2
  exact ⟨rfl, HB.out⟩

set_option maxHeartbeats 1000000 in
theorem Meets_ok (A : Option Addr) (n c : Nat) (l : List Tsk) (w : World) (hA : Rd w w.heap.size A (tcells l)) (hn : l.length = n) (hc : n ≤ c) (hcc : c ≤ maxLen) (hk : check l = 0) :
    Calls Try.prog 39 #[.slice A n c] w fun e w' => e = .returned (.tuple #[.bool (meets l), .nilIface]) ∧ Below w.heap.size w w' := by
  have h1 := ne_nil
  have hn8 := (good_of_check hk).2
  rw [hn] at hn8
  obtain ⟨ws, hws⟩ : ∃ ws, ws = l.map (worst l) := ⟨_, rfl⟩
  have HWS : Hid (∀ (j : Nat) (x : Tsk), l[j]? = some x → ws[j]? = some (worst l x)) := fun j x hx => by rw [hws]; simp [hx]
  have HK := Lib.hid hk
  have HN := Lib.hid hn
  have HA := Lib.hid hA
  have HW := Lib.hid hws
  clear hws hk hn hA
  go_enter Try.func39, Try.ntmps39
  go_wp2_with (fail)
  (with_reducible refine (Worst_ok A n c l _ HA.out HN.out hc hcc HK.out).mono ?_)
  rintro e w1 ⟨A', c', rfl, hc1, hc2, hr, hb⟩
  rw [← HW.out] at hr
  have HR := Lib.hid hr
  have HB := Lib.hid hb
  clear hr hb
  unfold maxLen at hc2
  go_wp2
  go_loop [18] (fun i => ∃ j : Nat, j ≤ n ∧ i = .int .i64 j ∧ meetsOf l (l.drop j) = meets l) (fun i => n - (intOf i).toNat)
  case atStart => exact ⟨0, Nat.zero_le _, rfl, rfl⟩
  case round =>
    obtain ⟨j, hj, rfl, hm⟩ := hrel
    have HM := Lib.hid hm
    clear hm
    by_cases hlt : j < n
    · obtain ⟨x, hx⟩ := getElem?_of_lt (l := l) (k := j) (by rw [HN.out]; exact hlt)
      obtain ⟨b, off, rfl, hbl, c0, c1, c2, c3, c4⟩ := (HA.out.below HB.out (Nat.le_refl _)).tsk hx
      obtain ⟨b', off', rfl, hbl', d0⟩ := HR.out.int (HWS.out j x hx)
      have HS : Hid ((if worst l x = 0 ∨ x.d < worst l x then false else meetsOf l (l.drop (j + 1))) = meets l) := by
        rw [← HM.out, meetsOf_step l l j x hx]; rfl
      have HX := Lib.hid hx
      clear hx c0 c1 c2 c4
      generalize worst l x = r at *
      by_cases h0 : r = 0
      · have h0' : (r == 0) = true := by simpa using h0
        have HE : Hid (meets l = false) := by
          have := HS.out
          rw [if_pos (Or.inl h0)] at this
          exact this.symm
        clear h0
        go_wp2
        go_ret2
        exact ⟨by rw [HE.out]; rfl, HB.out⟩
      · have h0' : (r == 0) = false := by simpa using h0
        by_cases hd : x.d < r
        · have HE : Hid (meets l = false) := by
            have := HS.out
            rw [if_pos (Or.inr hd)] at this
            exact this.symm
          clear h0
          go_wp2
          go_ret2
          exact ⟨by rw [HE.out]; rfl, HB.out⟩
        · have HE : Hid (meetsOf l (l.drop (j + 1)) = meets l) := by
            have := HS.out
            rw [if_neg (by omega)] at this
            exact this
          clear h0
          go_wp2
          go_round
          case rel => exact ⟨j + 1, by omega, by go_num, HE.out⟩
          case measure => simp [intOf]; omega
    · have hjn : j = n := by omega
      subst hjn
      have HE : Hid (meets l = true) := by
        rw [← HM.out, List.drop_eq_nil_of_le (by rw [HN.out]; omega)]; rfl
      go_wp2
      go_ret2
      exact ⟨by rw [HE.out]; rfl, HB.out⟩
end Go.Proofs.Ytcfhnjdaijdoiaa
