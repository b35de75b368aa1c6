/-
  The statement ResponseBusy, walked.
-/
import Derived.Test.YtcfhnjdaijdoiaaW3
import Derived.Test.YtcfhnjdaijdoiaaW7
import Derived.Test.YtcfhnjdaijdoiaaW16
namespace Go.Proofs.Ytcfhnjdaijdoiaa
open Go.RowKit
set_option linter.unusedVariables false

theorem num_any (k : Int) (w : World) : Calls Try.prog 34 #[errV k] w fun e w' => e = .returned (.int .i64 k) ∧ w = w' := by
  by_cases h : k = 0
  · subst h
    exact num_nil w
  · rw [errV_ne h]
    exact num_err k w

def BusyR (l : List Tsk) (i v k : Int) : Prop :=
  (¬ (0 ≤ i ∧ i < l.length) ∧ v = 0 ∧ k = 10) ∨ ∃ (j : Nat) (x : Tsk), i = j ∧ l[j]? = some x ∧ BusyRes (upTo x.q l) v k

theorem BusyR.unique {l : List Tsk} {i v k v' k' : Int} (h : BusyR l i v k) (h' : BusyR l i v' k') : v = v' ∧ k = k' := by
  rcases h with ⟨a, rfl, rfl⟩ | ⟨j, x, rfl, hx, hr⟩ <;> rcases h' with ⟨a', rfl, rfl⟩ | ⟨j', x', e, hx', hr'⟩
  · exact ⟨rfl, rfl⟩
  · have := (List.getElem?_eq_some_iff.1 hx').1
    omega
  · have := (List.getElem?_eq_some_iff.1 hx).1
    omega
  · obtain rfl : j = j' := by omega
    rw [hx] at hx'
    cases hx'
    exact hr.unique hr'

def SlackR (l : List Tsk) (i v k : Int) : Prop :=
  (¬ (0 ≤ i ∧ i < l.length) ∧ v = 0 ∧ k = 10) ∨ ∃ (j : Nat) (x : Tsk), i = j ∧ l[j]? = some x ∧ ((meets l = true ∧ ∃ s : Nat, SlackIs l j x s ∧ v = s ∧ k = 0) ∨ (meets l = false ∧ v = 0 ∧ k = 23))

theorem SlackR.unique {l : List Tsk} {i v k v' k' : Int} (h : SlackR l i v k) (h' : SlackR l i v' k') : v = v' ∧ k = k' := by
  rcases h with ⟨a, rfl, rfl⟩ | ⟨j, x, rfl, hx, hr⟩ <;> rcases h' with ⟨a', rfl, rfl⟩ | ⟨j', x', e, hx', hr'⟩
  · exact ⟨rfl, rfl⟩
  · have := (List.getElem?_eq_some_iff.1 hx').1
    clear hr'
    omega
  · have := (List.getElem?_eq_some_iff.1 hx).1
    clear hr
    omega
  · obtain rfl : j = j' := by clear hr hr'; omega
    rw [hx] at hx'
    cases hx'
    rcases hr with ⟨m, s, hs, rfl, rfl⟩ | ⟨m, rfl, rfl⟩ <;> rcases hr' with ⟨m', s', hs', rfl, rfl⟩ | ⟨m', rfl, rfl⟩
    · rw [hs.unique hs']; exact ⟨rfl, rfl⟩
    · rw [m] at m'; cases m'
    · rw [m] at m'; cases m'
    · exact ⟨rfl, rfl⟩

section
variable (A : Option Addr) (n c : Nat) (l : List Tsk) (i : Int) (w : World) (hA : Rd w w.heap.size A (tcells l)) (hn : l.length = n) (hc : n ≤ c) (hcc : c ≤ maxLen) (hk : check l = 0)
include hA hn hc hcc hk

theorem Busy_any : Calls Try.prog 44 #[.slice A n c, .int .i64 i] w fun e w' => ∃ v k, BusyR l i v k ∧ e = .returned (.tuple #[.int .i64 v, errV k]) ∧ Below w.heap.size w w' := by
  by_cases hi : 0 ≤ i ∧ i < n
  · obtain ⟨j, rfl⟩ : ∃ j : Nat, i = j := ⟨i.toNat, by omega⟩
    obtain ⟨x, hx⟩ := getElem?_of_lt (l := l) (k := j) (by omega)
    exact (Busy_ok A n c j l x w hA hn hc hcc hk hx).mono fun e w' ⟨v, k, hr, he, hb⟩ => ⟨v, k, .inr ⟨j, x, rfl, hx, hr⟩, he, hb⟩
  · exact (Busy_index A n c l i w hA hn hc hcc hk (by omega)).mono fun e w' ⟨he, hb⟩ => ⟨0, 10, .inl ⟨by rw [hn]; exact hi, rfl, rfl⟩, he, hb⟩

theorem refBusy_any : Calls Try.prog 45 #[.slice A n c, .int .i64 i] w fun e w' => ∃ v k, BusyR l i v k ∧ e = .returned (.tuple #[.int .i64 v, .int .i64 k]) ∧ Below w.heap.size w w' := by
  by_cases hi : 0 ≤ i ∧ i < n
  · obtain ⟨j, rfl⟩ : ∃ j : Nat, i = j := ⟨i.toNat, by omega⟩
    obtain ⟨x, hx⟩ := getElem?_of_lt (l := l) (k := j) (by omega)
    exact (refBusy_ok A n c j l x w hA hn hc hcc hk hx).mono fun e w' ⟨v, k, hr, he, hb⟩ => ⟨v, k, .inr ⟨j, x, rfl, hx, hr⟩, he, hb⟩
  · exact (refBusy_index A n c i w (Nat.le_trans hc hcc) (by omega)).mono fun e w' ⟨he, hb⟩ => ⟨0, 10, .inl ⟨by rw [hn]; exact hi, rfl, rfl⟩, he, hb⟩

theorem Slack_any : Calls Try.prog 38 #[.slice A n c, .int .i64 i] w fun e w' => ∃ v k, SlackR l i v k ∧ e = .returned (.tuple #[.int .i64 v, errV k]) ∧ Below w.heap.size w w' := by
  by_cases hi : 0 ≤ i ∧ i < n
  · obtain ⟨j, rfl⟩ : ∃ j : Nat, i = j := ⟨i.toNat, by omega⟩
    obtain ⟨x, hx⟩ := getElem?_of_lt (l := l) (k := j) (by omega)
    refine (Slack_ok A n c j l x w hA hn hc hcc hk hx).mono ?_
    rintro e w' ⟨⟨hm, s, hs, he⟩ | ⟨hm, he⟩, hb⟩
    · exact ⟨s, 0, .inr ⟨j, x, rfl, hx, .inl ⟨hm, s, hs, rfl, rfl⟩⟩, he, hb⟩
    · exact ⟨0, 23, .inr ⟨j, x, rfl, hx, .inr ⟨hm, rfl, rfl⟩⟩, he, hb⟩
  · exact (Slack_index A n c l i w hA hn hc hcc hk (by omega)).mono fun e w' ⟨he, hb⟩ => ⟨0, 10, .inl ⟨by rw [hn]; exact hi, rfl, rfl⟩, he, hb⟩

theorem refSlack_any : Calls Try.prog 46 #[.slice A n c, .int .i64 i] w fun e w' => ∃ v k, SlackR l i v k ∧ e = .returned (.tuple #[.int .i64 v, .int .i64 k]) ∧ Below w.heap.size w w' := by
  by_cases hi : 0 ≤ i ∧ i < n
  · obtain ⟨j, rfl⟩ : ∃ j : Nat, i = j := ⟨i.toNat, by omega⟩
    obtain ⟨x, hx⟩ := getElem?_of_lt (l := l) (k := j) (by omega)
    refine (refSlack_ok A n c j l x w hA hn hc hcc hk hx).mono ?_
    rintro e w' ⟨⟨hm, s, hs, he⟩ | ⟨hm, he⟩, hb⟩
    · exact ⟨s, 0, .inr ⟨j, x, rfl, hx, .inl ⟨hm, s, hs, rfl, rfl⟩⟩, he, hb⟩
    · exact ⟨0, 23, .inr ⟨j, x, rfl, hx, .inr ⟨hm, rfl, rfl⟩⟩, he, hb⟩
  · exact (refSlack_index A n c i w (Nat.le_trans hc hcc) (by omega)).mono fun e w' ⟨he, hb⟩ => ⟨0, 10, .inl ⟨by rw [hn]; exact hi, rfl, rfl⟩, he, hb⟩
end

set_option maxHeartbeats 1000000 in
theorem busy_refused (A : Option Addr) (n c : Nat) (l : List Tsk) (i : Int) (w : World) (hA : Rd w w.heap.size A (tcells l)) (hn : l.length = n) (hc : n ≤ c) (hcc : c ≤ maxLen) (hk : 40 < n ∨ (decide (check l = 0) && shortB l) = false) :
    Calls Try.prog 15 #[.slice A n c, .int .i64 i] w fun e w' => e = .returned (.bool true) ∧ Below w.heap.size w w' := by
  have HA := Lib.hid hA
  have HN := Lib.hid hn
  clear hA hn
  by_cases h40 : 40 < n
  · clear hk
    go_enter Try.func15, Try.ntmps15
    go_wp2_with (fail)
    refine (awake43 _).mono ?_
    rintro e w1 ⟨rfl, hb⟩
    have HB := Lib.hid hb
    clear hb
    go_wp2_with (fail)
    refine (awake43 _).mono ?_
    rintro e w3 ⟨rfl, hb⟩
    have HB3 : Hid (Below w.heap.size w w3) := HB.out.trans (hb.mono HB.out.size)
    clear hb
    go_wp2
    go_ret
    exact ⟨rfl, HB3.out⟩
  · have HK : Hid ((decide (check l = 0) && shortB l) = false) := by
      rcases hk with h | h
      · exact absurd h h40
      · exact h
    clear hk
    go_enter Try.func15, Try.ntmps15
    go_wp2_with (fail)
    refine (awake43 _).mono ?_
    rintro e w1 ⟨rfl, hb⟩
    have HB := Lib.hid hb
    have hs := hb.size
    clear hb
    go_wp2_with (fail)
    (with_reducible refine (short_any A n c l _ ((HA.out.below HB.out (Nat.le_refl _)).more hs) HN.out hc hcc).mono ?_)
    rintro e w2 ⟨rfl, hb⟩
    rw [HK.out]
    have HB2 : Hid (Below w.heap.size w w2) := HB.out.trans (hb.mono hs)
    clear hb
    go_wp2_with (fail)
    refine (awake43 _).mono ?_
    rintro e w3 ⟨rfl, hb⟩
    have HB3 : Hid (Below w.heap.size w w3) := HB2.out.trans (hb.mono HB2.out.size)
    clear hb
    go_wp2
    go_ret
    exact ⟨rfl, HB3.out⟩

set_option maxHeartbeats 2000000 in
theorem busy_main (A : Option Addr) (n c : Nat) (l : List Tsk) (i : Int) (w : World) (hA : Rd w w.heap.size A (tcells l)) (hn : l.length = n) (hc : n ≤ c) (hcc : c ≤ maxLen) (hk : check l = 0) (hsh : shortB l = true) :
    Calls Try.prog 15 #[.slice A n c, .int .i64 i] w fun e w' => e = .returned (.bool true) ∧ Below w.heap.size w w' := by
  have hn8 := (good_of_check hk).2
  rw [hn] at hn8
  have HK := Lib.hid hk
  have HKS : Hid ((decide (check l = 0) && shortB l) = true) := by simp [Hid, hk, hsh]
  have HA := Lib.hid hA
  have HN := Lib.hid hn
  clear hA hn hk hsh
  go_enter Try.func15, Try.ntmps15
  go_wp2_with (fail)
  refine (awake43 _).mono ?_
  rintro e w1 ⟨rfl, hb⟩
  have HB := Lib.hid hb
  have hs := hb.size
  clear hb
  go_wp2_with (fail)
  (with_reducible refine (short_any A n c l _ ((HA.out.below HB.out (Nat.le_refl _)).more hs) HN.out hc hcc).mono ?_)
  rintro e w2 ⟨rfl, hb⟩
  rw [HKS.out]
  have HB2 : Hid (Below w.heap.size w w2) := HB.out.trans (hb.mono hs)
  have hs2 := HB2.out.size
  clear hb
  go_wp2_with (fail)
  (with_reducible refine (Busy_any A n c l i _ ((HA.out.below HB2.out (Nat.le_refl _)).more hs2) HN.out hc hcc HK.out).mono ?_)
  rintro e w3 ⟨v, k, hr, rfl, hb⟩
  have HR := Lib.hid hr
  have HB3 : Hid (Below w.heap.size w w3) := HB2.out.trans (hb.mono hs2)
  have hs3 := HB3.out.size
  clear hr hb
  go_wp2_with (fail)
  (with_reducible refine (Slack_any A n c l i _ ((HA.out.below HB3.out (Nat.le_refl _)).more hs3) HN.out hc hcc HK.out).mono ?_)
  rintro e w4 ⟨v2, k2, hr, rfl, hb⟩
  have HR2 := Lib.hid hr
  have HB4 : Hid (Below w.heap.size w w4) := HB3.out.trans (hb.mono hs3)
  have hs4 := HB4.out.size
  clear hr hb
  go_wp2_with (fail)
  (with_reducible refine (refBusy_any A n c l i _ ((HA.out.below HB4.out (Nat.le_refl _)).more hs4) HN.out hc hcc HK.out).mono ?_)
  rintro e w5 ⟨v', k', hr, rfl, hb⟩
  obtain ⟨rfl, rfl⟩ := HR.out.unique hr
  have HB5 : Hid (Below w.heap.size w w5) := HB4.out.trans (hb.mono hs4)
  have hs5 := HB5.out.size
  clear hr hb
  go_wp2_with (fail)
  (with_reducible refine (refSlack_any A n c l i _ ((HA.out.below HB5.out (Nat.le_refl _)).more hs5) HN.out hc hcc HK.out).mono ?_)
  rintro e w6 ⟨v', k', hr, rfl, hb⟩
  obtain ⟨rfl, rfl⟩ := HR2.out.unique hr
  have HB6 : Hid (Below w.heap.size w w6) := HB5.out.trans (hb.mono hs5)
  clear hr hb
  go_wp2_with (fail)
  refine (num_any k _).mono ?_
  rintro e w7 ⟨rfl, rfl⟩
  go_wp2_with (fail)
  refine (num_any k2 _).mono ?_
  rintro e w7 ⟨rfl, rfl⟩
  go_wp2
  go_ret
  exact ⟨rfl, HB6.out⟩
end Go.Proofs.Ytcfhnjdaijdoiaa
