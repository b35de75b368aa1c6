/-
  The statements DictionaryBytes and DictionaryBack, walked.
-/
import Derived.Test.YteooabcgojadcaaW8
import Derived.Test.YteooabcgojadcaaStr
import Derived.Test.YteooabcgojadcaaPlain4
namespace Go.Proofs.Yteooabcgojadcaa
open Go.RowKit
set_option linter.unusedVariables false

set_option maxRecDepth 100000 in
set_option maxHeartbeats 1000000 in
theorem dbytes_long (t v : Int) (A : Option Addr) (n c : Nat) (w : World) (hn : n ≤ maxLen) (h20 : 20 < n) :
    Calls Try.prog 4 #[.int .i64 t, .int .i64 v, .slice A n c] w fun e w' => e = .returned (.bool true) ∧ Below w.heap.size w w' := by
  unfold maxLen at hn
  go_enter Try.func4, Try.ntmps4
  go_wp2_with (fail)
  refine (awake53_any _).mono ?_
  rintro e w1 ⟨rfl, hb⟩
  have HB := Lib.hid hb
  clear hb
  go_wp2_with (fail)
  refine (awake53_any _).mono ?_
  rintro e w3 ⟨rfl, hb⟩
  have HB3 : Hid (Below w.heap.size w w3) := HB.out.trans (hb.mono HB.out.size)
  clear hb
  go_wp2
  go_ret
  exact ⟨rfl, HB3.out⟩

set_option maxRecDepth 100000 in
set_option maxHeartbeats 2000000 in
theorem dbytes_main (t v : Int) (A : Option Addr) (n c : Nat) (b : List Int) (w : World) (hA : Rd w w.heap.size A (kcells .u8 b)) (hn : b.length = n) (hc : n ≤ c) (hcc : c ≤ maxLen) (hr : ∀ x ∈ b, 0 ≤ x ∧ x < 256) (h20 : n ≤ 20) :
    Calls Try.prog 4 #[.int .i64 t, .int .i64 v, .slice A n c] w fun e w' => e = .returned (.bool true) ∧ Below w.heap.size w w' := by
  have HA := Lib.hid hA
  have HN := Lib.hid hn
  have HR := Lib.hid hr
  have h1 := ne_nil
  clear hA hn hr
  go_enter Try.func4, Try.ntmps4
  go_wp2_with (fail)
  refine (awake53_any _).mono ?_
  rintro e w1 ⟨rfl, hb⟩
  have HB := Lib.hid hb
  clear hb
  go_wp2_with (fail)
  (with_reducible refine (Bytes_any t v _).mono ?_)
  rintro e w2 ⟨A2, c2, rfl, hc21, hc22, hr2, hb⟩
  have HB2 : Hid (Below w.heap.size w w2) := HB.out.trans (hb.mono HB.out.size)
  have HR2 := Lib.hid hr2
  clear hb hr2
  go_wp2_with (fail)
  (with_reducible refine (refBytes_any t v _).mono ?_)
  rintro e w3 ⟨A3, c3, rfl, hc31, hc32, hr3, hb⟩
  have HB3 : Hid (Below w.heap.size w w3) := HB2.out.trans (hb.mono HB2.out.size)
  have s2 := str_of (c := c2) (HR2.out.below hb (Nat.le_refl _)) rfl
  have s3 := str_of (c := c3) hr3 rfl
  have HA3 : Hid (Rd w3 w3.heap.size A (kcells .u8 b)) := (HA.out.below HB3.out (Nat.le_refl _)).more HB3.out.size
  generalize bytesO t v = q at *
  obtain ⟨q, qe⟩ := q
  simp only at s2 s3
  clear hb hr3 HR2
  go_wp2_with (fail)
  (with_reducible refine (Number_any t A n c b _ HA3.out HN.out hc hcc HR.out).mono ?_)
  rintro e w4 ⟨rfl, rfl⟩
  simp only [numV]
  go_wp2_with (fail)
  (with_reducible refine (refNumber_any t A n c b _ HA3.out HN.out hc hcc HR.out).mono ?_)
  rintro e w4 ⟨rfl, rfl⟩
  simp only [numR]
  generalize numO t b = z at *
  obtain ⟨z, ze⟩ := z
  simp only
  go_wp2_with (fail)
  (with_reducible refine (num_any qe _).mono ?_)
  rintro e w4 ⟨rfl, rfl⟩
  go_wp2_with (fail)
  (with_reducible refine (num_any ze _).mono ?_)
  rintro e w4 ⟨rfl, rfl⟩
  go_wp2
  go_ret
  exact ⟨rfl, HB3.out⟩

set_option maxRecDepth 100000 in
set_option maxHeartbeats 1000000 in
theorem dback_long (k v : Int) (A : Option Addr) (n c : Nat) (w : World) (hn : n ≤ maxLen) (h20 : 20 < n) :
    Calls Try.prog 5 #[.int .u8 k, .int .i64 v, .slice A n c] w fun e w' => e = .returned (.bool true) ∧ Below w.heap.size w w' := by
  unfold maxLen at hn
  go_enter Try.func5, Try.ntmps5
  go_wp2_with (fail)
  refine (awake53_any _).mono ?_
  rintro e w1 ⟨rfl, hb⟩
  have HB := Lib.hid hb
  clear hb
  go_wp2_with (fail)
  refine (awake53_any _).mono ?_
  rintro e w3 ⟨rfl, hb⟩
  have HB3 : Hid (Below w.heap.size w w3) := HB.out.trans (hb.mono HB.out.size)
  clear hb
  go_wp2
  go_ret
  exact ⟨rfl, HB3.out⟩

set_option maxRecDepth 100000 in
set_option maxHeartbeats 4000000 in
theorem dback_main (k v : Int) (A : Option Addr) (n c : Nat) (b : List Int) (w : World) (hk : 0 ≤ k ∧ k ≤ 255) (hA : Rd w w.heap.size A (kcells .u8 b)) (hn : b.length = n) (hc : n ≤ c) (hcc : c ≤ maxLen) (hr : ∀ x ∈ b, 0 ≤ x ∧ x < 256) (h20 : n ≤ 20) :
    Calls Try.prog 5 #[.int .u8 k, .int .i64 v, .slice A n c] w fun e w' => e = .returned (.bool true) ∧ Below w.heap.size w w' := by
  have HA := Lib.hid hA
  have HN := Lib.hid hn
  have HR := Lib.hid hr
  have h1 := ne_nil
  have h2 := ne_err
  have h3 := eq_nil
  have h4 := eq_err
  obtain ⟨t, ht⟩ : ∃ t, k % 7 = t := ⟨_, rfl⟩
  have ht1 : k.tmod 7 = t := by rw [Int.tmod_eq_emod_of_nonneg hk.1]; exact ht
  have ht2 : 0 ≤ t ∧ t < 7 := by omega
  obtain ⟨hk1, hk2⟩ := hk
  obtain ⟨ht3, ht4⟩ := ht2
  obtain ⟨z, ze, hz⟩ : ∃ z ze, numO t b = (z, ze) := ⟨_, _, rfl⟩
  have HZ := Lib.hid hz
  clear hA hn hr hz
  go_enter Try.func5, Try.ntmps5
  go_wp2_with (fail)
  refine (awake53_any _).mono ?_
  rintro e w1 ⟨rfl, hb⟩
  have HB := Lib.hid hb
  clear hb
  go_wp2_with (fail)
  (with_reducible refine (Bytes_any t v _).mono ?_)
  rintro e w2 ⟨A2, c2, rfl, hc21, hc22, hr2, hb⟩
  have HBw : Hid (Below w.heap.size w w2) := HB.out.trans (hb.mono HB.out.size)
  have HR2 := Lib.hid hr2
  have HAw : Hid (Rd w2 w2.heap.size A (kcells .u8 b)) := (HA.out.below HBw.out (Nat.le_refl _)).more HBw.out.size
  have HQB := Lib.hid (back_bytes t v)
  have HQR : Hid (∀ x ∈ (bytesO t v).1, 0 ≤ x ∧ x < 256) := by
    show ∀ x ∈ _, _
    unfold bytesO
    split
    · simp
    · split
      · simp
      · exact bytesTo_range _ _
  generalize bytesO t v = q at *
  obtain ⟨q, qe⟩ := q
  simp only at HR2 HQB HQR hc21
  clear hb hr2 HB
  by_cases hq : qe = 0
  · have HQ : Hid (numO t q = (v, 0)) := HQB.out hq
    subst hq
    simp only [errV_zero]
    go_wp2_with (fail)
    (with_reducible refine (Number_any t A2 _ c2 q _ HR2.out rfl hc21 hc22 HQR.out).mono ?_)
    rintro e w4 ⟨rfl, rfl⟩
    rw [HQ.out]
    simp only [numV, errV_zero]
    clear HQ HQB HR2 HQR
    go_wp2_with (fail)
    (with_reducible refine (Number_any t A n c b _ HAw.out HN.out hc hcc HR.out).mono ?_)
    rintro e w4 ⟨rfl, rfl⟩
    simp only [numV]
    by_cases hz : ze = 0
    · have HBN : Hid (bytesO t z = (b, 0)) := by
        have := back_num t b HR.out (by rw [HZ.out]; exact hz)
        rwa [HZ.out] at this
      rw [HZ.out]
      subst hz
      simp only [errV_zero]
      go_wp2_with (fail)
      (with_reducible refine (Bytes_any t z _).mono ?_)
      rintro e w5 ⟨A5, c5, rfl, hc51, hc52, hr5, hb⟩
      rw [HBN.out] at hc51 hr5 ⊢
      simp only at hc51 hr5 ⊢
      have s2 := str_of (c := c5) hr5 rfl
      have s3 := str_of (c := c) (HAw.out.below hb (Nat.le_refl _)) HN.out
      have HBw2 : Hid (Below w.heap.size w w5) := HBw.out.trans (hb.mono HBw.out.size)
      rw [HN.out] at s2 ⊢
      clear hb hr5 HBw
      simp only [errV_zero]
      go_wp2
      go_ret
      exact ⟨rfl, HBw2.out⟩
    · rw [HZ.out]
      have HE := Lib.hid (errV_ne hz)
      simp only
      rw [HE.out]
      go_wp2
      go_ret
      exact ⟨rfl, HBw.out⟩
  · have HE := Lib.hid (errV_ne hq)
    simp only
    rw [HE.out]
    clear HQB HR2 HQR
    go_wp2_with (fail)
    (with_reducible refine (Number_any t A n c b _ HAw.out HN.out hc hcc HR.out).mono ?_)
    rintro e w4 ⟨rfl, rfl⟩
    simp only [numV]
    by_cases hz : ze = 0
    · have HBN : Hid (bytesO t z = (b, 0)) := by
        have := back_num t b HR.out (by rw [HZ.out]; exact hz)
        rwa [HZ.out] at this
      rw [HZ.out]
      subst hz
      simp only [errV_zero]
      go_wp2_with (fail)
      (with_reducible refine (Bytes_any t z _).mono ?_)
      rintro e w5 ⟨A5, c5, rfl, hc51, hc52, hr5, hb⟩
      rw [HBN.out] at hc51 hr5 ⊢
      simp only at hc51 hr5 ⊢
      have s2 := str_of (c := c5) hr5 rfl
      have s3 := str_of (c := c) (HAw.out.below hb (Nat.le_refl _)) HN.out
      have HBw2 : Hid (Below w.heap.size w w5) := HBw.out.trans (hb.mono HBw.out.size)
      rw [HN.out] at s2 ⊢
      clear hb hr5 HBw
      simp only [errV_zero]
      go_wp2
      go_ret
      exact ⟨rfl, HBw2.out⟩
    · rw [HZ.out]
      have HE := Lib.hid (errV_ne hz)
      simp only
      rw [HE.out]
      go_wp2
      go_ret
      exact ⟨rfl, HBw.out⟩
end Go.Proofs.Yteooabcgojadcaa
