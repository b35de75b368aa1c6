/-
  large, a page of an act, do.
-/
import Derived.Test.YtfeceamhlphelaaW10
import Derived.Test.YtfeceamhlphelaaAc
import Derived.Deep.RegionHeld3
namespace Go.Proofs.Ytfeceamhlphelaa
open Go.RowKit
set_option linter.unusedVariables false

set_option maxRecDepth 100000 in
set_option maxHeartbeats 2000000 in
theorem large_any (A : Option Addr) (n c : Nat) (l : List Ac) (w : World) (hA : Rd w w.heap.size A (acells l)) (hn : l.length = n) (hnc : n ≤ c) (hcm : c ≤ maxLen) (hok : ∀ x ∈ l, x.ok w w.heap.size) :
    Calls Try.prog 35 #[.slice A n c] w fun e w' => e = .returned (.bool (largeA l)) ∧ Below w.heap.size w w' := by
  unfold maxLen at hcm
  have HA := Lib.hid hA
  have HN := Lib.hid hn
  have HOK : Hid (∀ x ∈ l, x.m ≤ 9223372036854775807 ∧ x.q ≤ 9223372036854775807) := fun x hx => by
    have h := hok x hx
    have h1 := h.mb
    have h2 := h.cb
    have h3 := h.mp
    have h4 := h.cp
    unfold maxLen at h2 h4
    omega
  have HS := Lib.hid (sumA_le l)
  clear hA hn hok
  go_enter Try.func35, Try.ntmps35
  go_wp2
  go_loopw [3, 8] (fun s i wr => ∃ k : Nat, k ≤ n ∧ i = .int .i64 k ∧ (∃ z : Int, s = .int .i64 z ∧ (k ≤ 200 → z = (sumA (l.take k) : Nat))) ∧ Below w.heap.size w wr) (fun _ i _ => n - (intOf i).toNat)
  case atStart => exact ⟨0, by omega, rfl, ⟨0, rfl, fun _ => rfl⟩, Below.refl _ _⟩
  case round =>
    obtain ⟨k, hk, rfl, ⟨z, rfl, hz⟩, hB⟩ := hrel
    have HB := Lib.hid hB
    have hwr : w.heap.size ≤ wr.heap.size := hB.size
    clear hB
    by_cases hlt : k < n
    · obtain ⟨x, hx⟩ := getElem?_of_lt (l := l) (k := k) (by rw [HN.out]; exact hlt)
      obtain ⟨hm1, hm2⟩ := HOK.out x (List.mem_of_getElem? hx)
      obtain ⟨b, off, rfl, hbl, c0, c1, c2, c3, c4⟩ := (HA.out.below HB.out (Nat.le_refl _)).ac hx
      by_cases hk2 : k < 200
      · have hz' := hz (by omega)
        subst hz'
        have hsum : sumA (l.take (k + 1)) = sumA (l.take k) + (10 + min x.m 10000 + min x.q 10000) := by
          rw [take_snoc_get l k x hx, sumA_append]
          simp [sumA]
        have hsl : sumA (l.take k) ≤ 20010 * k := by
          have := sumA_le (l.take k)
          rw [List.length_take] at this
          omega
        obtain ⟨S, hS⟩ : ∃ S, sumA (l.take k) = S := ⟨_, rfl⟩
        obtain ⟨S', hS'⟩ : ∃ S, sumA (l.take (k + 1)) = S := ⟨_, rfl⟩
        rw [hS, hS'] at hsum
        have HS' := Lib.hid hS'
        rw [hS] at hsl ⊢
        obtain ⟨u1, hu1⟩ : ∃ u, min x.m 10000 = u := ⟨_, rfl⟩
        obtain ⟨u2, hu2⟩ : ∃ u, min x.q 10000 = u := ⟨_, rfl⟩
        have m1 : min (x.m : Int) 10000 = (u1 : Int) := by omega
        have m2 : min (x.q : Int) 10000 = (u2 : Int) := by omega
        have hub1 : u1 ≤ 10000 := by omega
        have hub2 : u2 ≤ 10000 := by omega
        rw [hu1, hu2] at hsum
        have HSUM := Lib.hid hsum
        clear hx hz hS hS' hu1 hu2 hsum
        go_wp2
        go_roundw
        case rel => exact ⟨k + 1, by omega, by go_num, ⟨_, rfl, fun _ => by rw [HS'.out]; have := HSUM.out; go_num⟩, HB.out.alloc hwr _⟩
        case measure => simp [intOf]; omega
      · clear hx hz
        go_wp2
        go_roundw
        case rel => exact ⟨k + 1, by omega, by go_num, ⟨_, rfl, fun h => by omega⟩, HB.out.alloc hwr _⟩
        case measure => simp [intOf]; omega
    · have hkn : k = n := by omega
      subst hkn
      have ht : l.take k = l := List.take_of_length_le (by rw [HN.out]; omega)
      rw [ht] at hz
      have HL : Hid (largeA l = decide (200 < k ∨ 20000 < sumA l)) := by unfold largeA; rw [Hid, HN.out]
      obtain ⟨S, hS⟩ : ∃ S, sumA l = S := ⟨_, rfl⟩
      rw [hS] at HL hz
      clear hS HS ht
      by_cases h1 : 200 < k
      · clear hz
        go_wp2
        go_ret
        exact ⟨by rw [HL.out, decide_eq_true (show 200 < k ∨ 20000 < S from Or.inl h1)]; rfl, HB.out⟩
      · have hz' := hz (by omega)
        subst hz'
        clear hz
        by_cases h2 : 20000 < S
        · go_wp2
          go_ret
          exact ⟨by rw [HL.out, decide_eq_true (show 200 < k ∨ 20000 < S from Or.inr h2)]; first | rfl | (show Ending.returned (Value.bool (decide ((200 : Int) < (k : Int)) || decide ((20000 : Int) < (S : Int)))) = _; rw [decide_eq_true (show (20000 : Int) < (S : Int) by omega), Bool.or_true]), HB.out⟩
        · go_wp2
          go_ret
          exact ⟨by rw [HL.out, decide_eq_false (show ¬ (200 < k ∨ 20000 < S) from fun h => h.elim h1 h2)]; first | rfl | (show Ending.returned (Value.bool (decide ((200 : Int) < (k : Int)) || decide ((20000 : Int) < (S : Int)))) = _; rw [decide_eq_false (show ¬ (20000 : Int) < (S : Int) by omega), decide_eq_false (show ¬ (200 : Int) < (k : Int) by omega)]; rfl), HB.out⟩

theorem page0_eq : @page0 = @pageO := rfl

/-- A page of an act that lies apart from a flash. -/
theorem page_apart {w0 w : World} {L : Lc} {f : Fl} (h : FlAt w0 w L f) (k a n : Int) (B : Option Addr) (m e : Nat) (b : List Int) (P : Option Addr) (q r : Nat) (hB : Rd w w0.heap.size B (kcells .u8 b)) (hm : b.length = m) (hme : m ≤ e) (hemx : e ≤ maxLen) (hb : Bytes b) :
    Calls Try.prog 25 #[.agg #[.int .u8 k, .int .i64 a, .int .i64 n, .slice B m e, .slice P q r]] w fun e w' => ∃ A m' c', e = .returned (.slice A m' c') ∧ (page0 n b).length = m' ∧ m' ≤ c' ∧ c' ≤ maxLen ∧ Below w.heap.size w w' ∧ Apart L w' A (kcells .u8 (page0 n b)) := by
  refine (page_any k a n B m e b P q r w0.heap.size w hB h.below.size hm hme hemx hb).mono ?_
  rintro e w' ⟨A, m', c', rfl, h1, h2, h3, h4, h5⟩
  refine ⟨A, m', c', rfl, h1, h2, h3, h4, ?_⟩
  rcases h5 with ⟨rfl, rfl⟩ | ho
  · have hr : Rd w w0.heap.size A (kcells .u8 (page0 7 b)) := by
      refine hB.prefix ?_
      unfold page0
      rw [if_pos rfl]
      refine ⟨kcells .u8 (b.drop 100), ?_⟩
      rw [← kcells_append, List.take_append_drop]
    exact (apart_rd h hr).only (Only.of_below h4)
  · exact apart_own h (by rw [kcells_length]; exact h1) ho
end Go.Proofs.Ytfeceamhlphelaa
