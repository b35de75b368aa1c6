/-
  Number of a type.
-/
import Derived.Test.YteooabcgojadcaaW1
import Derived.Test.YteooabcgojadcaaPlain3
import Derived.Test.YteooabcgojadcaaBits
namespace Go.Proofs.Yteooabcgojadcaa
open Go.RowKit
set_option linter.unusedVariables false

def numV (r : Int × Int) : Value := .tuple #[.int .i64 r.1, errV r.2]

set_option maxRecDepth 100000 in
set_option maxHeartbeats 4000000 in
theorem Number_any (t : Int) (A : Option Addr) (n c : Nat) (b : List Int) (w : World) (hA : Rd w w.heap.size A (kcells .u8 b)) (hn : b.length = n) (hc : n ≤ c) (hcc : c ≤ maxLen) (hr : ∀ x ∈ b, 0 ≤ x ∧ x < 256) :
    Calls Try.prog 27 #[.int .i64 t, .slice A n c] w fun e w' => e = .returned (numV (numO t b)) ∧ w = w' := by
  unfold maxLen at hcc
  have HN := Lib.hid hn
  have HA := Lib.hid hA
  have HR := Lib.hid hr
  obtain ⟨kd, hkd⟩ : ∃ kd, kindOf t = kd := ⟨_, rfl⟩
  have HKD := Lib.hid hkd
  have HO : Hid (numO t b = if kd.n = 0 then (0, 7) else if n ≠ kd.n then (0, 11) else
    if t = 0 ∧ 1 < leTo b n then (0, 2) else if kd.lo < 0 ∧ -kd.lo ≤ leTo b n then (leTo b n + 2 * kd.lo, 0) else (leTo b n, 0)) := by
    show _ = _
    unfold numO
    rw [hkd, hn]
  have hlo : kd.n ≤ 4 ∧ -2147483648 ≤ kd.lo ∧ kd.lo ≤ 0 := by
    rcases kind_cases t with h | h | h | h | h | h | h | h <;> rw [hkd] at h <;> rw [h.1] <;> simp
  obtain ⟨hn4, hl1, hl2⟩ := hlo
  clear hkd hn hA hr
  go_enter Try.func27, Try.ntmps27
  go_wp2_with (fail)
  (with_reducible refine (kind_any t _).mono ?_)
  rintro e w1 ⟨rfl, rfl⟩
  rw [HKD.out]
  simp only [kindV]
  by_cases hn0 : kd.n = 0
  · have HM : Hid (numO t b = (0, 7)) := by rw [Hid, HO.out, if_pos hn0]
    rw [hn0]
    go_wp2
    go_ret2
    exact ⟨by rw [HM.out]; rfl, rfl⟩
  have hn1 : ((kd.n : Int) == 0) = false := by simpa using hn0
  by_cases hne : n = kd.n
  · have HM : Hid (numO t b = if t = 0 ∧ 1 < leTo b n then (0, 2) else if kd.lo < 0 ∧ -kd.lo ≤ leTo b n then (leTo b n + 2 * kd.lo, 0) else (leTo b n, 0)) := by
      rw [Hid, HO.out, if_neg hn0, if_neg (by simpa using hne)]
    clear HO hn0
    have hb4 : n ≤ 4 := by omega
    rw [← hne]
    rw [← hne] at hn1
    have HNE := Lib.hid hne
    clear hne hn4
    go_wp2
    go_loopw [9, 28] (fun x i wr => ∃ k : Nat, k ≤ n ∧ i = .int .i64 k ∧ x = .int .i64 (leTo b k) ∧ wr = w) (fun _ i _ => n - (intOf i).toNat)
    case atStart => exact ⟨0, Nat.zero_le _, rfl, rfl, rfl⟩
    case round =>
      obtain ⟨k, hk, rfl, rfl, rfl⟩ := hrel
      by_cases hlt : k < n
      · obtain ⟨y, hy⟩ := getElem?_of_lt (l := b) (k := k) (by rw [HN.out]; exact hlt)
        obtain ⟨g, off, rfl, hbl, c0⟩ := HA.out.kint hy
        obtain ⟨y1, y2⟩ := HR.out y (List.mem_of_getElem? hy)
        have HS := Lib.hid (le_step HR.out (by omega) hy)
        clear hy
        go_wp2
        go_roundw
        case rel => exact ⟨k + 1, by omega, by go_num, by rw [HS.out], trivial⟩
        case measure => simp [intOf]; omega
      · have hkn : k = n := by omega
        subst hkn
        have HL := Lib.hid (le_small HR.out hb4)
        obtain ⟨z, hz⟩ : ∃ z, leTo b k = z := ⟨_, rfl⟩
        rw [hz] at HL HM ⊢
        obtain ⟨z0, z1⟩ := HL.out
        clear hz
        by_cases ht : t = 0
        · have ht' : (t == 0) = true := by simpa using ht
          by_cases hz1 : 1 < z
          · have HM2 : Hid (numO t b = (0, 2)) := by rw [Hid, HM.out, if_pos ⟨ht, hz1⟩]
            clear HM
            subst ht
            go_wp2
            go_ret2
            exact ⟨by rw [HM2.out]; rfl, rfl⟩
          · have HM2 : Hid (numO t b = (z, 0)) := by
              rw [Hid, HM.out, if_neg (by omega), if_neg]
              have := HKD.out
              rw [ht] at this
              subst this
              simp [kindOf]
            have hlo0 : kd.lo = 0 := by
              have := HKD.out
              rw [ht] at this
              subst this
              simp [kindOf]
            clear HM
            rw [hlo0]
            subst ht
            go_wp2
            go_ret2
            exact ⟨by rw [HM2.out]; rfl, rfl⟩
        · have ht' : (t == 0) = false := by simpa using ht
          by_cases hlo : kd.lo < 0
          · by_cases hge : -kd.lo ≤ z
            · have HM2 : Hid (numO t b = (z + 2 * kd.lo, 0)) := by rw [Hid, HM.out, if_neg (by omega), if_pos ⟨hlo, hge⟩]
              clear HM ht
              go_wp2
              go_ret2
              exact ⟨by rw [HM2.out]; rfl, rfl⟩
            · have HM2 : Hid (numO t b = (z, 0)) := by rw [Hid, HM.out, if_neg (by omega), if_neg (by omega)]
              clear HM ht
              go_wp2
              go_ret2
              exact ⟨by rw [HM2.out]; rfl, rfl⟩
          · have HM2 : Hid (numO t b = (z, 0)) := by rw [Hid, HM.out, if_neg (by omega), if_neg (by omega)]
            clear HM ht
            go_wp2
            go_ret2
            exact ⟨by rw [HM2.out]; rfl, rfl⟩
  · have HM : Hid (numO t b = (0, 11)) := by rw [Hid, HO.out, if_neg hn0, if_pos hne]
    have hne' : ((n : Int) != kd.n) = true := by simpa using (by omega : ¬ (n : Int) = kd.n)
    clear HO hn0 hne
    go_wp2
    go_ret2
    exact ⟨by rw [HM.out]; rfl, rfl⟩

def numR (r : Int × Int) : Value := .tuple #[.int .i64 r.1, .int .i64 r.2]

set_option maxRecDepth 100000 in
set_option maxHeartbeats 4000000 in
theorem refNumber_any (t : Int) (A : Option Addr) (n c : Nat) (b : List Int) (w : World) (hA : Rd w w.heap.size A (kcells .u8 b)) (hn : b.length = n) (hc : n ≤ c) (hcc : c ≤ maxLen) (hr : ∀ x ∈ b, 0 ≤ x ∧ x < 256) :
    Calls Try.prog 28 #[.int .i64 t, .slice A n c] w fun e w' => e = .returned (numR (numO t b)) ∧ w = w' := by
  unfold maxLen at hcc
  have HN := Lib.hid hn
  have HA := Lib.hid hA
  have HR := Lib.hid hr
  obtain ⟨kd, hkd⟩ : ∃ kd, kindOf t = kd := ⟨_, rfl⟩
  have HKD := Lib.hid hkd
  have HO : Hid (numO t b = if kd.n = 0 then (0, 7) else if n ≠ kd.n then (0, 11) else
    if t = 0 ∧ 1 < leTo b n then (0, 2) else if kd.lo < 0 ∧ -kd.lo ≤ leTo b n then (leTo b n + 2 * kd.lo, 0) else (leTo b n, 0)) := by
    show _ = _
    unfold numO
    rw [hkd, hn]
  have hlo : kd.n ≤ 4 ∧ -2147483648 ≤ kd.lo ∧ kd.lo ≤ 0 ∧ (kd.lo < 0 → kd.hi = -kd.lo - 1 ∧ t ≠ 0 ∧ (kd.n = 1 ∧ kd.lo = -128 ∨ kd.n = 2 ∧ kd.lo = -32768 ∨ kd.n = 4 ∧ kd.lo = -2147483648)) := by
    rcases kind_cases t with h | h | h | h | h | h | h | h <;> rw [hkd] at h <;> rw [h.1] <;> simp <;> omega
  obtain ⟨hn4, hl1, hl2, hneg⟩ := hlo
  have HNEG := Lib.hid hneg
  clear hkd hn hA hr hneg
  go_enter Try.func28, Try.ntmps28
  go_wp2_with (fail)
  (with_reducible refine (lim_any t _).mono ?_)
  rintro e w1 ⟨rfl, rfl⟩
  rw [HKD.out]
  simp only [limV]
  by_cases hn0 : kd.n = 0
  · have HM : Hid (numO t b = (0, 7)) := by rw [Hid, HO.out, if_pos hn0]
    rw [hn0]
    go_wp2
    go_ret2
    exact ⟨by rw [HM.out]; rfl, rfl⟩
  have hn1 : ((kd.n : Int) == 0) = false := by simpa using hn0
  by_cases hne : n = kd.n
  · have HM : Hid (numO t b = if t = 0 ∧ 1 < leTo b n then (0, 2) else if kd.lo < 0 ∧ -kd.lo ≤ leTo b n then (leTo b n + 2 * kd.lo, 0) else (leTo b n, 0)) := by
      rw [Hid, HO.out, if_neg hn0, if_neg (by simpa using hne)]
    clear HO hn0
    have hb4 : n ≤ 4 := by omega
    rw [← hne]
    rw [← hne] at hn1
    have HNE := Lib.hid hne
    clear hne hn4
    go_wp2
    go_loopw [9, 24] (fun x i wr => ∃ k : Nat, k ≤ n ∧ i = .int .i64 k ∧ x = .int .i64 (leTo b k) ∧ wr = w) (fun _ i _ => n - (intOf i).toNat)
    case atStart => exact ⟨0, Nat.zero_le _, rfl, rfl, rfl⟩
    case round =>
      obtain ⟨k, hk, rfl, rfl, rfl⟩ := hrel
      by_cases hlt : k < n
      · obtain ⟨y, hy⟩ := getElem?_of_lt (l := b) (k := k) (by rw [HN.out]; exact hlt)
        obtain ⟨g, off, rfl, hbl, c0⟩ := HA.out.kint hy
        obtain ⟨y1, y2⟩ := HR.out y (List.mem_of_getElem? hy)
        obtain ⟨hs0, hs1, hs2⟩ := le_step_add HR.out (by omega) hy
        obtain ⟨u, hu⟩ : ∃ u, wrap64 (y * 2 ^ (8 * k)) = u := ⟨_, rfl⟩
        rw [hu] at hs0
        have HS := Lib.hid hs0
        have hu1 : -9223372036854775808 ≤ leTo b k + u := by omega
        have hu2 : leTo b k + u ≤ 9223372036854775807 := by omega
        clear hy hs0 hs1 hs2
        go_wp2
        go_roundw
        case rel => exact ⟨k + 1, by omega, by go_num, by rw [HS.out], trivial⟩
        case measure => simp [intOf]; omega
      · have hkn : k = n := by omega
        subst hkn
        have HL := Lib.hid (le_small HR.out hb4)
        obtain ⟨z, hz⟩ : ∃ z, leTo b k = z := ⟨_, rfl⟩
        rw [hz] at HL HM ⊢
        obtain ⟨z0, z1⟩ := HL.out
        clear hz
        by_cases hlo : kd.lo < 0
        · obtain ⟨hh, ht, hd⟩ := HNEG.out hlo
          have ht' : (t == 0) = false := by simpa using ht
          by_cases hge : kd.hi < z
          · have HM2 : Hid (numO t b = (z + 2 * kd.lo, 0)) := by rw [Hid, HM.out, if_neg (by omega), if_pos ⟨hlo, by omega⟩]
            clear HM ht HNEG
            rcases hd with ⟨h1, h2⟩ | ⟨h1, h2⟩ | ⟨h1, h2⟩
            all_goals
              have hk1 := HNE.out
              rw [h1] at hk1
              subst hk1
              have H2 := Lib.hid h2
              clear HNE h1 h2 hh
              go_wp2
              go_ret2
              refine ⟨?_, rfl⟩
              rw [HM2.out, H2.out]
              rfl
          · have HM2 : Hid (numO t b = (z, 0)) := by rw [Hid, HM.out, if_neg (by omega), if_neg (by omega)]
            clear HM ht HNEG hd
            go_wp2
            go_ret2
            exact ⟨by rw [HM2.out]; rfl, rfl⟩
        · by_cases ht : t = 0
          · by_cases hz1 : 1 < z
            · have HM2 : Hid (numO t b = (0, 2)) := by rw [Hid, HM.out, if_pos ⟨ht, hz1⟩]
              clear HM HNEG
              subst ht
              go_wp2
              go_ret2
              exact ⟨by rw [HM2.out]; rfl, rfl⟩
            · have HM2 : Hid (numO t b = (z, 0)) := by rw [Hid, HM.out, if_neg (by omega), if_neg (by omega)]
              clear HM HNEG
              subst ht
              go_wp2
              go_ret2
              exact ⟨by rw [HM2.out]; rfl, rfl⟩
          · have ht' : (t == 0) = false := by simpa using ht
            have HM2 : Hid (numO t b = (z, 0)) := by rw [Hid, HM.out, if_neg (by omega), if_neg (by omega)]
            clear HM ht HNEG
            go_wp2
            go_ret2
            exact ⟨by rw [HM2.out]; rfl, rfl⟩
  · have HM : Hid (numO t b = (0, 11)) := by rw [Hid, HO.out, if_neg hn0, if_pos hne]
    have hne' : ((n : Int) != kd.n) = true := by simpa using (by omega : ¬ (n : Int) = kd.n)
    clear HO hn0 hne
    go_wp2
    go_ret2
    exact ⟨by rw [HM.out]; rfl, rfl⟩
end Go.Proofs.Yteooabcgojadcaa
