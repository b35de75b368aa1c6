/-
  Ints; more is held within a region; the memory against the specification's (is).
-/
import Derived.Test.YtfeceamhlphelaaW12
import Derived.Test.YtfeceamhlphelaaPlainR
import Derived.Test.YtfeceamhlphelaaStr
import Derived.Deep.RegionHeld3
namespace Go.Proofs.Ytfeceamhlphelaa
open Go.RowKit
set_option linter.unusedVariables false

section
variable {P : Program} {ops : Array Oper} {Q : Exit → Act → World → Prop} {md : Region.Mode} {S T : World → Prop}
/-- Within a region more may be held from here on. -/
theorem wpAnyH_more (h : ∀ w, T w → S w) : ∀ (fuel : Nat) (listed : Array Bool) (a : Act) (w : World), wpAnyH P md ops Q T fuel listed a w → wpAnyH P md ops Q S fuel listed a w
  | 0, _, _, _, hh => hh
  | fuel + 1, _, _, _, hh => ⟨hh.1, fun i hi => wpOp_mono (fun a' w' h' => ⟨h w' h'.1, wpAnyH_more h fuel _ a' w' h'.2⟩) (hh.2 i hi)⟩
end

theorem take_eq_step {l m : List Int} {k : Nat} {x y : Int} (hx : l[k]? = some x) (hy : m[k]? = some y) (h : l.take k = m.take k) (e : x = y) : l.take (k + 1) = m.take (k + 1) := by
  rw [take_snoc_get l k x hx, take_snoc_get m k y hy, h, e]

theorem ints_any (A A' : Option Addr) (n m c c' : Nat) (l l' : List Int) (w : World) (hA : Rd w w.heap.size A (icells l)) (hA' : Rd w w.heap.size A' (icells l')) (hn : l.length = n) (hm : l'.length = m) (hnm : n ≤ maxLen) (hmm : m ≤ maxLen) :
    Calls Try.prog 51 #[.slice A n c, .slice A' m c'] w fun e w' => e = .returned (.bool (decide (l = l'))) ∧ ∃ k, w.drewN k = w' := by
  unfold maxLen at hnm hmm
  have HN := Lib.hid hn
  have HM := Lib.hid hm
  clear hn hm
  by_cases hne : n = m
  · subst hne
    have HA := Lib.hid hA
    have HA' := Lib.hid hA'
    clear hA hA'
    have hne : ((n : Int) != (n : Int)) = false := by simp
    go_enter Try.func51, Try.ntmps51
    go_wp2
    go_loopw [13] (fun i wr => ∃ k : Nat, k ≤ n ∧ i = .int .i64 k ∧ l.take k = l'.take k ∧ ∃ q, wr = w.drewN q) (fun i wr => n - (intOf i).toNat)
    case atStart => exact ⟨0, Nat.zero_le _, rfl, rfl, 0, rfl⟩
    case round =>
      obtain ⟨k, hk, rfl, ht, q, rfl⟩ := hrel
      have HT := Lib.hid ht
      clear ht
      by_cases hlt : k < n
      · obtain ⟨x, hx⟩ := getElem?_of_lt (l := l) (k := k) (by rw [HN.out]; exact hlt)
        obtain ⟨y, hy⟩ := getElem?_of_lt (l := l') (k := k) (by rw [HM.out]; exact hlt)
        obtain ⟨b, off, rfl, hbl, e0⟩ := HA.out.int hx
        obtain ⟨b', off', rfl, hbl', e1⟩ := HA'.out.int hy
        have HX := Lib.hid hx
        have HY := Lib.hid hy
        clear hx hy
        by_cases he : x = y
        · have he' : (x != y) = false := by simpa using he
          have HE := Lib.hid he
          clear he
          go_wp2
          go_quiet (fail)
          go_wp2
          go_roundw
          case rel => exact ⟨k + 1, by omega, by go_num, take_eq_step HX.out HY.out HT.out HE.out, _, rfl⟩
          case measure => simp [intOf]; omega
        · have he' : (x != y) = true := by simpa using he
          have HE : Hid (decide (l = l') = false) := decide_eq_false (fun e => he (by
            have h1 := HX.out
            rw [e, HY.out] at h1
            exact (Option.some.inj h1).symm))
          clear he
          go_wp2
          go_quiet (fail)
          go_wp2
          go_ret
          exact ⟨by rw [HE.out]; rfl, _, (World.drewN_drewN ..).symm⟩
      · have hkn : k = n := by omega
        subst hkn
        have HE : Hid (decide (l = l') = true) := decide_eq_true (by
          have h1 := HT.out
          rwa [List.take_of_length_le (by rw [HN.out]; omega), List.take_of_length_le (by rw [HM.out]; omega)] at h1)
        go_wp2
        go_ret
        exact ⟨by rw [HE.out]; rfl, _, rfl⟩
  · have hne' : ((n : Int) != (m : Int)) = true := by simp; omega
    have HE : Hid (decide (l = l') = false) := decide_eq_false (fun e => hne (by rw [← HN.out, ← HM.out, e]))
    clear hne
    go_enter Try.func51, Try.ntmps51
    go_wp2
    go_ret
    exact ⟨by rw [HE.out]; rfl, 0, rfl⟩

end Go.Proofs.Ytfeceamhlphelaa
