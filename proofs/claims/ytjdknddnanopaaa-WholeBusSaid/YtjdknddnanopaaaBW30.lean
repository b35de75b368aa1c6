
/-
  mapping.Size, Ints; the statement MappingBack, walked.
-/
import Derived.Test.YtjdknddnanopaaaBW29
import Derived.Test.YtjdknddnanopaaaBW23
import Derived.Test.YtjdknddnanopaaaBPlain11
namespace Go.Proofs.Ytjdknddnanopaaa.Bus
open Go.RowKit
set_option linter.unusedVariables false

theorem take_eq_step {l m : List Int} {k : Nat} {x y : Int} (hx : l[k]? = some x) (hy : m[k]? = some y) (h : l.take k = m.take k) (e : x = y) : l.take (k + 1) = m.take (k + 1) := by
  rw [take_snoc_get l k x hx, take_snoc_get m k y hy, h, e]

theorem ints_any (A A' : Option Addr) (n m c c' : Nat) (l l' : List Int) (w : World) (hA : Rd w w.heap.size A (icells l)) (hA' : Rd w w.heap.size A' (icells l')) (hn : l.length = n) (hm : l'.length = m) (hnm : n ≤ maxLen) (hmm : m ≤ maxLen) :
    Calls Try.prog 21 #[.slice A n c, .slice A' m c'] w fun e w' => e = .returned (.bool (decide (l = l'))) ∧ ∃ k, w.drewN k = w' := by
  unfold maxLen at hnm hmm
  have HN := Lib.hid hn
  have HM := Lib.hid hm
  clear hn hm
  by_cases hne : n = m
  · subst hne
    have HA := Lib.hid hA
    have HA' := Lib.hid hA'
    clear hA hA'
    have hne : ((n : Int) != (n : Int)) = false := by simp
    go_enter Try.func21, Try.ntmps21
    go_wp2
    go_loopw [13] (fun i wr => ∃ k : Nat, k ≤ n ∧ i = .int .i64 k ∧ l.take k = l'.take k ∧ ∃ q, wr = w.drewN q) (fun i wr => n - (intOf i).toNat)
    case atStart => exact ⟨0, Nat.zero_le _, rfl, rfl, 0, rfl⟩
    case round =>
      obtain ⟨k, hk, rfl, ht, q, rfl⟩ := hrel
      have HT := Lib.hid ht
      clear ht
      by_cases hlt : k < n
      · obtain ⟨x, hx⟩ := getElem?_of_lt (l := l) (k := k) (by rw [HN.out]; exact hlt)
        obtain ⟨y, hy⟩ := getElem?_of_lt (l := l') (k := k) (by rw [HM.out]; exact hlt)
        obtain ⟨b, off, rfl, hbl, e0⟩ := HA.out.int hx
        obtain ⟨b', off', rfl, hbl', e1⟩ := HA'.out.int hy
        have HX := Lib.hid hx
        have HY := Lib.hid hy
        clear hx hy
        by_cases he : x = y
        · have he' : (x != y) = false := by simpa using he
          have HE := Lib.hid he
          clear he
          go_wp2
          go_quiet (fail)
          go_wp2
          go_roundw
          case rel => exact ⟨k + 1, by omega, by go_num, take_eq_step HX.out HY.out HT.out HE.out, _, rfl⟩
          case measure => simp [intOf]; omega
        · have he' : (x != y) = true := by simpa using he
          have HE : Hid (decide (l = l') = false) := decide_eq_false (fun e => he (by
            have h1 := HX.out
            rw [e, HY.out] at h1
            exact (Option.some.inj h1).symm))
          clear he
          go_wp2
          go_quiet (fail)
          go_wp2
          go_ret
          exact ⟨by rw [HE.out]; rfl, _, (World.drewN_drewN ..).symm⟩
      · have hkn : k = n := by omega
        subst hkn
        have HE : Hid (decide (l = l') = true) := decide_eq_true (by
          have h1 := HT.out
          rwa [List.take_of_length_le (by rw [HN.out]; omega), List.take_of_length_le (by rw [HM.out]; omega)] at h1)
        go_wp2
        go_ret
        exact ⟨by rw [HE.out]; rfl, _, rfl⟩
  · have hne' : ((n : Int) != (m : Int)) = true := by simp; omega
    have HE : Hid (decide (l = l') = false) := decide_eq_false (fun e => hne (by rw [← HN.out, ← HM.out, e]))
    clear hne
    go_enter Try.func21, Try.ntmps21
    go_wp2
    go_ret
    exact ⟨by rw [HE.out]; rfl, 0, rfl⟩

theorem size_err {l : List Ob} {m : List It} {N : Nat} {h : Int} (hs : sizeO l m = (N, h)) (hh : h ≠ 0) (vs b : List Int) : packO l m vs = ([], h) ∧ unpackO l m b = ([], h) := by
  unfold sizeO sizeQ at hs
  split at hs
  · rename_i he
    simp only [Prod.mk.injEq] at hs
    obtain ⟨_, rfl⟩ := hs
    constructor
    · unfold packO packQ; rw [if_pos he]
    · unfold unpackO unpackQ; rw [if_pos he]
  · simp only [Prod.mk.injEq] at hs
    exact absurd hs.2.symm hh

theorem pack_bytes {l : List Ob} {m : List It} {vs b : List Int} {k : Int} (h : packO l m vs = (b, k)) : ∀ x ∈ b, 0 ≤ x ∧ x < 256 := by
  unfold packO packQ at h
  intro x hx
  split at h
  · simp only [Prod.mk.injEq] at h
    rw [← h.1] at hx; simp at hx
  split at h
  · simp only [Prod.mk.injEq] at h
    rw [← h.1] at hx; simp at hx
  split at h
  · simp only [Prod.mk.injEq] at h
    rw [← h.1] at hx; simp at hx
  · simp only [Prod.mk.injEq] at h
    rw [← h.1] at hx
    exact packB_range (laidB_bin _ _) _ x hx

end Go.Proofs.Ytjdknddnanopaaa.Bus
