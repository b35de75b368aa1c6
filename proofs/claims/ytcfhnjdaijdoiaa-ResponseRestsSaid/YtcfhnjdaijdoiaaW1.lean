/-
  tasks.Check and the reference's Check.
-/
import Derived.Test.YtcfhnjdaijdoiaaChecked
import Derived.Test.YtcfhnjdaijdoiaaMem
import Derived.WalkSpells
import Derived.WalkLawsBesides
import Derived.Deep.QuietTactic
import Derived.BigQuiet
namespace Go.Proofs.Ytcfhnjdaijdoiaa
open Go.RowKit
set_option linter.unusedVariables false

set_option maxHeartbeats 1000000 in
theorem check_any (A : Option Addr) (n c : Nat) (l : List Tsk) (w : World) (hA : Rd w w.heap.size A (tcells l)) (hn : l.length = n) (hc : n ≤ c) (hcc : c ≤ maxLen) :
    Calls Try.prog 19 #[.slice A n c] w fun e w' => e = .returned (errV (check l)) ∧ Below w.heap.size w w' := by
  unfold maxLen at hcc
  have HN := Lib.hid hn
  clear hn
  have HA := Lib.hid hA
  clear hA
  by_cases hn8 : 8 < n
  · have HC : Hid (check l = 4) := by unfold check; rw [if_pos (by rw [HN.out]; exact hn8)]; rfl
    go_enter Try.func19, Try.ntmps19
    go_wp2
    go_ret
    exact ⟨by rw [HC.out]; rfl, Below.refl _ _⟩
  have HF : Hid (checkFrom (l.take 0) (l.drop 0) = check l) := by
    unfold check
    rw [if_neg (by rw [HN.out]; exact hn8)]
    rfl
  go_enter Try.func19, Try.ntmps19
  go_wp2
  go_loopw [13] (fun i wr => ∃ k : Nat, k ≤ n ∧ i = .int .i64 k ∧ checkFrom (l.take k) (l.drop k) = check l ∧ Below w.heap.size w wr) (fun i wr => n - (intOf i).toNat)
  case atStart => exact ⟨0, Nat.zero_le _, rfl, HF.out, Below.refl _ _⟩
  case round =>
    obtain ⟨k, hk, rfl, hF, hB⟩ := hrel
    by_cases hlt : k < n
    · obtain ⟨x, hx⟩ := getElem?_of_lt (l := l) (k := k) (by rw [HN.out]; exact hlt)
      rw [checkFrom_step l k x hx] at hF
      obtain ⟨b, off, hAe, hbl, c0, c1, c2, c3, c4⟩ := (HA.out.below hB (Nat.le_refl _)).tsk hx
      subst hAe
      have HX := Lib.hid hx
      have HFF := Lib.hid hF
      have HB := Lib.hid hB
      have hsz : w.heap.size ≤ wr.heap.size := hB.size
      clear hx hF hB
      by_cases hbad : x.bad
      · have HM : Hid (check l = 3) := by
          have := HFF.out
          rw [if_pos hbad] at this
          exact this.symm
        clear HFF
        unfold Tsk.bad at hbad
        go_wp2
        all_goals
          go_ret
          exact ⟨by rw [HM.out]; rfl, HB.out.alloc hsz _⟩
      · have HG : Hid ((if hasPrio x.q (l.take k) then 6 else checkFrom (l.take (k + 1)) (l.drop (k + 1))) = check l) := by
          have := HFF.out
          rw [if_neg hbad] at this
          exact this
        clear HFF
        simp only [Tsk.bad, not_or, Int.not_lt, Int.not_le] at hbad
        obtain ⟨b1, b2, b3, b4, b5, b6, b7⟩ := hbad
        go_wp2
        obtain ⟨wo, rfl⟩ : ∃ wo : World, wo = wr := ⟨_, rfl⟩
        go_loopw [62] (fun i wr => ∃ j : Nat, j ≤ k ∧ i = .int .i64 j ∧ hasPrio x.q (l.take j) = false ∧ Below w.heap.size w wr ∧ wr.cell? ⟨wo.heap.size, 4, none⟩ = some (.int .i64 x.q)) (fun i wr => k - (intOf i).toNat)
        case atStart =>
          refine ⟨0, Nat.zero_le _, rfl, rfl, HB.out.alloc (by omega) _, ?_⟩
          simp
        case round =>
          obtain ⟨j, hj, rfl, hpj, hB2, hq⟩ := hrel
          by_cases hjk : j < k
          · obtain ⟨y, hy⟩ := getElem?_of_lt (l := l) (k := j) (by rw [HN.out]; omega)
            obtain ⟨b', off', hAe, hbl', d0, d1, d2, d3, d4⟩ := (HA.out.below hB2 (Nat.le_refl _)).tsk hy
            obtain ⟨rfl, rfl⟩ : b = b' ∧ off = off' := by simpa using hAe
            have hlt2 : wo.heap.size < wr.heap.size := World.block_lt_of_cell? wr _ hq
            have HP := Lib.hid (hasPrio_step x.q l j y hy hpj)
            have HB2 := Lib.hid hB2
            have hs2 : w.heap.size ≤ wr.heap.size := hB2.size
            clear hy hAe hpj hB2
            by_cases he : y.q = x.q
            · have he' : (y.q == x.q) = true := by simpa using he
              have HM : Hid (check l = 6) := by
                have h1 : hasPrio x.q (l.take k) = true := hasPrio_mono _ _ (j + 1) _ (by rw [HP.out]; simpa using he) (by omega)
                have := HG.out
                rw [h1] at this
                exact this.symm
              clear he
              go_wp2
              go_ret
              exact ⟨by rw [HM.out]; rfl, HB2.out.alloc hs2 _⟩
            · have he' : (y.q == x.q) = false := by simpa using he
              have HM : Hid (hasPrio x.q (l.take (j + 1)) = false) := by
                show _ = _
                rw [HP.out]; simpa using he
              clear he
              go_wp2
              go_roundw
              case rel => exact ⟨j + 1, by omega, by go_num, HM.out, HB2.out.alloc hs2 _, by rw [World.cell?_alloc_past _ _ _ hlt2]; exact hq⟩
              case measure => simp [intOf]; omega
          · have hjk2 : j = k := by omega
            subst hjk2
            have HM : Hid (checkFrom (l.take (j + 1)) (l.drop (j + 1)) = check l) := by
              have := HG.out
              rw [hpj] at this
              exact this
            clear hpj
            go_wp2
            go_roundw
            case rel => exact ⟨j + 1, by omega, by go_num, HM.out, hB2⟩
            case measure => simp [intOf]; omega
    · have : k = n := by omega
      subst this
      have HM : Hid (check l = 0) := by
        rw [← hF, List.drop_eq_nil_of_le (by rw [HN.out]; omega)]; rfl
      clear hF
      go_wp2
      go_ret
      exact ⟨by rw [HM.out]; rfl, hB⟩
end Go.Proofs.Ytcfhnjdaijdoiaa
