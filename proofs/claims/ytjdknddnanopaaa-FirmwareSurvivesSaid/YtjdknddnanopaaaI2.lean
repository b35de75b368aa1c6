/-
  Layer 52: install of the statements.
-/
import Derived.Test.YtjdknddnanopaaaI1
namespace Go.Proofs.Ytjdknddnanopaaa
open Go.RowKit
set_option linter.unusedVariables false
set_option linter.unusedSimpArgs false

section
variable {w0 w w' : World} {L : Lc} {S : Sc} {K : Kc} {f : Fl} {b : Bk} {d D : Nat} {l : List (Option Addr × List Value)}
theorem Bx.feed2 (h : Bx w0 w d D l f b) (ho : BkOk f b) (A : Option Addr) (n c : Nat) (x : List Int) {p : Option Addr × List Value} (hp : p ∈ l) (hA : ∀ X w, RdX X w p.1 p.2 → RdX X w A (kcells .u8 x)) (hn : x.length = n) (hnc : n ≤ c) (hcm : c ≤ maxLen) {q : Bk × Int} (hq : feedB b f x = q) : Calls Try.prog 36 #[.pointer (some ⟨D, 0, none⟩), .slice A n c] w fun e w' => e = .returned (errV q.2) ∧ Bx w0 w' d D l f q.1 := by
  obtain ⟨L, S, K, h1, rfl, hk, hl⟩ := h
  refine (ffeed_any hk ho A n c x (hA _ _ (hl _ hp)) hn hnc hcm).mono ?_
  rintro e w' ⟨he, hb⟩
  rw [hq] at he hb
  exact ⟨he, .of h1 rfl hl hb⟩
theorem RdX.chunk {X : Nat → Prop} {w : World} {bb off : Nat} {img : List Int} {j : Nat} (h : RdX X w (some ⟨bb, off, none⟩) (kcells .u8 img)) : RdX X w (some ⟨bb, off + 64 * j, none⟩) (kcells .u8 (chunkB img j)) := fun hx => by
  have hne : kcells .u8 img ≠ [] := fun e => by
    apply hx
    have : img = [] := List.eq_nil_of_length_eq_zero (by rw [← kcells_length .u8 img, e]; rfl)
    subst this
    unfold chunkB
    simp [kcells]
  obtain ⟨b', off', e, hlt, hn, hc⟩ := h hne
  obtain ⟨rfl, rfl⟩ : bb = b' ∧ off = off' := by simpa using e
  refine ⟨bb, off + 64 * j, rfl, hlt, hn, fun i u hu => ?_⟩
  rw [Nat.add_assoc]
  refine hc (64 * j + i) u ?_
  unfold kcells at hu ⊢
  rw [List.getElem?_map] at hu ⊢
  have hi : i < 64 := by
    have h1 : i < (chunkB img j).length := by
      by_cases h2 : i < (chunkB img j).length
      · exact h2
      · rw [List.getElem?_eq_none (by omega)] at hu
        cases hu
    rw [chunkB_length] at h1
    omega
  unfold chunkB at hu
  rw [List.getElem?_take, if_pos hi, List.getElem?_drop] at hu
  exact hu

/-- Where the loop of an installation stands. -/
def FdL (w0 wr : World) (d D : Nat) (l : List (Option Addr × List Value)) (img : List Int) (N : Int) (r : Bk × Fl × Bool) (j : Nat) : Prop :=
  ∃ f b n, Bx w0 wr d D l f b ∧ BkJ f b n ∧ n ≤ N + 40 * j ∧ feedsB img (nPages img.length - j) j b f = r
theorem beginB_J2 {n : Int} (h : BkJ f b n) (v m : Int) : BkJ f (beginB b f v m).1 n := beginB_J h (fun v l => beginB_ok h.ok h.fo v l) v m

set_option maxRecDepth 100000 in
set_option maxHeartbeats 4000000 in
theorem install_any {n : Int} (h : Bx w0 w d D l f b) (hJ : BkJ f b n) (v : Int) (A : Option Addr) (m c : Nat) (img : List Int) (hA : (A, kcells .u8 img) ∈ l) (hm : img.length = m) (hmc : m ≤ c) (hcm : c ≤ maxLen) (hby : Bytes img) (hml : m ≤ 10000) (hn : n ≤ 900000) {q : Bk × Fl × Bool} (hq : installB v img b f = q) :
    Calls Try.prog 27 #[.pointer (some ⟨D, 0, none⟩), .int .i64 v, .slice A m c] w fun e w' => e = .returned (.bool q.2.2) ∧ Bx w0 w' d D l q.2.1 q.1 := by
  have g1 := ne_nil
  have g2 := ne_err
  have g3 := eq_nil
  have g4 := eq_err
  have hJ1 := beginB_J2 hJ v (m : Int)
  obtain ⟨p, hp⟩ : ∃ p, beginB b f v (m : Int) = p := ⟨_, rfl⟩
  have HC := Lib.hid (h.begin hJ.ok v (m : Int) (by unfold I64; omega) hp)
  have HA := Lib.hid hA
  have HM := Lib.hid hm
  have HBY := Lib.hid hby
  have HCM := Lib.hid hcm
  unfold maxLen at hcm
  unfold installB at hq
  rw [hm, hp] at hq
  rw [hp] at hJ1
  simp only at hq
  clear h hJ hA hby
  by_cases hc : p.2 = 0
  case neg =>
    rw [if_pos hc] at hq
    rw [errV_ne hc] at HC
    have HQ := Lib.hid hq
    clear hq hm hJ1
    go_enter Try.func27, Try.ntmps27
    go_wp2_with (fail)
    (with_reducible refine HC.out.mono ?_)
    rintro e w1 ⟨rfl, hB1⟩
    have HB1 := Lib.hid hB1
    clear hB1
    go_wp2
    go_ret
    rw [← HQ.out]
    exact ⟨rfl, HB1.out⟩
  rw [if_neg (by rw [hc]; simp)] at hq
  rw [hc, errV_zero] at HC
  have hJ2 := stepsB_J 40 hJ1
  obtain ⟨s, hs⟩ : ∃ s, stepsB 40 p.1 f = s := ⟨_, rfl⟩
  rw [hs] at hq hJ2
  have HS : Hid (∀ w1, Bx w0 w1 d D l f p.1 → Calls Try.prog 31 #[.pointer (some ⟨D, 0, none⟩)] w1 fun e w' => e = .returned (.bool s.2.2) ∧ Bx w0 w' d D l s.2.1 s.1) := fun w1 hB => steps_any hB hJ1 hs
  clear hJ1
  cases hs2 : s.2.2 with
  | false =>
    rw [if_pos hs2] at hq
    rw [hs2] at HS
    have HQ := Lib.hid hq
    have HS2 := Lib.hid hs2
    clear hq hm hJ2 hs2
    go_enter Try.func27, Try.ntmps27
    go_wp2_with (fail)
    (with_reducible refine HC.out.mono ?_)
    rintro e w1 ⟨rfl, hB1⟩
    have HB1 := Lib.hid hB1
    clear hB1
    go_wp2_with (fail)
    (with_reducible refine (HS.out _ HB1.out).mono ?_)
    rintro e w2 ⟨rfl, hB2⟩
    have HB2 := Lib.hid hB2
    clear hB2
    go_wp2
    go_ret
    rw [← HQ.out]
    exact ⟨by rw [HS2.out]; rfl, HB2.out⟩
  | true =>
  rw [if_neg (by rw [hs2]; decide)] at hq
  rw [hs2] at HS
  obtain ⟨r, hr⟩ : ∃ r, feedsB img (nPages m) 0 s.1 s.2.1 = r := ⟨_, rfl⟩
  rw [hr] at hq
  have HL : Hid (∀ w1, Bx w0 w1 d D l s.2.1 s.1 → FdL w0 w1 d D l img (n + 40) r 0) := fun w1 hB => ⟨s.2.1, s.1, _, hB, hJ2, by omega, by rw [hm]; exact hr⟩
  have HQ := Lib.hid hq
  have HNN := Lib.hid hn
  clear hJ2 hs2 hq hs hr hp hc hn
  obtain ⟨np, hnp⟩ : ∃ np, nPages m = np := ⟨_, rfl⟩
  have HNP : Hid (nPages img.length = np) := by rw [Hid, hm]; exact hnp
  have hnp2 : m ≤ 64 * np ∧ 64 * np < m + 64 := by unfold nPages at hnp; omega
  obtain ⟨hnp3, hnp4⟩ := hnp2
  clear hnp hm
  go_enter Try.func27, Try.ntmps27
  go_wp2_with (fail)
  (with_reducible refine HC.out.mono ?_)
  rintro e w1 ⟨rfl, hB1⟩
  have HB1 := Lib.hid hB1
  clear hB1
  go_wp2_with (fail)
  (with_reducible refine (HS.out _ HB1.out).mono ?_)
  rintro e w2 ⟨rfl, hB2⟩
  have HB2 := Lib.hid (HL.out _ hB2)
  clear hB2
  go_wp2_with (fail)
  go_loopw [7] (fun i wr => ∃ j : Nat, j ≤ np ∧ i = .int .i64 ((64 * j : Nat) : Int) ∧ FdL w0 wr d D l img (n + 40) r j) (fun i _ => np - ((intOf i).toNat / 64))
  case atStart => exact ⟨0, Nat.zero_le _, rfl, HB2.out⟩
  case round =>
    obtain ⟨j, hj, rfl, hF⟩ := hrel
    obtain ⟨f3, b3, n3, hB, hJ, hn3, hq⟩ := hF
    rw [HNP.out] at hq
    obtain ⟨I, hI⟩ : ∃ I, 64 * j = I := ⟨_, rfl⟩
    by_cases hlt : j < np
    · obtain ⟨bb, off, rfl⟩ : ∃ b off, A = some ⟨b, off, none⟩ := by
        obtain ⟨b, off, e, _⟩ := hB.rd HA.out (by
          intro e
          have := kcells_length .u8 img
          simp only at e
          rw [e, HM.out] at this
          simp at this
          omega)
        exact ⟨b, off, e⟩
      obtain ⟨M, hM⟩ : ∃ M, min 64 (m - 64 * j) = M := ⟨_, rfl⟩
      have hcl : (chunkB img j).length = M := by rw [chunkB_length, HM.out, hM]
      have hM2 : 1 ≤ M ∧ M ≤ 64 ∧ 64 * j + M ≤ m := by omega
      obtain ⟨hM3, hM4, hM5⟩ := hM2
      obtain ⟨t, ht⟩ : ∃ t, feedB b3 f3 (chunkB img j) = t := ⟨_, rfl⟩
      have HFD := Lib.hid (hB.feed2 hJ.ok (some ⟨bb, off + I, none⟩) M (c - I) (chunkB img j) HA.out (fun X w h => by rw [← hI]; exact h.chunk) hcl (by omega) (by unfold maxLen; omega) ht)
      have hJ4 := feedB_J hJ (chunkB_bytes HBY.out j)
      rw [ht] at hJ4
      rw [show np - j = (np - (j + 1)) + 1 by omega] at hq
      unfold feedsB at hq
      rw [ht] at hq
      rw [hI] at hM5
      have hmin : min ((I : Int) + 64) (m : Int) = (I : Int) + (M : Int) := by omega
      have hIm : (I : Int) < (m : Int) := by omega
      have hIc : I ≤ c := by omega
      have hJ5 := stepsB_J 40 hJ4
      obtain ⟨z, hz⟩ : ∃ z, stepsB 40 t.1 f3 = z := ⟨_, rfl⟩
      have HS5 : Hid (∀ w1, Bx w0 w1 d D l f3 t.1 → Calls Try.prog 31 #[.pointer (some ⟨D, 0, none⟩)] w1 fun e w' => e = .returned (.bool z.2.2) ∧ Bx w0 w' d D l z.2.1 z.1) := fun w1 hB => steps_any hB hJ4 hz
      rw [hz] at hq hJ5
      have HJ5 := Lib.hid hJ5
      have HN3 := Lib.hid hn3
      have HI := Lib.hid hI
      rw [hI]
      clear hB hJ hJ4 hJ5 hM hcl hn3 HB1 HB2 HS HC HL
      by_cases hc : t.2 = 0
      case neg =>
        rw [if_pos hc] at hq
        rw [errV_ne hc] at HFD
        have HR := Lib.hid hq
        clear hq
        go_wp2_with (fail)
        (with_reducible refine HFD.out.mono ?_)
        rintro e w4 ⟨rfl, hB4⟩
        have HB4 := Lib.hid hB4
        clear hB4
        go_wp2
        go_ret
        have e1 := HQ.out
        rw [← HR.out, if_pos rfl] at e1
        rw [← e1]
        exact ⟨rfl, HB4.out⟩
      rw [if_neg (by rw [hc]; simp)] at hq
      rw [hc, errV_zero] at HFD
      cases hz2 : z.2.2 with
      | false =>
        rw [if_pos hz2] at hq
        rw [hz2] at HS5
        have HR := Lib.hid hq
        have HZ2 := Lib.hid hz2
        clear hq hz hz2 hc
        go_wp2_with (fail)
        (with_reducible refine HFD.out.mono ?_)
        rintro e w4 ⟨rfl, hB4⟩
        have HB4 := Lib.hid hB4
        clear hB4
        go_wp2_with (fail)
        (with_reducible refine (HS5.out _ HB4.out).mono ?_)
        rintro e w5 ⟨rfl, hB5⟩
        have HB5 := Lib.hid hB5
        clear hB5
        go_wp2
        go_ret
        have e1 := HQ.out
        rw [← HR.out, if_pos HZ2.out] at e1
        rw [← e1]
        exact ⟨by rw [HZ2.out]; rfl, HB5.out⟩
      | true =>
        rw [if_neg (by rw [hz2]; decide)] at hq
        rw [hz2] at HS5
        have HR := Lib.hid hq
        clear hq hz hz2 hc
        go_wp2_with (fail)
        (with_reducible refine HFD.out.mono ?_)
        rintro e w4 ⟨rfl, hB4⟩
        have HB4 := Lib.hid hB4
        clear hB4
        go_wp2_with (fail)
        (with_reducible refine (HS5.out _ HB4.out).mono ?_)
        rintro e w5 ⟨rfl, hB5⟩
        have HB5 := Lib.hid hB5
        clear hB5
        go_wp2
        go_roundw
        case rel => exact ⟨j + 1, by omega, by have := HI.out; go_num, z.2.1, z.1, _, HB5.out, HJ5.out, by have := HN3.out; push_cast; omega, by rw [HNP.out]; exact HR.out⟩
        case measure =>
          have := HI.out
          simp [intOf]
          omega
    · have hjn : j = np := by omega
      subst hjn
      rw [Nat.sub_self] at hq
      have HRR : Hid ((b3, f3, true) = r) := hq
      have e1 := HQ.out
      rw [← HRR.out, if_neg (by simp)] at e1
      unfold endB at e1
      simp only at e1
      obtain ⟨t, ht⟩ : ∃ t, finishB b3 f3 (sumZ img) = t := ⟨_, rfl⟩
      rw [ht] at e1
      have hu := sumZ_u32 img
      have hsmall : n3 ≤ 1000000 := by
        have := HNN.out
        omega
      have HFN : Hid (∀ w4, Bx w0 w4 d D l f3 b3 → Calls Try.prog 37 #[.pointer (some ⟨D, 0, none⟩), .int .u32 (sumZ img)] w4 fun e w' => e = .returned (errV t.2) ∧ Bx w0 w' d D l f3 t.1) := fun w4 hB => hB.finish hJ hsmall (sumZ img) hu ht
      have hJ4 := finishB_J hJ hu
      rw [ht] at hJ4
      obtain ⟨z, hz⟩ : ∃ z, stepsB 40 t.1 f3 = z := ⟨_, rfl⟩
      rw [hz] at e1
      have HS5 : Hid (∀ w1, Bx w0 w1 d D l f3 t.1 → Calls Try.prog 31 #[.pointer (some ⟨D, 0, none⟩)] w1 fun e w' => e = .returned (.bool z.2.2) ∧ Bx w0 w' d D l z.2.1 z.1) := fun w1 hB => steps_any hB hJ4 hz
      have HSM := Lib.hid (rsum_any A m c img wr (hB.rd HA.out) HM.out HBY.out (by omega))
      have HB := Lib.hid hB
      clear hB hJ hJ4 hn3 hq hu hsmall hz ht HB1 HB2 HS HC HL
      obtain ⟨cs, hcs⟩ : ∃ cs, sumZ img = cs := ⟨_, rfl⟩
      rw [hcs] at HSM HFN
      clear hcs
      by_cases hc : t.2 = 0
      case neg =>
        rw [if_pos hc] at e1
        rw [errV_ne hc] at HFN
        have HE := Lib.hid e1
        clear e1
        go_wp2_with (fail)
        (with_reducible refine HSM.out.mono ?_)
        rintro e w4 ⟨rfl, qd, rfl⟩
        have HB4 := Lib.hid (HB.out.later (Below.drewN (Below.refl _ _) qd))
        go_wp2_with (fail)
        (with_reducible refine (HFN.out _ HB4.out).mono ?_)
        rintro e w5 ⟨rfl, hB5⟩
        have HB5 := Lib.hid hB5
        clear hB5
        go_wp2
        go_ret
        rw [← HE.out]
        exact ⟨rfl, HB5.out⟩
      rw [if_neg (by rw [hc]; simp)] at e1
      rw [hc, errV_zero] at HFN
      have HE := Lib.hid e1
      clear e1 hc
      go_wp2_with (fail)
      (with_reducible refine HSM.out.mono ?_)
      rintro e w4 ⟨rfl, qd, rfl⟩
      have HB4 := Lib.hid (HB.out.later (Below.drewN (Below.refl _ _) qd))
      go_wp2_with (fail)
      (with_reducible refine (HFN.out _ HB4.out).mono ?_)
      rintro e w5 ⟨rfl, hB5⟩
      have HB5 := Lib.hid hB5
      clear hB5
      go_wp2_with (fail)
      (with_reducible refine (HS5.out _ HB5.out).mono ?_)
      rintro e w6 ⟨rfl, hB6⟩
      have HB6 := Lib.hid hB6
      clear hB6
      go_wp2
      all_goals
        go_ret
        rw [← HE.out]
        exact ⟨rfl, HB6.out⟩
end
end Go.Proofs.Ytjdknddnanopaaa
