/-
  tasks.gcd, Hyper, Load, and the reference's.
-/
import Derived.Test.YtcfhnjdaijdoiaaW1
import Derived.Test.YtcfhnjdaijdoiaaW4
import Derived.Test.YtcfhnjdaijdoiaaPlain8
import Derived.Deep.RegionHeld3
namespace Go.Proofs.Ytcfhnjdaijdoiaa
open Go.RowKit
set_option linter.unusedVariables false

theorem gcd_any (a b : Nat) (w : World) (ha : a ≤ 1000000000) (hb : b ≤ 1000000000) :
    Calls Try.prog 53 #[.int .i64 a, .int .i64 b] w fun e w' => e = .returned (.int .i64 (Nat.gcd a b)) ∧ ∃ n, w' = w.drewN n := by
  go_enter Try.func53, Try.ntmps53
  go_wp2
  go_loopw [0, 1] (fun x y wr => ∃ p q : Nat, p ≤ 1000000000 ∧ q ≤ 1000000000 ∧ x = .int .i64 p ∧ y = .int .i64 q ∧ Nat.gcd p q = Nat.gcd a b ∧ ∃ n, wr = w.drewN n) (fun x y wr => (intOf y).toNat)
  case atStart => exact ⟨a, b, ha, hb, rfl, rfl, rfl, 0, rfl⟩
  case round =>
    obtain ⟨p, q, h2, h4, rfl, rfl, hg, n, rfl⟩ := hrel
    have Hg := Lib.hid hg
    clear hg
    by_cases hq : q = 0
    · subst hq
      have hq' : ((0 : Int) != 0) = false := rfl
      go_wp2
      go_ret
      refine ⟨?_, n, rfl⟩
      rw [← Hg.out, Nat.gcd_zero_right]
      rfl
    · have hq' : ((q : Int) != 0) = true := by simpa using hq
      have hlt : p % q < q := Nat.mod_lt _ (by omega)
      have hc : (p : Int) % (q : Int) = ((p % q : Nat) : Int) := rfl
      have HC := Lib.hid hc
      have HQ := Lib.hid hq
      clear hc hq
      go_wp2
      go_quiet (fail)
      go_wp2
      go_roundw
      case rel => exact ⟨q, p % q, h4, by omega, rfl, by rw [← HC.out], by rw [gcd_step]; exact Hg.out, _, World.drewN_drewN ..⟩
      case measure => simp [intOf]; have := HC.out; omega

theorem refgcd_any (a b : Nat) (w : World) (ha : a ≤ 1000000000) (hb : b ≤ 1000000000) :
    Calls Try.prog 54 #[.int .i64 a, .int .i64 b] w fun e w' => e = .returned (.int .i64 (Nat.gcd a b)) ∧ ∃ n, w' = w.drewN n := by
  go_enter Try.func54, Try.ntmps54
  go_wp2
  go_loopw [0, 1] (fun x y wr => ∃ p q : Nat, p ≤ 1000000000 ∧ q ≤ 1000000000 ∧ x = .int .i64 p ∧ y = .int .i64 q ∧ Nat.gcd p q = Nat.gcd a b ∧ ∃ n, wr = w.drewN n) (fun x y wr => (intOf y).toNat)
  case atStart => exact ⟨a, b, ha, hb, rfl, rfl, rfl, 0, rfl⟩
  case round =>
    obtain ⟨p, q, h2, h4, rfl, rfl, hg, n, rfl⟩ := hrel
    have Hg := Lib.hid hg
    clear hg
    by_cases hq : q = 0
    · subst hq
      go_wp2
      go_ret
      refine ⟨?_, n, rfl⟩
      rw [← Hg.out, Nat.gcd_zero_right]
      rfl
    · have hq' : (0 : Int) < (q : Int) := by omega
      have hlt : p % q < q := Nat.mod_lt _ (by omega)
      have hc : (p : Int) % (q : Int) = ((p % q : Nat) : Int) := rfl
      have HC := Lib.hid hc
      have HQ := Lib.hid hq
      clear hc hq
      go_wp2
      go_quiet (fail)
      go_wp2
      go_roundw
      case rel => exact ⟨q, p % q, h4, by omega, rfl, by rw [← HC.out], by rw [gcd_step]; exact Hg.out, _, World.drewN_drewN ..⟩
      case measure => simp [intOf]; have := HC.out; omega

set_option maxHeartbeats 1000000 in
theorem Hyper_err (A : Option Addr) (n c : Nat) (l : List Tsk) (w : World) (hA : Rd w w.heap.size A (tcells l)) (hn : l.length = n) (hc : n ≤ c) (hcc : c ≤ maxLen) (k : Int) (hk : check l = k) (hk0 : k ≠ 0) :
    Calls Try.prog 32 #[.slice A n c] w fun e w' => e = .returned (.tuple #[.int .i64 0, .iface 47 (.int .i64 k)]) ∧ Below w.heap.size w w' := by
  have HC : Hid (errV (check l) = .iface 47 (.int .i64 k)) := by rw [hk]; exact errV_ne hk0
  have h1 := ne_err
  clear hk hk0
  go_enter Try.func32, Try.ntmps32
  go_wp2_with (fail)
  (with_reducible refine (check_any A n c l _ hA hn hc hcc).mono ?_)
  rintro e w1 ⟨rfl, hb⟩
  rw [HC.out]
  have HB := Lib.hid hb
  clear hb
  go_wp2
  go_ret2
  exact ⟨rfl, HB.out⟩

/-- What Hyper returns. -/
def hyperV : Option Nat → Value
  | some H => .tuple #[.int .i64 H, .nilIface]
  | none => .tuple #[.int .i64 0, .iface 47 (.int .i64 4)]

set_option maxHeartbeats 1000000 in
theorem Hyper_ok (A : Option Addr) (n c : Nat) (l : List Tsk) (w : World) (hA : Rd w w.heap.size A (tcells l)) (hn : l.length = n) (hc : n ≤ c) (hcc : c ≤ maxLen) (hk : check l = 0) :
    Calls Try.prog 32 #[.slice A n c] w fun e w' => e = .returned (hyperV (hyper l)) ∧ Below w.heap.size w w' := by
  have HC : Hid (errV (check l) = .nilIface) := by rw [hk]; rfl
  have h1 := ne_nil
  obtain ⟨hg, hn8⟩ := good_of_check hk
  rw [hn] at hn8
  have HG := Lib.hid hg
  have HA := Lib.hid hA
  have HN := Lib.hid hn
  clear hk hg hA hn
  go_enter Try.func32, Try.ntmps32
  go_wp2_with (fail)
  (with_reducible refine (check_any A n c l _ HA.out HN.out hc hcc).mono ?_)
  rintro e w1 ⟨rfl, hb⟩
  rw [HC.out]
  have HB := Lib.hid hb
  clear hb
  go_wp2
  go_loopw [5, 15] (fun o i wr => ∃ (k H : Nat), k ≤ n ∧ i = .int .i64 k ∧ o = .int .i64 H ∧ 1 ≤ H ∧ H ≤ 65536 ∧ hyperFrom H (l.drop k) = hyper l ∧ Below w.heap.size w wr) (fun _ i _ => n - (intOf i).toNat)
  case atStart => exact ⟨0, 1, Nat.zero_le _, rfl, rfl, Nat.le_refl _, by omega, rfl, HB.out⟩
  case round =>
    obtain ⟨k, H, hk, rfl, rfl, H1, H2, hh, hB⟩ := hrel
    have HH := Lib.hid hh
    have HB2 := Lib.hid hB
    have hs : w.heap.size ≤ wr.heap.size := hB.size
    clear hh hB
    by_cases hlt : k < n
    · obtain ⟨x, hx⟩ := getElem?_of_lt (l := l) (k := k) (by rw [HN.out]; exact hlt)
      have hxb := HG.out x (List.mem_of_getElem? hx)
      obtain ⟨b, off, rfl, hbl, c0, c1, c2, c3, c4⟩ := (HA.out.below HB2.out (Nat.le_refl _)).tsk hx
      have HS := Lib.hid (hyperFrom_step H l k x hx)
      simp only [Tsk.bad, not_or, Int.not_lt] at hxb
      obtain ⟨b1, b2, _⟩ := hxb
      obtain ⟨P, hP⟩ : ∃ P : Nat, x.p = (P : Int) := ⟨x.p.toNat, by omega⟩
      have HS2 : Hid (hyperFrom H (l.drop k) = if 65536 < Nat.lcm H P then none else hyperFrom (Nat.lcm H P) (l.drop (k + 1))) := by
        have := HS.out
        rw [hP] at this
        exact this
      rw [hP] at c0 b1 b2
      clear hx HS
      have hg1 : 1 ≤ Nat.gcd H P := Nat.gcd_pos_of_pos_left _ (by omega)
      have hg2 : Nat.gcd H P ≤ P := Nat.gcd_le_right _ (by omega)
      have hq : ((P : Int) / ((Nat.gcd H P : Nat) : Int)) = ((P / Nat.gcd H P : Nat) : Int) := rfl
      have hml : (H : Int) * ((P : Int) / ((Nat.gcd H P : Nat) : Int)) = ((Nat.lcm H P : Nat) : Int) := by
        rw [hq, ← mul_div_gcd H P (by omega)]; rfl
      have HML := Lib.hid hml
      have hlcm : Nat.lcm H P ≤ 65536 * 4096 := Nat.le_trans (Nat.le_of_dvd (Nat.mul_pos (by omega) (by omega)) (Nat.lcm_dvd_mul H P)) (Nat.mul_le_mul (by omega) (by omega))
      have hl1 : 1 ≤ Nat.lcm H P := Nat.lcm_pos (by omega) (by omega)
      have hq0 : 0 ≤ (P : Int) / ((Nat.gcd H P : Nat) : Int) := by rw [hq]; exact Int.natCast_nonneg _
      have hq2 : (P : Int) / ((Nat.gcd H P : Nat) : Int) ≤ 4096 := by rw [hq]; have := Nat.div_le_self P (Nat.gcd H P); omega
      clear hq hml
      go_wp2
      have e0 : (wr.alloc (.cells #[.int .i64 P, .int .i64 x.o, .int .i64 x.c, .int .i64 x.d, .int .i64 x.q] 34)).cell? ⟨wr.heap.size, 0, none⟩ = some (.int .i64 P) := by simp
      have HB3 : Hid (Below w.heap.size w (wr.alloc (.cells #[.int .i64 P, .int .i64 x.o, .int .i64 x.c, .int .i64 x.d, .int .i64 x.q] 34))) := HB2.out.alloc hs _
      generalize wr.alloc (.cells #[.int .i64 P, .int .i64 x.o, .int .i64 x.c, .int .i64 x.d, .int .i64 x.q] 34) = W1 at *
      have hg0 : ¬ ((Nat.gcd H P : Nat) : Int) = 0 := by omega
      go_quiet ((go_at_call 53; exact Calls.quiet_of (gcd_any _ _ _ (by omega) (by omega))))
      rw [show wrap64 ((H : Int) * ((P : Int) / ((Nat.gcd H P : Nat) : Int))) = ((Nat.lcm H P : Nat) : Int) from by rw [HML.out]; exact IntWalk.wrap64_in _ ⟨by omega, by omega⟩]
      clear hg1 hg2 hq0 hq2 hg0
      by_cases hbig : 65536 < Nat.lcm H P
      · have HM : Hid (hyper l = none) := by
          have := HS2.out
          rw [if_pos hbig, HH.out] at this
          exact this
        go_wp2
        go_ret2
        exact ⟨by rw [HM.out]; rfl, Below.drewN HB3.out _⟩
      · have HM : Hid (hyperFrom (Nat.lcm H P) (l.drop (k + 1)) = hyper l) := by
          have := HS2.out
          rw [if_neg hbig, HH.out] at this
          exact this.symm
        go_wp2
        go_roundw
        case rel => exact ⟨k + 1, _, by omega, by go_num, rfl, hl1, by omega, HM.out, Below.drewN HB3.out _⟩
        case measure => simp [intOf]; omega
    · have hkn : k = n := by omega
      subst hkn
      have HM : Hid (hyper l = some H) := by
        have := HH.out
        rw [List.drop_eq_nil_of_le (by rw [HN.out]; omega)] at this
        exact this.symm
      go_wp2
      go_ret2
      exact ⟨by rw [HM.out]; rfl, HB2.out⟩

def refHyperV : Option Nat → Value
  | some H => .tuple #[.int .i64 H, .int .i64 0]
  | none => .tuple #[.int .i64 0, .int .i64 4]

set_option maxHeartbeats 1000000 in
theorem refHyper_ok (A : Option Addr) (n c : Nat) (l : List Tsk) (w : World) (hA : Rd w w.heap.size A (tcells l)) (hn : l.length = n) (hc : n ≤ c) (hcc : c ≤ maxLen) (hk : check l = 0) :
    Calls Try.prog 35 #[.slice A n c] w fun e w' => e = .returned (refHyperV (hyper l)) ∧ Below w.heap.size w w' := by
  obtain ⟨hg, hn8⟩ := good_of_check hk
  rw [hn] at hn8
  have HG := Lib.hid hg
  have HA := Lib.hid hA
  have HN := Lib.hid hn
  clear hk hg hA hn
  go_enter Try.func35, Try.ntmps35
  have HB : Hid (Below w.heap.size w w) := Below.refl _ _
  go_wp2
  go_loopw [4, 9] (fun o i wr => ∃ (k H : Nat), k ≤ n ∧ i = .int .i64 k ∧ o = .int .i64 H ∧ 1 ≤ H ∧ H ≤ 65536 ∧ hyperFrom H (l.drop k) = hyper l ∧ Below w.heap.size w wr) (fun _ i _ => n - (intOf i).toNat)
  case atStart => exact ⟨0, 1, Nat.zero_le _, rfl, rfl, Nat.le_refl _, by omega, rfl, HB.out⟩
  case round =>
    obtain ⟨k, H, hk, rfl, rfl, H1, H2, hh, hB⟩ := hrel
    have HH := Lib.hid hh
    have HB2 := Lib.hid hB
    have hs : w.heap.size ≤ wr.heap.size := hB.size
    clear hh hB
    by_cases hlt : k < n
    · obtain ⟨x, hx⟩ := getElem?_of_lt (l := l) (k := k) (by rw [HN.out]; exact hlt)
      have hxb := HG.out x (List.mem_of_getElem? hx)
      obtain ⟨b, off, rfl, hbl, c0, c1, c2, c3, c4⟩ := (HA.out.below HB2.out (Nat.le_refl _)).tsk hx
      have HS := Lib.hid (hyperFrom_step H l k x hx)
      simp only [Tsk.bad, not_or, Int.not_lt] at hxb
      obtain ⟨b1, b2, _⟩ := hxb
      obtain ⟨P, hP⟩ : ∃ P : Nat, x.p = (P : Int) := ⟨x.p.toNat, by omega⟩
      have HS2 : Hid (hyperFrom H (l.drop k) = if 65536 < Nat.lcm H P then none else hyperFrom (Nat.lcm H P) (l.drop (k + 1))) := by
        have := HS.out
        rw [hP] at this
        exact this
      rw [hP] at c0 b1 b2
      clear hx HS
      have hg1 : 1 ≤ Nat.gcd H P := Nat.gcd_pos_of_pos_left _ (by omega)
      have hg2 : Nat.gcd H P ≤ H := Nat.gcd_le_left _ (by omega)
      have hq : ((H : Int) / ((Nat.gcd H P : Nat) : Int)) = ((H / Nat.gcd H P : Nat) : Int) := rfl
      have hml : (H : Int) / ((Nat.gcd H P : Nat) : Int) * (P : Int) = ((Nat.lcm H P : Nat) : Int) := by
        rw [hq, ← div_gcd_mul H P]; rfl
      have HML := Lib.hid hml
      have hlcm : Nat.lcm H P ≤ 65536 * 4096 := Nat.le_trans (Nat.le_of_dvd (Nat.mul_pos (by omega) (by omega)) (Nat.lcm_dvd_mul H P)) (Nat.mul_le_mul (by omega) (by omega))
      have hl1 : 1 ≤ Nat.lcm H P := Nat.lcm_pos (by omega) (by omega)
      have hq0 : 0 ≤ (H : Int) / ((Nat.gcd H P : Nat) : Int) := by rw [hq]; exact Int.natCast_nonneg _
      have hq2 : (H : Int) / ((Nat.gcd H P : Nat) : Int) ≤ 65536 := by rw [hq]; have := Nat.div_le_self H (Nat.gcd H P); omega
      clear hq hml
      go_wp2
      have e0 : (wr.alloc (.cells #[.int .i64 P, .int .i64 x.o, .int .i64 x.c, .int .i64 x.d, .int .i64 x.q] 34)).cell? ⟨wr.heap.size, 0, none⟩ = some (.int .i64 P) := by simp
      have HB3 : Hid (Below w.heap.size w (wr.alloc (.cells #[.int .i64 P, .int .i64 x.o, .int .i64 x.c, .int .i64 x.d, .int .i64 x.q] 34))) := HB2.out.alloc hs _
      generalize wr.alloc (.cells #[.int .i64 P, .int .i64 x.o, .int .i64 x.c, .int .i64 x.d, .int .i64 x.q] 34) = W1 at *
      have hg0 : ¬ ((Nat.gcd H P : Nat) : Int) = 0 := by omega
      go_quiet ((go_at_call 54; exact Calls.quiet_of (refgcd_any _ _ _ (by omega) (by omega))))
      rw [show wrap64 ((H : Int) / ((Nat.gcd H P : Nat) : Int) * (P : Int)) = ((Nat.lcm H P : Nat) : Int) from by rw [HML.out]; exact IntWalk.wrap64_in _ ⟨by omega, by omega⟩]
      clear hg1 hg2 hq0 hq2 hg0
      by_cases hbig : 65536 < Nat.lcm H P
      · have HM : Hid (hyper l = none) := by
          have := HS2.out
          rw [if_pos hbig, HH.out] at this
          exact this
        go_wp2
        go_ret2
        exact ⟨by rw [HM.out]; rfl, Below.drewN HB3.out _⟩
      · have HM : Hid (hyperFrom (Nat.lcm H P) (l.drop (k + 1)) = hyper l) := by
          have := HS2.out
          rw [if_neg hbig, HH.out] at this
          exact this.symm
        go_wp2
        go_roundw
        case rel => exact ⟨k + 1, _, by omega, by go_num, rfl, hl1, by omega, HM.out, Below.drewN HB3.out _⟩
        case measure => simp [intOf]; omega
    · have hkn : k = n := by omega
      subst hkn
      have HM : Hid (hyper l = some H) := by
        have := HH.out
        rw [List.drop_eq_nil_of_le (by rw [HN.out]; omega)] at this
        exact this.symm
      go_wp2
      go_ret2
      exact ⟨by rw [HM.out]; rfl, HB2.out⟩
end Go.Proofs.Ytcfhnjdaijdoiaa
