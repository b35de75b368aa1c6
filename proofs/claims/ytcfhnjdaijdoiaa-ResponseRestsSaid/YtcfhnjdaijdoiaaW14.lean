/-
  tasks.Load, and the reference's.
-/
import Derived.Test.YtcfhnjdaijdoiaaW13
namespace Go.Proofs.Ytcfhnjdaijdoiaa
open Go.RowKit
set_option linter.unusedVariables false

def loadV (l : List Tsk) : Option Nat → Value
  | some H => .tuple #[.int .i64 (loadOf H l), .int .i64 H, .nilIface]
  | none => .tuple #[.int .i64 0, .int .i64 0, .iface 47 (.int .i64 4)]

set_option maxHeartbeats 1000000 in
theorem Load_err (A : Option Addr) (n c : Nat) (l : List Tsk) (w : World) (hA : Rd w w.heap.size A (tcells l)) (hn : l.length = n) (hc : n ≤ c) (hcc : c ≤ maxLen) (k : Int) (hk : check l = k) (hk0 : k ≠ 0) :
    Calls Try.prog 33 #[.slice A n c] w fun e w' => e = .returned (.tuple #[.int .i64 0, .int .i64 0, .iface 47 (.int .i64 k)]) ∧ Below w.heap.size w w' := by
  have h1 := ne_err
  go_enter Try.func33, Try.ntmps33
  go_wp2_with (fail)
  (with_reducible refine (Hyper_err A n c l _ hA hn hc hcc k hk hk0).mono ?_)
  rintro e w1 ⟨rfl, hb⟩
  have HB := Lib.hid hb
  clear hb hk hk0 hn
  go_wp2
  go_ret3
  exact ⟨rfl, HB.out⟩

set_option maxHeartbeats 1000000 in
theorem Load_ok (A : Option Addr) (n c : Nat) (l : List Tsk) (w : World) (hA : Rd w w.heap.size A (tcells l)) (hn : l.length = n) (hc : n ≤ c) (hcc : c ≤ maxLen) (hk : check l = 0) :
    Calls Try.prog 33 #[.slice A n c] w fun e w' => e = .returned (loadV l (hyper l)) ∧ Below w.heap.size w w' := by
  have h1 := ne_nil
  have h2 := ne_err
  obtain ⟨hg, hn8⟩ := good_of_check hk
  rw [hn] at hn8
  have HG := Lib.hid hg
  have HA := Lib.hid hA
  have HN := Lib.hid hn
  have HK := Lib.hid hk
  obtain ⟨ho, hho⟩ : ∃ ho, hyper l = ho := ⟨_, rfl⟩
  have HH := Lib.hid hho
  clear hk hg hA hn hho
  go_enter Try.func33, Try.ntmps33
  go_wp2_with (fail)
  (with_reducible refine (Hyper_ok A n c l _ HA.out HN.out hc hcc HK.out).mono ?_)
  rintro e w1 ⟨rfl, hb⟩
  have HB := Lib.hid hb
  clear hb
  rw [HH.out]
  cases ho with
  | none =>
    unfold hyperV
    go_wp2
    go_ret3
    exact ⟨by rw [HH.out]; rfl, HB.out⟩
  | some H =>
    obtain ⟨_, hd, H1, H2⟩ := hyperFrom_spec l 1 H HG.out (Nat.le_refl _) (by omega) HH.out
    have HD := Lib.hid hd
    clear hd
    unfold hyperV
    go_wp2
    go_loopw [7, 20] (fun o i wr => ∃ k : Nat, k ≤ n ∧ i = .int .i64 k ∧ o = .int .i64 (loadOf H (l.take k)) ∧ 0 ≤ loadOf H (l.take k) ∧ loadOf H (l.take k) ≤ k * 268435456 ∧ Below w.heap.size w wr) (fun _ i _ => n - (intOf i).toNat)
    case atStart => exact ⟨0, Nat.zero_le _, rfl, rfl, by simp [loadOf], by simp [loadOf], HB.out⟩
    case round =>
      obtain ⟨k, hk, rfl, rfl, s1, s2, hB⟩ := hrel
      have HB2 := Lib.hid hB
      have hs : w.heap.size ≤ wr.heap.size := hB.size
      clear hB
      by_cases hlt : k < n
      · obtain ⟨x, hx⟩ := getElem?_of_lt (l := l) (k := k) (by rw [HN.out]; exact hlt)
        have hxb := HG.out x (List.mem_of_getElem? hx)
        obtain ⟨b, off, rfl, hbl, c0, c1, c2, c3, c4⟩ := (HA.out.below HB2.out (Nat.le_refl _)).tsk hx
        obtain ⟨l1, l2, l3, l4⟩ := load_one x H hxb H2
        have HS := Lib.hid (loadOf_step H l k x hx)
        have HMD := Lib.hid (mul_div_load x H hxb (HD.out x (List.mem_of_getElem? hx)))
        simp only [Tsk.bad, not_or, Int.not_lt] at hxb
        obtain ⟨b1, b2, b3, b4, b5, b6, b7⟩ := hxb
        have hm0 : 0 ≤ x.c * (H : Int) := Int.mul_nonneg (by omega) (by omega)
        have hm1 : x.c * (H : Int) ≤ 268435456 := by
          have : x.c * (H : Int) ≤ 4096 * 65536 := Int.mul_le_mul (by omega) (by omega) (by omega) (by omega)
          omega
        have hq0 : 0 ≤ x.c * (H : Int) / x.p := by rw [HMD.out]; exact l1
        have hq1 : x.c * (H : Int) / x.p ≤ 268435456 := by rw [HMD.out]; exact l2
        clear hx l1 l2 l3 l4
        go_wp2
        go_roundw
        case rel => exact ⟨k + 1, by omega, by go_num, by rw [HS.out, HMD.out], by rw [HS.out, ← HMD.out]; omega, by rw [HS.out, ← HMD.out]; omega, HB2.out.alloc hs _⟩
        case measure => simp [intOf]; omega
      · have hkn : k = n := by omega
        subst hkn
        have HT : Hid (l.take k = l) := List.take_of_length_le (by rw [HN.out]; exact Nat.le_refl _)
        go_wp2
        go_ret3
        exact ⟨by rw [HH.out, HT.out]; rfl, HB2.out⟩

def refLoadV (l : List Tsk) : Option Nat → Value
  | some H => .tuple #[.int .i64 (loadOf H l), .int .i64 H, .int .i64 0]
  | none => .tuple #[.int .i64 0, .int .i64 0, .int .i64 4]

set_option maxHeartbeats 1000000 in
theorem refLoad_ok (A : Option Addr) (n c : Nat) (l : List Tsk) (w : World) (hA : Rd w w.heap.size A (tcells l)) (hn : l.length = n) (hc : n ≤ c) (hcc : c ≤ maxLen) (hk : check l = 0) :
    Calls Try.prog 36 #[.slice A n c] w fun e w' => e = .returned (refLoadV l (hyper l)) ∧ Below w.heap.size w w' := by
  obtain ⟨hg, hn8⟩ := good_of_check hk
  rw [hn] at hn8
  have HG := Lib.hid hg
  have HA := Lib.hid hA
  have HN := Lib.hid hn
  have HK := Lib.hid hk
  obtain ⟨ho, hho⟩ : ∃ ho, hyper l = ho := ⟨_, rfl⟩
  have HH := Lib.hid hho
  clear hk hg hA hn hho
  have q4 : ((4 : Int) != 0) = true := rfl
  have q0 : ((0 : Int) != 0) = false := rfl
  go_enter Try.func36, Try.ntmps36
  go_wp2_with (fail)
  (with_reducible refine (refHyper_ok A n c l _ HA.out HN.out hc hcc HK.out).mono ?_)
  rintro e w1 ⟨rfl, hb⟩
  have HB := Lib.hid hb
  clear hb
  rw [HH.out]
  cases ho with
  | none =>
    unfold refHyperV
    go_wp2
    go_ret3
    exact ⟨by rw [HH.out]; rfl, HB.out⟩
  | some H =>
    obtain ⟨_, hd, H1, H2⟩ := hyperFrom_spec l 1 H HG.out (Nat.le_refl _) (by omega) HH.out
    unfold refHyperV
    clear hd
    go_wp2
    go_loopw [7, 20] (fun o i wr => ∃ k : Nat, k ≤ n ∧ i = .int .i64 k ∧ o = .int .i64 (loadOf H (l.take k)) ∧ 0 ≤ loadOf H (l.take k) ∧ loadOf H (l.take k) ≤ k * 268435456 ∧ Below w.heap.size w wr) (fun _ i _ => n - (intOf i).toNat)
    case atStart => exact ⟨0, Nat.zero_le _, rfl, rfl, by simp [loadOf], by simp [loadOf], HB.out⟩
    case round =>
      obtain ⟨k, hk, rfl, rfl, s1, s2, hB⟩ := hrel
      have HB2 := Lib.hid hB
      have hs : w.heap.size ≤ wr.heap.size := hB.size
      clear hB
      by_cases hlt : k < n
      · obtain ⟨x, hx⟩ := getElem?_of_lt (l := l) (k := k) (by rw [HN.out]; exact hlt)
        have hxb := HG.out x (List.mem_of_getElem? hx)
        obtain ⟨b, off, rfl, hbl, c0, c1, c2, c3, c4⟩ := (HA.out.below HB2.out (Nat.le_refl _)).tsk hx
        obtain ⟨l1, l2, l3, l4⟩ := load_one x H hxb H2
        have HS := Lib.hid (loadOf_step H l k x hx)
        simp only [Tsk.bad, not_or, Int.not_lt] at hxb
        obtain ⟨b1, b2, b3, b4, b5, b6, b7⟩ := hxb
        clear hx
        go_wp2
        have e0 : (wr.alloc (.cells #[.int .i64 x.p, .int .i64 x.o, .int .i64 x.c, .int .i64 x.d, .int .i64 x.q] 34)).cell? ⟨wr.heap.size, 0, none⟩ = some (.int .i64 x.p) := by simp
        have e2 : (wr.alloc (.cells #[.int .i64 x.p, .int .i64 x.o, .int .i64 x.c, .int .i64 x.d, .int .i64 x.q] 34)).cell? ⟨wr.heap.size, 2, none⟩ = some (.int .i64 x.c) := by simp
        have HB3 : Hid (Below w.heap.size w (wr.alloc (.cells #[.int .i64 x.p, .int .i64 x.o, .int .i64 x.c, .int .i64 x.d, .int .i64 x.q] 34))) := HB2.out.alloc hs _
        generalize wr.alloc (.cells #[.int .i64 x.p, .int .i64 x.o, .int .i64 x.c, .int .i64 x.d, .int .i64 x.q] 34) = W1 at *
        go_quiet (fail)
        try rw [show wrap64 (x.c * ((H : Int) / x.p)) = x.c * ((H : Int) / x.p) from IntWalk.wrap64_in _ ⟨by omega, by omega⟩]
        try rw [show wrap64 (loadOf H (l.take k) + x.c * ((H : Int) / x.p)) = loadOf H (l.take k) + x.c * ((H : Int) / x.p) from IntWalk.wrap64_in _ ⟨by omega, by omega⟩]
        go_wp2
        go_roundw
        case rel => exact ⟨k + 1, by omega, by go_num, by rw [HS.out], by rw [HS.out]; omega, by rw [HS.out]; omega, Below.drewN HB3.out _⟩
        case measure => simp [intOf]; omega
      · have hkn : k = n := by omega
        subst hkn
        have HT : Hid (l.take k = l) := List.take_of_length_le (by rw [HN.out]; exact Nat.le_refl _)
        go_wp2
        go_ret3
        exact ⟨by rw [HH.out, HT.out]; rfl, HB2.out⟩
end Go.Proofs.Ytcfhnjdaijdoiaa
