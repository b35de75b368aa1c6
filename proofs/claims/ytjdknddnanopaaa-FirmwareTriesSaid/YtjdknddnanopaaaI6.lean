/-
  The walk of the statement about tries.
-/
import Derived.Test.YtjdknddnanopaaaI5
import Derived.Deep.RegionHeld3
namespace Go.Proofs.Ytjdknddnanopaaa
open Go.RowKit
set_option linter.unusedVariables false
set_option linter.unusedSimpArgs false

theorem two.far4 {w : World} {B C : Nat} {a b : Value} (h : two w B a b) (hne : C ≠ B) (a' b' c' d' : Value) : two (put4 w C a' b' c' d') B a b := by
  have hx : ∀ i j : Nat, (⟨C, i, none⟩ : Addr) ≠ ⟨B, j, none⟩ := fun i j e => by
    injection e with e
    exact hne e
  unfold put4
  constructor
  · rw [set_far4 _ _ _ _ (hx _ _), set_far4 _ _ _ _ (hx _ _), set_far4 _ _ _ _ (hx _ _), set_far4 _ _ _ _ (hx _ _)]
    exact h.1
  · rw [set_far4 _ _ _ _ (hx _ _), set_far4 _ _ _ _ (hx _ _), set_far4 _ _ _ _ (hx _ _), set_far4 _ _ _ _ (hx _ _)]
    exact h.2

section
variable {w0 w w' : World} {f : Fl} {b : Bk} {d D : Nat} {l : List (Option Addr × List Value)}
theorem Bx.trial2 (h : Bx w0 w d D l f b) (ho : BkOk f b) {x y : Int} (hx : savB b 1 = x) (hy : savB b 2 = y) : Calls Try.prog 29 #[.pointer (some ⟨D, 0, none⟩)] w fun e w' => e = .returned (.tuple #[.int .i64 x, .int .i64 y]) ∧ Bx w0 w' d D l f b ∧ Below w.heap.size w w' := by
  have h0 := h
  obtain ⟨L, S, K, h1, rfl, hk, hl⟩ := h
  refine (ftrial_any hk ho).mono ?_
  rintro e w' ⟨he, hb⟩
  rw [hx, hy] at he
  exact ⟨he, h0.later hb, hb⟩
end

set_option maxRecDepth 100000 in
set_option maxHeartbeats 16000000 in
theorem tries_any (b p s l x y c : Int) (hcb : 0 ≤ c ∧ c < 256) (w : World) : Calls Try.prog 5 #[.agg #[.int .i64 b, .int .i64 p, .int .i64 s, .int .i64 l], .agg #[.int .i64 x, .int .i64 y], .int .u8 c] w fun e w' => e = .returned (.bool true) ∧ Below w.heap.size w w' := by
  have g1 := ne_nil
  have g2 := ne_err
  have g3 := eq_nil
  have g4 := eq_err
  obtain ⟨C, hC⟩ : ∃ C : Nat, clipI b 0 1 = C := ⟨(clipI b 0 1).toNat, by unfold clipI; omega⟩
  obtain ⟨P, hP⟩ : ∃ P : Nat, clipI p 2 4 = P := ⟨(clipI p 2 4).toNat, by unfold clipI; omega⟩
  obtain ⟨S, hS⟩ : ∃ S : Nat, clipI s 1 1073741824 = S := ⟨(clipI s 1 1073741824).toNat, by unfold clipI; omega⟩
  obtain ⟨B, hB⟩ : ∃ B, 4 + 2 * C = B := ⟨_, rfl⟩
  obtain ⟨k, hk⟩ : ∃ k, (B - 2) / 2 = k := ⟨_, rfl⟩
  have hC1 : C ≤ 1 := by unfold clipI at hC; omega
  have hP24 : 2 ≤ P ∧ P ≤ 4 := by unfold clipI at hP; omega
  have hS12 : 1 ≤ S ∧ S ≤ 1073741824 := by unfold clipI at hS; omega
  have hk12 : 1 ≤ k ∧ k ≤ 2 ∧ 2 * k + 2 = B := by omega
  have hkP : 1 ≤ k * P := Nat.mul_le_mul hk12.1 (show 1 ≤ P by omega)
  have hkP8 : k * P ≤ 8 := Nat.mul_le_mul hk12.2.1 hP24.2
  obtain ⟨N, hN⟩ : ∃ N : Nat, clipI l 1 (((B - 2) / 2 * P * 64 : Nat) : Int) = N := ⟨(clipI l 1 (((B - 2) / 2 * P * 64 : Nat) : Int)).toNat, by unfold clipI; omega⟩
  have hN12 : 1 ≤ N ∧ N ≤ k * P * 64 := by
    rw [hk] at hN
    unfold clipI at hN
    omega
  obtain ⟨Y, hY⟩ : ∃ Y : Nat, clipI y 1 (((k * P * 64 : Nat)) : Int) = Y := ⟨(clipI y 1 ((k * P * 64 : Nat) : Int)).toNat, by unfold clipI; omega⟩
  have hY12 : 1 ≤ Y ∧ Y ≤ k * P * 64 := by unfold clipI at hY; omega
  obtain ⟨V9, hV9⟩ : ∃ v, clipI x 1 1073741824 = v := ⟨_, rfl⟩
  have hV12 : 1 ≤ V9 ∧ V9 ≤ 1073741824 := by unfold clipI at hV9; omega
  obtain ⟨X, hX⟩ : ∃ X, contB x Y = X := ⟨_, rfl⟩
  obtain ⟨I, hI⟩ : ∃ I, contB S N = I := ⟨_, rfl⟩
  have hXl : X.length = Y := by rw [← hX]; exact contB_length _ _
  have hXb : Bytes X := by rw [← hX]; exact contB_bytes _ _
  have hIl : I.length = N := by rw [← hI]; exact contB_length _ _
  have hIb : Bytes I := by rw [← hI]; exact contB_bytes _ _
  have HFT := Lib.hid (fit52_any b p s l C B P S N hC hB hP hS hN)
  have HPT := Lib.hid (fun W => plant_any k P hk12.1 hk12.2.1 hP24.1 hP24.2 S N hS12.1 hS12.2 hN12.1 hN12.2 W B hk12.2.2)
  rw [hI] at HPT
  obtain ⟨M, hM⟩ : ∃ M, k * P = M := ⟨_, rfl⟩
  have hMi : (k : Int) * (P : Int) = (M : Int) := by rw [← hM]; push_cast; rfl
  have hM8 : 1 ≤ M ∧ M ≤ 8 := by omega
  have HCY := Lib.hid (fun w => clip_any y 1 ((M : Int) * 64) w)
  have hY' : clipI y 1 ((M : Int) * 64) = Y := by rw [show ((M : Int) * 64) = ((k * P * 64 : Nat) : Int) by rw [hM]; push_cast; rfl]; exact hY
  rw [hY'] at HCY
  clear hY'
  have HCV9 := Lib.hid (fun w => clip_any x 1 1073741824 w)
  rw [hV9] at HCV9
  have HCX := Lib.hid (fun W => cont_n x (Y : Int) Y (by unfold clipI; omega) W)
  rw [hX] at HCX
  have HCI := Lib.hid (fun W => cont_n (S : Int) (N : Int) N (by unfold clipI; omega) W)
  rw [hI] at HCI
  have HXL := Lib.hid hXl
  have HXB := Lib.hid hXb
  have HIL := Lib.hid hIl
  have HIB := Lib.hid hIb
  have HV12 := Lib.hid hV12
  have HN12 := Lib.hid hN12
  have HY12 := Lib.hid hY12
  have HKB : Hid (2 * k + 2 = B) := hk12.2.2
  obtain ⟨AT, hAT⟩ : ∃ t, c % 6 = t := ⟨_, rfl⟩
  have hAT6 : 0 ≤ AT ∧ AT < 6 := by omega
  have hAT2 : c.tmod 6 = AT := by rw [Int.tmod_eq_emod_of_nonneg hcb.1]; exact hAT
  obtain ⟨V0, hV0⟩ : ∃ V, w.alloc (.cells #[.int .i64 b, .int .i64 p, .int .i64 s, .int .i64 l] 59) = V := ⟨_, rfl⟩
  obtain ⟨V, hV⟩ : ∃ V, V0.alloc (.cells #[.int .i64 x, .int .i64 y] 60) = V := ⟨_, rfl⟩
  have hb0 : Below w.heap.size w V0 := by rw [← hV0]; exact (Below.refl _ _).alloc (Nat.le_refl _) _
  have hc0 : four V0 w.heap.size (.int .i64 b) (.int .i64 p) (.int .i64 s) (.int .i64 l) := by rw [← hV0]; exact four_new _ _ _ _ _ _ _ rfl
  have hb1 : Below V0.heap.size V0 V := by rw [← hV]; exact (Below.refl _ _).alloc (Nat.le_refl _) _
  have HBV : Hid (Below w.heap.size w V) := hb0.trans (hb1.mono hb0.size)
  have HCV : Hid (four V w.heap.size (.int .i64 b) (.int .i64 p) (.int .i64 s) (.int .i64 l)) := hc0.below hb1 hc0.lt
  have HTV : Hid (two V V0.heap.size (.int .i64 x) (.int .i64 y)) := by rw [← hV]; exact two_new _ _ _ _ _ rfl
  have HNE : Hid (w.heap.size < V0.heap.size) := hc0.lt
  have qB1 : ((B : Int) - 2).tdiv 2 = (k : Int) := by rw [Int.tdiv_eq_ediv_of_nonneg (by omega)]; omega
  have qB2 : ((B : Int) - 2) / 2 = (k : Int) := by omega
  have hB46 : 4 ≤ B ∧ B ≤ 6 := by omega
  obtain ⟨hB4, hB6⟩ := hB46
  have hWW : IntKind.i64.wrap (IntKind.i64.wrap (IntKind.i64.wrap ((IntKind.i64.wrap ((B : Int) - 2)).tdiv 2) * (P : Int)) * 64) = (M : Int) * 64 := by
    rw [IntWalk.i64_in ((B : Int) - 2) (by omega), qB1, IntWalk.i64_in (k : Int) (by omega), hMi, IntWalk.i64_in (M : Int) (by omega), IntWalk.i64_in ((M : Int) * 64) (by omega)]
  have HM := Lib.hid hM
  have HM8 := Lib.hid hM8
  have HP24 := Lib.hid hP24
  have HK12 := Lib.hid hk12
  clear hC hP hS hB hk hC1 hS12 hkP hkP8 hN hN12 hM hk12 hP24 hX hI hXl hXb hIl hIb hY hY12 hV9 hV12 hb0 hb1 hc0
  go_enter Try.func5, Try.ntmps5
  go_wp2_with (fail)
  try rw [hV0]
  try rw [hV]
  clear hV
  (with_reducible refine (awake52_any V).mono ?_)
  rintro e w1 ⟨rfl, hb⟩
  have HB1 : Hid (Below w.heap.size w w1) := HBV.out.trans (hb.mono HBV.out.size)
  have HC1 := Lib.hid (HCV.out.below hb HCV.out.lt)
  have HT1 := Lib.hid (HTV.out.below hb HTV.out.lt)
  obtain ⟨d0, d1, d2, d3, dz⟩ := HC1.out
  clear hb dz hV0
  go_wp2_with (fail)
  (with_reducible refine (HFT.out w1).mono ?_)
  rintro e w2 ⟨rfl, hb⟩
  have HB2 : Hid (Below w.heap.size w w2) := HB1.out.trans (hb.mono HB1.out.size)
  have HC2 := Lib.hid (HC1.out.below hb HC1.out.lt)
  have HT2 := Lib.hid (HT1.out.below hb HT1.out.lt)
  obtain ⟨V3, hV3⟩ : ∃ V, put4 w2 w.heap.size (.int .i64 B) (.int .i64 P) (.int .i64 S) (.int .i64 N) = V := ⟨_, rfl⟩
  have HBV3 : Hid (Below w.heap.size w V3) := by rw [← hV3]; exact below_put4 HB2.out (Nat.le_refl _) _ _ _ _
  have HCV3 : Hid (four V3 w.heap.size (.int .i64 B) (.int .i64 P) (.int .i64 S) (.int .i64 N)) := by rw [← hV3]; exact HC2.out.put _ _ _ _
  have HTV3 : Hid (two V3 V0.heap.size (.int .i64 x) (.int .i64 y)) := by rw [← hV3]; exact HT2.out.far4 (by have := HNE.out; omega) _ _ _ _
  unfold put4 at hV3
  clear d0 d1 d2 d3 hb
  obtain ⟨d0, d1, d2, d3, dz⟩ := HC2.out
  have e0 := dz 0
  have e1 := dz 1
  have e2 := dz 2
  have e3 := dz 3
  clear dz
  go_upto_region 4 with (fail)
  try rw [hV3]
  clear hV3 d0 d1 d2 d3 e0 e1 e2 e3
  obtain ⟨d0, d1, d2, d3, dz⟩ := HCV3.out
  clear dz
  go_wp2_with (fail)
  (with_reducible refine (HPT.out V3).mono ?_)
  rintro e w4 ⟨W0, L, Sx, K, G, Bk0, rfl, hbw, hk, hpl, hsh, hpk⟩
  have HBW : Hid (Below V3.heap.size V3 W0) := hbw
  have hst := planted_start hpl hsh HK12.out.1 (by have := HK12.out; omega) HP24.out.1 (by rw [HIL.out]; exact HN12.out.1) (by rw [HIL.out]; exact HN12.out.2)
  have HST := Lib.hid hst
  obtain ⟨B1, hB1⟩ : ∃ x, ({ Bk0 with slot := 0 } : Bk) = x := ⟨_, rfl⟩
  obtain ⟨q, hq⟩ : ∃ q, installB V9 X B1 G = q := ⟨_, rfl⟩
  have htr := tr_start hst (v := V9) HV12.out (X := X) HXB.out (by rw [HXL.out]; exact HY12.out.1) (by rw [HXL.out]; exact HY12.out.2) (q := q) (by rw [hB1]; exact hq)
  have hbt := hst.bt
  have ho1 := hst.o1
  rw [hB1] at hbt ho1
  have HB4 : Hid (Bx W0 w4 L.d K.D [] G Bk0) := ⟨L, Sx, K, rfl, rfl, hk, fun p hp => by cases hp⟩
  obtain ⟨d, hd⟩ : ∃ d, L.d = d := ⟨_, rfl⟩
  obtain ⟨D0, hD0⟩ : ∃ D, K.D = D := ⟨_, rfl⟩
  rw [hd, hD0] at HB4
  rw [hd, hD0]
  have HCB : Hid (∀ W, Below W0.heap.size W0 W → (four W w.heap.size (.int .i64 B) (.int .i64 P) (.int .i64 S) (.int .i64 N) ∧ two W V0.heap.size (.int .i64 x) (.int .i64 y))) := fun W hb =>
    ⟨(HCV3.out.below HBW.out HCV3.out.lt).below hb (Nat.lt_of_lt_of_le HCV3.out.lt HBW.out.size), (HTV3.out.below HBW.out HTV3.out.lt).below hb (Nat.lt_of_lt_of_le HTV3.out.lt HBW.out.size)⟩
  have HFB : Hid (∀ W, Below W0.heap.size W0 W → Below w.heap.size w W) := fun W hb => (HBV3.out.trans (HBW.out.mono HBV3.out.size)).trans (hb.mono (Nat.le_trans HBV3.out.size HBW.out.size))
  have HBT : Hid (∀ W l, Bx W0 W d D0 l G Bk0 → Calls Try.prog 26 #[.pointer (some ⟨D0, 0, none⟩)] W fun e w' => e = .returned (.tuple #[.int .i64 0, .nilIface]) ∧ Bx W0 w' d D0 l G B1) := fun W l hB => by
    have := hB.boot HST.out.op.J.ok hbt
    rw [errV_zero] at this
    exact this
  have HIN : Hid (∀ W A, Bx W0 W d D0 [(A, kcells .u8 X)] G B1 → Calls Try.prog 27 #[.pointer (some ⟨D0, 0, none⟩), .int .i64 V9, .slice A Y Y] W fun e w' => e = .returned (.bool true) ∧ Bx W0 w' d D0 [(A, kcells .u8 X)] q.2.1 q.1) := fun W A hB => by
    have hy := HY12.out
    have hkk := HM.out
    have hmm := HM8.out
    have := install_any hB ho1.J V9 A Y Y X (List.mem_cons_self ..) HXL.out (Nat.le_refl _) (by unfold maxLen; rw [hkk] at hy; omega) HXB.out (by rw [hkk] at hy; omega) (by omega) hq
    rw [htr.1] at this
    exact this
  have HTR := Lib.hid htr
  have hxc := HCB.out w4 HB4.out.below
  have k0 : w4.drew.cell? ⟨w.heap.size, 0, none⟩ = some (.int .i64 B) ∧ w4.drew.cell? ⟨w.heap.size, 1, none⟩ = some (.int .i64 P) ∧ w4.drew.cell? ⟨V0.heap.size, 0, none⟩ = some (.int .i64 x) ∧ w4.drew.cell? ⟨V0.heap.size, 1, none⟩ = some (.int .i64 y) := ⟨hxc.1.1, hxc.1.2.1, hxc.2.1, hxc.2.2⟩
  have HXW : Hid (∀ W, Below w4.heap.size w4 W → Calls Try.prog 25 #[.int .i64 x, .int .i64 Y] W fun e w' => ∃ A, e = .returned (.slice A Y Y) ∧ Bx W0 w' d D0 [(A, kcells .u8 X)] G Bk0 ∧ (w'.cell? ⟨w.heap.size, 0, none⟩ = some (.int .i64 B) ∧ w'.cell? ⟨w.heap.size, 1, none⟩ = some (.int .i64 P) ∧ w'.cell? ⟨V0.heap.size, 0, none⟩ = some (.int .i64 x) ∧ w'.cell? ⟨V0.heap.size, 1, none⟩ = some (.int .i64 y))) := fun W hb => (HCX.out W).mono (fun e w' ⟨A, he, ho, hb2⟩ => by
    have h9 := (HB4.out.later hb).add hb2 (by rw [kcells_length]; exact HXL.out) ho
    obtain ⟨z1, z2⟩ := HCB.out w' h9.below
    exact ⟨A, he, h9, z1.1, z1.2.1, z2.1, z2.2⟩)
  clear hk hpl hsh hpk hbw d0 d1 d2 d3 hst hB1 hq htr hbt ho1 hd hD0
  obtain ⟨⟨d0, d1, -, -, -⟩, d2, d3⟩ := hxc
  go_wp2_with (fail)
  go_region_held3 (fun w9 => w9.cell? ⟨w.heap.size, 0, none⟩ = some (.int .i64 B) ∧ w9.cell? ⟨w.heap.size, 1, none⟩ = some (.int .i64 P) ∧ w9.cell? ⟨V0.heap.size, 0, none⟩ = some (.int .i64 x) ∧ w9.cell? ⟨V0.heap.size, 1, none⟩ = some (.int .i64 y)) (first | exact k0 | exact k2 | exact ⟨d0, d1, d2, d3⟩ | go_keep) (first
    | (go_at_call 12; (try rw [hWW]); with_reducible refine (HCY.out _).mono ?_; rintro e w5 ⟨rfl, rfl⟩)
    | (go_at_call 25; with_reducible refine (HXW.out _ (by first | exact Below.drew (Below.refl _ _) | exact Below.refl _ _ | exact Below.drewN (Below.refl _ _) _)).mono ?_; rintro e w6 ⟨A, rfl, hB6, k2⟩)
    )
  have HB6 := Lib.hid (hB6)
  go_wp2_with (fail)
  (with_reducible refine (HBT.out _ _ HB6.out).mono ?_)
  rintro e w7 ⟨rfl, hB7⟩
  have HB7 := Lib.hid hB7
  obtain ⟨⟨d0, d1, d2, d3, -⟩, d4, d5⟩ := HCB.out w7 hB7.below
  clear hB7
  go_wp2_with (fail)
  (with_reducible refine (HCV9.out _).mono ?_)
  rintro e wq ⟨rfl, rfl⟩
  go_wp2_with (fail)
  (with_reducible refine (HIN.out _ _ HB7.out).mono ?_)
  rintro e w8 ⟨rfl, hB8⟩
  have HB8 := Lib.hid hB8
  clear hB8 d0 d1 d2 d3 d4 d5
  go_wp2_with (fail)
  go_loopw [14, 71] (fun sv i wr => ∃ (n : Nat) (sb : Bool) (f : Fl) (b : Bk) (u : List Int) (m : Int) (D : Nat), n ≤ 6 ∧ i = .int .i64 (n : Int) ∧ sv = .bool sb ∧ Bx W0 wr d D [(A, kcells .u8 X)] f b ∧ TrS f k P I X m u n sb ∧ m ≤ 43 + 50 * n) (fun _ i _ => 6 - (intOf i).toNat)
  case atStart =>
    obtain ⟨t1, u, t2⟩ := HTR.out
    exact ⟨0, false, _, _, u, _, _, by omega, rfl, rfl, HB8.out, t2, by omega⟩
  case round =>
    obtain ⟨n, sb, f, b, u, m, D, hn6, rfl, rfl, hB, hS, hm⟩ := hrel
    by_cases hlt : n < 6
    · obtain ⟨b1, q1, run, hR⟩ := tr_round hS (by omega) (B := (B : Int)) (by have := HKB.out; omega)
      have HR := Lib.hid hR
      have HM' := Lib.hid hm
      have HOP := Lib.hid (hB.open 0 (B : Int) hR.reg hR.oe)
      rw [hR.ob] at HOP
      have HBO : Hid (∀ W D1, Bx W0 W d D1 [(A, kcells .u8 X)] f b1 → Calls Try.prog 26 #[.pointer (some ⟨D1, 0, none⟩)] W fun e w' => e = .returned (.tuple #[.int .i64 (run : Int), .nilIface]) ∧ Bx W0 w' d D1 [(A, kcells .u8 X)] q1.2.1 q1.1) := fun W D1 hB1 => by
        have := hB1.boot hR.J.ok hR.bt
        rw [hR.qr, errV_zero] at this
        exact this
      obtain ⟨Y3, hY3⟩ : ∃ Y3, (if run = 1 then X else I) = Y3 := ⟨_, rfl⟩
      have HIM : Hid (∀ W D1, Bx W0 W d D1 [(A, kcells .u8 X)] q1.2.1 q1.1 → Calls Try.prog 28 #[.pointer (some ⟨D1, 0, none⟩), .int .i64 (run : Int)] W fun e w' => ∃ A3 n3 c3, e = .returned (.tuple #[.slice A3 n3 c3, .nilIface]) ∧ Y3.length = n3 ∧ Rd w' w'.heap.size A3 (kcells .u8 Y3) ∧ Bx W0 w' d D1 [(A, kcells .u8 X)] q1.2.1 q1.1) := fun W D1 hB1 =>
        (hB1.image hR.J2.ok (run : Int) hR.im).mono (fun e w' ⟨A3, n3, c3, he, h1, h2, h3, h4, h5⟩ => by
          rw [hY3] at h1 h4
          simp only [errV_zero] at he
          exact ⟨A3, n3, c3, he, h1, h4, h5⟩)
      obtain ⟨⟨d0, d1, d2, d3, -⟩, -, -⟩ := HCB.out wr hB.below
      have hrn := hR.rn
      clear hB hS hR hm hn6
      go_wp2_with (fail)
      (with_reducible refine HOP.out.mono ?_)
      rintro e w9 ⟨D1, rfl, hB9⟩
      have HB9 := Lib.hid hB9
      clear hB9 d0 d1 d2 d3
      go_wp2_with (fail)
      (with_reducible refine (HBO.out _ _ HB9.out).mono ?_)
      rintro e w10 ⟨rfl, hB10⟩
      have HB10 := Lib.hid hB10
      clear hB10
      go_wp2_with (fail)
      (with_reducible refine (HIM.out _ _ HB10.out).mono ?_)
      rintro e w11 ⟨A3, n3, c3, rfl, hl3, hr3, hB11⟩
      have HB11 := Lib.hid hB11
      have HL3 := Lib.hid hl3
      have HR3 := Lib.hid hr3
      have HIDLE : Hid (∃ v, TrS q1.2.1 k P I X (m + 2) v (n + 1) sb) := HR.out.nx
      clear hB11 hl3 hr3
      cases sb with
      | true =>
        rcases hrn with ⟨-, hrun⟩ | ⟨hs, -, -⟩
        · subst hrun
          rw [if_pos rfl] at hY3
          subst hY3
          have k0 : (convert 22 9 (.slice A3 n3 c3)).run Try.prog w11 = .ok (.string (strOfNums X)) w11 := str_of HR3.out HL3.out
          have k1 : (convert 22 9 (.slice A Y Y)).run Try.prog w11 = .ok (.string (strOfNums X)) w11 := str_of (HB11.out.rd (p := (A, kcells .u8 X)) (List.mem_cons_self ..)) HXL.out
          have HBL := HB11
          by_cases hat0 : (n : Int) = AT
          · have hat : ((n : Int) == AT) = true := by simpa using hat0
            go_wp2
            go_roundw
            case rel =>
              obtain ⟨v, hv⟩ := HIDLE.out
              exact ⟨n + 1, _, _, _, v, _, D1, by omega, by go_num, rfl, HBL.out, hv, by have := HM'.out; push_cast; omega⟩
            case measure => simp [intOf]; omega
          · have hat : ((n : Int) == AT) = false := by simpa using hat0
            go_wp2
            go_roundw
            case rel =>
              obtain ⟨v, hv⟩ := HIDLE.out
              exact ⟨n + 1, _, _, _, v, _, D1, by omega, by go_num, rfl, HBL.out, hv, by have := HM'.out; push_cast; omega⟩
            case measure => simp [intOf]; omega
        · exact absurd (.inl rfl) hs
      | false =>
        rcases hrn with ⟨hs, hrun⟩ | ⟨hs, hrun, h1⟩
        · have hn3 : n < 3 := by
            rcases hs with e | e
            · cases e
            · exact e
          subst hrun
          rw [if_pos rfl] at hY3
          subst hY3
          have k0 : (convert 22 9 (.slice A3 n3 c3)).run Try.prog w11 = .ok (.string (strOfNums X)) w11 := str_of HR3.out HL3.out
          have k1 : (convert 22 9 (.slice A Y Y)).run Try.prog w11 = .ok (.string (strOfNums X)) w11 := str_of (HB11.out.rd (p := (A, kcells .u8 X)) (List.mem_cons_self ..)) HXL.out
          have HBL := HB11
          by_cases hat0 : (n : Int) = AT
          · have hat : ((n : Int) == AT) = true := by simpa using hat0
            obtain ⟨c1, c2, v, c3'⟩ := HR.out.cf rfl rfl
            obtain ⟨qc, hqc⟩ : ∃ qc, confirmB q1.1 q1.2.1 = qc := ⟨_, rfl⟩
            have hJc := confirmB_J HR.out.J2
            rw [hqc] at c1 c2 c3' hJc
            obtain ⟨qs, hqs⟩ : ∃ qs, stepsB 40 qc.1 q1.2.1 = qs := ⟨_, rfl⟩
            rw [hqs] at c2 c3'
            have HCF : Hid (Calls Try.prog 30 #[.pointer (some ⟨D1, 0, none⟩)] w11 fun e w' => e = .returned .nilIface ∧ Bx W0 w' d D1 [(A, kcells .u8 X)] q1.2.1 qc.1) := by
              have := HB11.out.confirm HR.out.J2 (by have := HM'.out; omega) hqc
              rw [c1, errV_zero] at this
              exact this
            have HSS : Hid (∀ W, Bx W0 W d D1 [(A, kcells .u8 X)] q1.2.1 qc.1 → Calls Try.prog 31 #[.pointer (some ⟨D1, 0, none⟩)] W fun e w' => e = .returned (.bool true) ∧ Bx W0 w' d D1 [(A, kcells .u8 X)] qs.2.1 qs.1) := fun W hB => by
              have := steps_any hB hJc hqs
              rw [c2] at this
              exact this
            have HC3 := Lib.hid c3'
            clear c1 c2 c3' hqc hqs hJc
            go_wp2_with (fail)
            (with_reducible refine HCF.out.mono ?_)
            rintro e w12 ⟨rfl, hB12⟩
            have HB12 := Lib.hid hB12
            clear hB12 k0 k1
            go_wp2_with (fail)
            (with_reducible refine (HSS.out _ HB12.out).mono ?_)
            rintro e w13 ⟨rfl, hB13⟩
            have HB13 := Lib.hid hB13
            clear hB13
            go_wp2
            go_roundw
            case rel => exact ⟨n + 1, true, _, _, v, _, D1, by omega, by go_num, rfl, HB13.out, HC3.out, by have := HM'.out; push_cast; omega⟩
            case measure => simp [intOf]; omega
          · have hat : ((n : Int) == AT) = false := by simpa using hat0
            go_wp2
            go_roundw
            case rel =>
              obtain ⟨v, hv⟩ := HIDLE.out
              exact ⟨n + 1, _, _, _, v, _, D1, by omega, by go_num, rfl, HBL.out, hv, by have := HM'.out; push_cast; omega⟩
            case measure => simp [intOf]; omega
        · have hn3 : ¬ n < 3 := fun e => hs (.inr e)
          subst hrun
          rw [if_neg (by omega)] at hY3
          subst hY3
          have HTL := Lib.hid (HB11.out.trial2 HR.out.J2.ok h1 (y := savB q1.1 2) rfl)
          go_wp2_with (fail)
          (with_reducible refine HTL.out.mono ?_)
          rintro e w12 ⟨rfl, hB12, hbt⟩
          have HB12 := Lib.hid hB12
          have HR12 := Lib.hid ((HR3.out.below hbt (Nat.le_refl _)).more hbt.size)
          have HS9 : Hid (∀ W, Below w12.heap.size w12 W → ((convert 22 9 (.slice A3 n3 c3)).run Try.prog W = .ok (.string (strOfNums I)) W ∧ W.cell? ⟨w.heap.size, 2, none⟩ = some (.int .i64 S) ∧ W.cell? ⟨w.heap.size, 3, none⟩ = some (.int .i64 N))) := fun W hb => by
            obtain ⟨⟨-, -, z2, z3, -⟩, -, -⟩ := HCB.out W (HB12.out.later hb).below
            exact ⟨str_of (HR12.out.below hb (Nat.le_refl _)) HL3.out, z2, z3⟩
          have k0 := HS9.out w12 (Below.refl _ _)
          have k1 := HS9.out w12.drew (Below.drew (Below.refl _ _))
          have HCW : Hid (∀ W, Below w12.heap.size w12 W → Calls Try.prog 25 #[.int .i64 S, .int .i64 N] W fun e w' => ∃ A, e = .returned (.slice A N N) ∧ Rd w' w'.heap.size A (kcells .u8 I) ∧ Below w12.heap.size w12 w') := fun W hb => (HCI.out W).mono (fun e w' ⟨A, he, ho, hb2⟩ => ⟨A, he, own_rd ho, hb.trans (hb2.mono hb.size)⟩)
          clear hB12 hbt
          obtain ⟨d1, d2, d3⟩ := k0
          go_wp2_with (fail)
          go_region_held (fun w' => (convert 22 9 (.slice A3 n3 c3)).run Try.prog w' = .ok (.string (strOfNums I)) w' ∧ w'.cell? ⟨w.heap.size, 2, none⟩ = some (.int .i64 S) ∧ w'.cell? ⟨w.heap.size, 3, none⟩ = some (.int .i64 N)) (first | exact ⟨d1, d2, d3⟩ | exact k1 | exact HS9.out _ hb8 | exact HS9.out _ (Below.drewN hb8 _) | go_keep) (first
            | (go_at_call 25; with_reducible refine (HCW.out _ (by first | exact Below.drew (Below.refl _ _) | exact Below.refl _ _ | exact Below.drewN (Below.refl _ _) _)).mono ?_; rintro e w13 ⟨A8, rfl, hr8, hb8⟩; have t7 : (convert 22 9 (.slice A8 N N)).run Try.prog w13 = .ok (.string (strOfNums I)) w13 := str_of hr8 HIL.out)
            )
          all_goals
            have HBL := HB12
            by_cases hat0 : (n : Int) = AT
            · have hat : ((n : Int) == AT) = true := by simpa using hat0
              go_wp2
              go_roundw
              case rel =>
                obtain ⟨v, hv⟩ := HIDLE.out
                exact ⟨n + 1, _, _, _, v, _, D1, by omega, by go_num, rfl, (by first | exact HB12.out.later hb8 | exact HB12.out.later (Below.drewN hb8 _) | exact (HB12.out.later hb8).later (Below.drewN (Below.refl _ _) _)), hv, by have := HM'.out; push_cast; omega⟩
              case measure => simp [intOf]; omega
            · have hat : ((n : Int) == AT) = false := by simpa using hat0
              go_wp2
              go_roundw
              case rel =>
                obtain ⟨v, hv⟩ := HIDLE.out
                exact ⟨n + 1, _, _, _, v, _, D1, by omega, by go_num, rfl, (by first | exact HB12.out.later hb8 | exact HB12.out.later (Below.drewN hb8 _) | exact (HB12.out.later hb8).later (Below.drewN (Below.refl _ _) _)), hv, by have := HM'.out; push_cast; omega⟩
              case measure => simp [intOf]; omega
    · have hn : n = 6 := by omega
      subst hn
      have HB := Lib.hid hB
      clear hB hS hm
      go_wp2
      go_ret
      exact ⟨rfl, HFB.out _ HB.out.below⟩
end Go.Proofs.Ytjdknddnanopaaa
