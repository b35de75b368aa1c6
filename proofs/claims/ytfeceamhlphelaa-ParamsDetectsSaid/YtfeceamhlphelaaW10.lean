/-
  FlashFuses.
-/
import Derived.Test.YtfeceamhlphelaaW9
import Derived.Test.YtfeceamhlphelaaPlainU
namespace Go.Proofs.Ytfeceamhlphelaa
open Go.RowKit
set_option linter.unusedVariables false

theorem apart_nil (L : Lc) (w : World) : Apart L w none (kcells .u8 []) := fun hx => absurd rfl hx

theorem rd_bool {w : World} {B : Nat} {A : Option Addr} {l : List Bool} (h : Rd w B A (l.map Value.bool)) {k : Nat} {x : Bool} (hx : l[k]? = some x) :
    ∃ b off, A = some ⟨b, off, none⟩ ∧ b < B ∧ w.cell? ⟨b, off + k, none⟩ = some (.bool x) := by
  have hl : (l.map Value.bool)[k]? = some (.bool x) := by simp [hx]
  have hne : l.map Value.bool ≠ [] := by
    intro e
    rw [e] at hl
    simp at hl
  obtain ⟨b, off, e, hlt, hc⟩ := h hne
  exact ⟨b, off, e, hlt, hc _ _ hl⟩

set_option maxRecDepth 100000 in
theorem fuses_long (a : Int) (A : Option Addr) (n c : Nat) (w : World) (hm : n ≤ maxLen) (h : 60 < n) : Calls Try.prog 4 #[.int .u8 a, .slice A n c] w fun e w' => e = .returned (.bool true) ∧ Below w.heap.size w w' := by
  unfold maxLen at hm
  go_enter Try.func4, Try.ntmps4
  go_wp2_with (fail)
  (with_reducible refine (awake_any w).mono ?_)
  rintro e w1 ⟨rfl, hb⟩
  have HB1 := Lib.hid hb
  clear hb
  go_wp2_with (fail)
  (with_reducible refine (awake_any w1).mono ?_)
  rintro e w2 ⟨rfl, hb⟩
  have HB2 : Hid (Below w.heap.size w w2) := HB1.out.trans (hb.mono HB1.out.size)
  clear hb
  go_wp2
  go_ret
  exact ⟨rfl, HB2.out⟩

set_option maxRecDepth 100000 in
set_option maxHeartbeats 8000000 in
theorem fuses_main (a : Int) (ha : 0 ≤ a ∧ a < 256) (A : Option Addr) (n c : Nat) (l : List Bool) (w : World) (hA : Rd w w.heap.size A (l.map Value.bool)) (hn : l.length = n) (hnc : n ≤ c) (hcm : c ≤ maxLen) (h60 : n ≤ 60) :
    Calls Try.prog 4 #[.int .u8 a, .slice A n c] w fun e w' => e = .returned (.bool true) ∧ Below w.heap.size w w' := by
  unfold maxLen at hcm
  have g1 := ne_nil
  have g2 := ne_err
  have g3 := eq_nil
  obtain ⟨F, hF0⟩ : ∃ F : Nat, a % 40 = F := ⟨(a % 40).toNat, by omega⟩
  have hF1 : a.tmod 40 = F := by rw [Int.tmod_eq_emod_of_nonneg ha.1]; exact hF0
  have hF2 : F < 40 := by omega
  have HA := Lib.hid hA
  have HN := Lib.hid hn
  have HE20 : Hid (errV 20 = .iface 40 (.int .i64 20)) := errV_ne (by omega)
  have HE10 : Hid (errV 10 = .iface 40 (.int .i64 10)) := errV_ne (by omega)
  have HB255 : Hid (Bytes (List.replicate 64 255)) := bytes_rep 64 255 (by omega)
  clear hA hn
  go_enter Try.func4, Try.ntmps4
  go_wp2_with (fail)
  (with_reducible refine (awake_any w).mono ?_)
  rintro e w1 ⟨rfl, hb⟩
  have HB1 := Lib.hid hb
  clear hb
  go_wp2_with (fail)
  (with_reducible refine (new_okI 2 16 2 16 rfl rfl w1 (by omega) (by omega) (by omega) (by omega)).mono ?_)
  rintro e w2 ⟨L0, rfl, hF⟩
  have HF0 := Lib.hid hF
  clear hF
  have HR0 : Hid (Rd w2 w2.heap.size none (kcells .u8 [])) := fun hx => absurd rfl hx
  have HN0 : Hid (Bytes []) := fun x hx => by simp at hx
  go_wp2_with (fail)
  (with_reducible refine (fuse_any HF0.out F (by omega) (by omega) none 0 0 [] HR0.out rfl (by omega) HN0.out).mono ?_)
  rintro e w3 ⟨rfl, ⟨Ap, cp, hF⟩, _⟩
  have HF1 := Lib.hid hF
  have HU1 := Lib.hid (fu_new F)
  clear hF
  obtain ⟨L, hL⟩ : ∃ L : Lc, { L0 with Ap := Ap, cp := cp } = L := ⟨_, rfl⟩
  rw [hL] at HF1
  have hLd : L0.d = L.d := by rw [← hL]
  rw [hLd]
  clear hL hLd HF0
  generalize fuseF (newF 2 16) F [] = f1 at *
  go_wp2
  go_loopw [8, 33] (fun d i wr => ∃ k : Nat, k ≤ n ∧ d = .int .i64 k ∧ i = .int .i64 k ∧ ∃ f, FU f F k ∧ FlAt w1 wr L f) (fun _ i _ => n - (intOf i).toNat)
  case atStart => exact ⟨0, by omega, rfl, rfl, f1, HU1.out, HF1.out⟩
  case round =>
    obtain ⟨k, hk, rfl, rfl, f, hU, hF⟩ := hrel
    have HU := Lib.hid hU
    have HF := Lib.hid hF
    have HBw : Hid (Below w.heap.size w wr) := HB1.out.trans (hF.below.mono HB1.out.size)
    clear hU hF
    by_cases hlt : k < n
    · obtain ⟨b, hb⟩ := getElem?_of_lt (l := l) (k := k) (by rw [HN.out]; exact hlt)
      obtain ⟨bb, off, rfl, hbl, c0⟩ := rd_bool (HA.out.below HBw.out (Nat.le_refl _)) hb
      have hkm : (k : Int) % 16 = ((k % 16 : Nat) : Int) := by push_cast; rfl
      have hkt : (k : Int).tmod 16 = ((k % 16 : Nat) : Int) := by rw [Int.tmod_eq_emod_of_nonneg (by omega)]; exact hkm
      have HP := Lib.hid (fu_prog HU.out (k % 16) (Nat.mod_lt _ (by omega)))
      have HX := Lib.hid (fu_erase HU.out 1 (by omega))
      have HY := Lib.hid (fu_bad HU.out)
      clear hb
      generalize k % 16 = q at *
      rcases Nat.lt_trichotomy F k with hc3 | hc3 | hc3
      · have HY1 : Hid (eraseF f 2 = (f, 20)) := by rw [Hid, HY.out.1]; simp; omega
        have HY2 : Hid (progF f (-1) [] = (f, 20)) := by rw [Hid, HY.out.2]; simp; omega
        have HPC : Hid ((progF f (q : Int) (List.replicate 64 255)).2 = 20) := by rw [Hid, HP.out.1]; unfold fuC; simp; omega
        have HXC : Hid ((eraseF f ((1 : Nat) : Int)).2 = 20) := by rw [Hid, HX.out.1]; unfold fuC; simp; omega
        have HD := Lib.hid (HU.out.dn hc3)
        cases b with
        | true =>
          go_wp2_with (fail)
          (with_reducible refine (erase_any HF.out 2).mono ?_)
          rintro e w4 ⟨rfl, hF, _⟩
          rw [HY1.out] at hF ⊢
          have HF4 : Hid (FlAt w1 w4 L f) := hF
          clear hF
          simp only
          rw [HE20.out]
          go_wp2_with (fail)
          (with_reducible refine (is_err 20 10 _).mono ?_)
          rintro e w4' ⟨rfl, rfl⟩
          go_wp2_with (fail)
          (with_reducible refine (down_any HF4.out).mono ?_)
          rintro e w4' ⟨rfl, rfl⟩
          rw [HD.out]
          go_wp2_with (fail)
          (with_reducible refine (program_any HF4.out (-1) none 0 0 [] (apart_nil L w4) rfl (by omega) (by decide) HN0.out).mono ?_)
          rintro e w5 ⟨rfl, hF, _⟩
          rw [HY2.out] at hF ⊢
          have HF5 : Hid (FlAt w1 w5 L f) := hF
          clear hF
          simp only
          rw [HE20.out]
          go_wp2_with (fail)
          (with_reducible refine (is_err 20 10 _).mono ?_)
          rintro e w5' ⟨rfl, rfl⟩
          go_wp2_with (fail)
          (with_reducible refine (down_any HF5.out).mono ?_)
          rintro e w5' ⟨rfl, rfl⟩
          rw [HD.out]
          go_wp2_with (fail)
          (with_reducible refine (fill_any 255 (by omega) w5).mono ?_)
          rintro e w5b ⟨A5, rfl, ho, hb⟩
          have HF5b := Lib.hid (HF5.out.later hb)
          have HAP := Lib.hid (apart_own HF5.out (by rw [kcells_length, List.length_replicate]) ho)
          clear ho hb
          go_wp2_with (fail)
          (with_reducible refine (program_any HF5b.out q A5 64 64 (List.replicate 64 255) HAP.out (by rw [List.length_replicate]) (by omega) (by decide) HB255.out).mono ?_)
          rintro e w6 ⟨rfl, hF, _⟩
          have HF6 := Lib.hid hF
          have HU6 := Lib.hid HP.out.2
          clear hF HAP
          rw [HPC.out, HE20.out]
          generalize (progF f (q : Int) (List.replicate 64 255)).1 = f6 at *
          go_wp2_with (fail)
          (with_reducible refine (is_err 20 20 _).mono ?_)
          rintro e w6' ⟨rfl, rfl⟩
          go_wp2_with (fail)
          (with_reducible refine (down_any HF6.out).mono ?_)
          rintro e w6' ⟨rfl, rfl⟩
          rw [HU6.out.dn (by omega)]
          go_wp2
          go_roundw
          case rel => exact ⟨k + 1, by omega, by go_num, by go_num, _, HU6.out, HF6.out⟩
          case measure => simp [intOf]; omega
        | false =>
          go_wp2_with (fail)
          (with_reducible refine (erase_any HF.out 2).mono ?_)
          rintro e w4 ⟨rfl, hF, _⟩
          rw [HY1.out] at hF ⊢
          have HF4 : Hid (FlAt w1 w4 L f) := hF
          clear hF
          simp only
          rw [HE20.out]
          go_wp2_with (fail)
          (with_reducible refine (is_err 20 10 _).mono ?_)
          rintro e w4' ⟨rfl, rfl⟩
          go_wp2_with (fail)
          (with_reducible refine (down_any HF4.out).mono ?_)
          rintro e w4' ⟨rfl, rfl⟩
          rw [HD.out]
          go_wp2_with (fail)
          (with_reducible refine (program_any HF4.out (-1) none 0 0 [] (apart_nil L w4) rfl (by omega) (by decide) HN0.out).mono ?_)
          rintro e w5 ⟨rfl, hF, _⟩
          rw [HY2.out] at hF ⊢
          have HF5 : Hid (FlAt w1 w5 L f) := hF
          clear hF
          simp only
          rw [HE20.out]
          go_wp2_with (fail)
          (with_reducible refine (is_err 20 10 _).mono ?_)
          rintro e w5' ⟨rfl, rfl⟩
          go_wp2_with (fail)
          (with_reducible refine (down_any HF5.out).mono ?_)
          rintro e w5' ⟨rfl, rfl⟩
          rw [HD.out]
          go_wp2_with (fail)
          (with_reducible refine (erase_any HF5.out 1).mono ?_)
          rintro e w6 ⟨rfl, hF, _⟩
          have HF6 : Hid (FlAt w1 w6 L (eraseF f ((1 : Nat) : Int)).1) := hF
          have HU6 := Lib.hid HX.out.2
          clear hF
          rw [show (1 : Int) = ((1 : Nat) : Int) from rfl, HXC.out, HE20.out]
          generalize (eraseF f ((1 : Nat) : Int)).1 = f6 at *
          go_wp2_with (fail)
          (with_reducible refine (is_err 20 20 _).mono ?_)
          rintro e w6' ⟨rfl, rfl⟩
          go_wp2_with (fail)
          (with_reducible refine (down_any HF6.out).mono ?_)
          rintro e w6' ⟨rfl, rfl⟩
          rw [HU6.out.dn (by omega)]
          go_wp2
          go_roundw
          case rel => exact ⟨k + 1, by omega, by go_num, by go_num, _, HU6.out, HF6.out⟩
          case measure => simp [intOf]; omega
      · have HY1 : Hid (eraseF f 2 = (f, 10)) := by rw [Hid, HY.out.1]; simp; omega
        have HY2 : Hid (progF f (-1) [] = (f, 10)) := by rw [Hid, HY.out.2]; simp; omega
        have HPC : Hid ((progF f (q : Int) (List.replicate 64 255)).2 = 20) := by rw [Hid, HP.out.1]; unfold fuC; simp; omega
        have HXC : Hid ((eraseF f ((1 : Nat) : Int)).2 = 20) := by rw [Hid, HX.out.1]; unfold fuC; simp; omega
        subst hc3
        have hke : ((F : Int) == (F : Int)) = true := by simp
        cases b with
        | true =>
          go_wp2_with (fail)
          (with_reducible refine (erase_any HF.out 2).mono ?_)
          rintro e w4 ⟨rfl, hF, _⟩
          rw [HY1.out] at hF ⊢
          have HF4 : Hid (FlAt w1 w4 L f) := hF
          clear hF
          simp only
          rw [HE10.out]
          go_wp2_with (fail)
          (with_reducible refine (is_err 10 10 _).mono ?_)
          rintro e w4' ⟨rfl, rfl⟩
          go_wp2_with (fail)
          (with_reducible refine (program_any HF4.out (-1) none 0 0 [] (apart_nil L w4) rfl (by omega) (by decide) HN0.out).mono ?_)
          rintro e w5 ⟨rfl, hF, _⟩
          rw [HY2.out] at hF ⊢
          have HF5 : Hid (FlAt w1 w5 L f) := hF
          clear hF
          simp only
          rw [HE10.out]
          go_wp2_with (fail)
          (with_reducible refine (is_err 10 10 _).mono ?_)
          rintro e w5' ⟨rfl, rfl⟩
          go_wp2_with (fail)
          (with_reducible refine (fill_any 255 (by omega) w5).mono ?_)
          rintro e w5b ⟨A5, rfl, ho, hb⟩
          have HF5b := Lib.hid (HF5.out.later hb)
          have HAP := Lib.hid (apart_own HF5.out (by rw [kcells_length, List.length_replicate]) ho)
          clear ho hb
          go_wp2_with (fail)
          (with_reducible refine (program_any HF5b.out q A5 64 64 (List.replicate 64 255) HAP.out (by rw [List.length_replicate]) (by omega) (by decide) HB255.out).mono ?_)
          rintro e w6 ⟨rfl, hF, _⟩
          have HF6 := Lib.hid hF
          have HU6 := Lib.hid HP.out.2
          clear hF HAP
          rw [HPC.out, HE20.out]
          generalize (progF f (q : Int) (List.replicate 64 255)).1 = f6 at *
          go_wp2_with (fail)
          (with_reducible refine (is_err 20 20 _).mono ?_)
          rintro e w6' ⟨rfl, rfl⟩
          go_wp2_with (fail)
          (with_reducible refine (down_any HF6.out).mono ?_)
          rintro e w6' ⟨rfl, rfl⟩
          rw [HU6.out.dn (by omega)]
          go_wp2
          go_roundw
          case rel => exact ⟨F + 1, by omega, by go_num, by go_num, _, HU6.out, HF6.out⟩
          case measure => simp [intOf]; omega
        | false =>
          go_wp2_with (fail)
          (with_reducible refine (erase_any HF.out 2).mono ?_)
          rintro e w4 ⟨rfl, hF, _⟩
          rw [HY1.out] at hF ⊢
          have HF4 : Hid (FlAt w1 w4 L f) := hF
          clear hF
          simp only
          rw [HE10.out]
          go_wp2_with (fail)
          (with_reducible refine (is_err 10 10 _).mono ?_)
          rintro e w4' ⟨rfl, rfl⟩
          go_wp2_with (fail)
          (with_reducible refine (program_any HF4.out (-1) none 0 0 [] (apart_nil L w4) rfl (by omega) (by decide) HN0.out).mono ?_)
          rintro e w5 ⟨rfl, hF, _⟩
          rw [HY2.out] at hF ⊢
          have HF5 : Hid (FlAt w1 w5 L f) := hF
          clear hF
          simp only
          rw [HE10.out]
          go_wp2_with (fail)
          (with_reducible refine (is_err 10 10 _).mono ?_)
          rintro e w5' ⟨rfl, rfl⟩
          go_wp2_with (fail)
          (with_reducible refine (erase_any HF5.out 1).mono ?_)
          rintro e w6 ⟨rfl, hF, _⟩
          have HF6 : Hid (FlAt w1 w6 L (eraseF f ((1 : Nat) : Int)).1) := hF
          have HU6 := Lib.hid HX.out.2
          clear hF
          rw [show (1 : Int) = ((1 : Nat) : Int) from rfl, HXC.out, HE20.out]
          generalize (eraseF f ((1 : Nat) : Int)).1 = f6 at *
          go_wp2_with (fail)
          (with_reducible refine (is_err 20 20 _).mono ?_)
          rintro e w6' ⟨rfl, rfl⟩
          go_wp2_with (fail)
          (with_reducible refine (down_any HF6.out).mono ?_)
          rintro e w6' ⟨rfl, rfl⟩
          rw [HU6.out.dn (by omega)]
          go_wp2
          go_roundw
          case rel => exact ⟨F + 1, by omega, by go_num, by go_num, _, HU6.out, HF6.out⟩
          case measure => simp [intOf]; omega
      · have HY1 : Hid (eraseF f 2 = (f, 10)) := by rw [Hid, HY.out.1]; simp; omega
        have HY2 : Hid (progF f (-1) [] = (f, 10)) := by rw [Hid, HY.out.2]; simp; omega
        have HPC : Hid ((progF f (q : Int) (List.replicate 64 255)).2 = 0) := by rw [Hid, HP.out.1]; unfold fuC; simp; omega
        have HXC : Hid ((eraseF f ((1 : Nat) : Int)).2 = 0) := by rw [Hid, HX.out.1]; unfold fuC; simp; omega
        have hke : ((k : Int) == (F : Int)) = false := by simp; omega
        cases b with
        | true =>
          go_wp2_with (fail)
          (with_reducible refine (erase_any HF.out 2).mono ?_)
          rintro e w4 ⟨rfl, hF, _⟩
          rw [HY1.out] at hF ⊢
          have HF4 : Hid (FlAt w1 w4 L f) := hF
          clear hF
          simp only
          rw [HE10.out]
          go_wp2_with (fail)
          (with_reducible refine (is_err 10 10 _).mono ?_)
          rintro e w4' ⟨rfl, rfl⟩
          go_wp2_with (fail)
          (with_reducible refine (program_any HF4.out (-1) none 0 0 [] (apart_nil L w4) rfl (by omega) (by decide) HN0.out).mono ?_)
          rintro e w5 ⟨rfl, hF, _⟩
          rw [HY2.out] at hF ⊢
          have HF5 : Hid (FlAt w1 w5 L f) := hF
          clear hF
          simp only
          rw [HE10.out]
          go_wp2_with (fail)
          (with_reducible refine (is_err 10 10 _).mono ?_)
          rintro e w5' ⟨rfl, rfl⟩
          go_wp2_with (fail)
          (with_reducible refine (fill_any 255 (by omega) w5).mono ?_)
          rintro e w5b ⟨A5, rfl, ho, hb⟩
          have HF5b := Lib.hid (HF5.out.later hb)
          have HAP := Lib.hid (apart_own HF5.out (by rw [kcells_length, List.length_replicate]) ho)
          clear ho hb
          go_wp2_with (fail)
          (with_reducible refine (program_any HF5b.out q A5 64 64 (List.replicate 64 255) HAP.out (by rw [List.length_replicate]) (by omega) (by decide) HB255.out).mono ?_)
          rintro e w6 ⟨rfl, hF, _⟩
          have HF6 := Lib.hid hF
          have HU6 := Lib.hid HP.out.2
          clear hF HAP
          rw [HPC.out, errV_zero]
          generalize (progF f (q : Int) (List.replicate 64 255)).1 = f6 at *
          go_wp2_with (fail)
          (with_reducible refine (down_any HF6.out).mono ?_)
          rintro e w6' ⟨rfl, rfl⟩
          rw [(HU6.out.up (by omega)).1]
          go_wp2
          go_roundw
          case rel => exact ⟨k + 1, by omega, by go_num, by go_num, _, HU6.out, HF6.out⟩
          case measure => simp [intOf]; omega
        | false =>
          go_wp2_with (fail)
          (with_reducible refine (erase_any HF.out 2).mono ?_)
          rintro e w4 ⟨rfl, hF, _⟩
          rw [HY1.out] at hF ⊢
          have HF4 : Hid (FlAt w1 w4 L f) := hF
          clear hF
          simp only
          rw [HE10.out]
          go_wp2_with (fail)
          (with_reducible refine (is_err 10 10 _).mono ?_)
          rintro e w4' ⟨rfl, rfl⟩
          go_wp2_with (fail)
          (with_reducible refine (program_any HF4.out (-1) none 0 0 [] (apart_nil L w4) rfl (by omega) (by decide) HN0.out).mono ?_)
          rintro e w5 ⟨rfl, hF, _⟩
          rw [HY2.out] at hF ⊢
          have HF5 : Hid (FlAt w1 w5 L f) := hF
          clear hF
          simp only
          rw [HE10.out]
          go_wp2_with (fail)
          (with_reducible refine (is_err 10 10 _).mono ?_)
          rintro e w5' ⟨rfl, rfl⟩
          go_wp2_with (fail)
          (with_reducible refine (erase_any HF5.out 1).mono ?_)
          rintro e w6 ⟨rfl, hF, _⟩
          have HF6 : Hid (FlAt w1 w6 L (eraseF f ((1 : Nat) : Int)).1) := hF
          have HU6 := Lib.hid HX.out.2
          clear hF
          rw [show (1 : Int) = ((1 : Nat) : Int) from rfl, HXC.out, errV_zero]
          generalize (eraseF f ((1 : Nat) : Int)).1 = f6 at *
          go_wp2_with (fail)
          (with_reducible refine (down_any HF6.out).mono ?_)
          rintro e w6' ⟨rfl, rfl⟩
          rw [(HU6.out.up (by omega)).1]
          go_wp2
          go_roundw
          case rel => exact ⟨k + 1, by omega, by go_num, by go_num, _, HU6.out, HF6.out⟩
          case measure => simp [intOf]; omega
    · have hkn : k = n := by omega
      subst hkn
      clear hlt
      go_wp2_with (fail)
      (with_reducible refine (start_any HF.out).mono ?_)
      rintro e w4 ⟨rfl, ⟨Ap2, cp2, hF⟩, _⟩
      have HF4 := Lib.hid hF
      clear hF
      by_cases hle : k ≤ F
      · have HS := Lib.hid (fu_start_up HU.out hle)
        generalize startF f = g at *
        go_wp2_with (fail)
        (with_reducible refine (down_any HF4.out).mono ?_)
        rintro e w4' ⟨rfl, rfl⟩
        rw [HS.out]
        have HB4 : Hid (Below w.heap.size w w4) := HB1.out.trans (HF4.out.below.mono HB1.out.size)
        go_wp2
        go_ret
        exact ⟨rfl, HB4.out⟩
      · have HS := Lib.hid (fu_start HU.out (by omega))
        generalize startF f = g at *
        go_wp2_with (fail)
        (with_reducible refine (down_any HF4.out).mono ?_)
        rintro e w4' ⟨rfl, rfl⟩
        rw [HS.out.1]
        go_wp2_with (fail)
        (with_reducible refine (erase_any HF4.out 0).mono ?_)
        rintro e w5 ⟨rfl, hF, _⟩
        have HF5 := Lib.hid hF
        clear hF
        rw [HS.out.2.1, errV_zero]
        go_wp2_with (fail)
        (with_reducible refine (erase_any HF5.out 0).mono ?_)
        rintro e w6 ⟨rfl, hF, _⟩
        rw [HS.out.2.2, errV_zero]
        have HB6 : Hid (Below w.heap.size w w6) := HB1.out.trans (hF.below.mono HB1.out.size)
        clear hF
        go_wp2
        go_ret
        exact ⟨rfl, HB6.out⟩
end Go.Proofs.Ytfeceamhlphelaa
