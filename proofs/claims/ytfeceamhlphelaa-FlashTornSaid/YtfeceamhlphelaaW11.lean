/-
  FlashTorn.
-/
import Derived.Test.YtfeceamhlphelaaW10
import Derived.Test.YtfeceamhlphelaaPlainT
namespace Go.Proofs.Ytfeceamhlphelaa
open Go.RowKit
set_option linter.unusedVariables false

set_option maxRecDepth 100000 in
theorem torn_long (a : Int) (A : Option Addr) (n c : Nat) (P : Option Addr) (m d : Nat) (w : World) (hn : n ≤ maxLen) (hm : m ≤ maxLen) (h : 1000 < n ∨ 1000 < m) : Calls Try.prog 6 #[.int .i64 a, .slice A n c, .slice P m d] w fun e w' => e = .returned (.bool true) ∧ Below w.heap.size w w' := by
  unfold maxLen at hn hm
  by_cases h1 : 1000 < n
  · clear h
    go_enter Try.func6, Try.ntmps6
    go_wp2_with (fail)
    (with_reducible refine (awake_any w).mono ?_)
    rintro e w1 ⟨rfl, hb⟩
    have HB1 := Lib.hid hb
    clear hb
    go_wp2_with (fail)
    (with_reducible refine (awake_any w1).mono ?_)
    rintro e w2 ⟨rfl, hb⟩
    have HB2 : Hid (Below w.heap.size w w2) := HB1.out.trans (hb.mono HB1.out.size)
    clear hb
    go_wp2
    go_ret
    exact ⟨rfl, HB2.out⟩
  · have h2 : 1000 < m := by omega
    clear h
    go_enter Try.func6, Try.ntmps6
    go_wp2_with (fail)
    (with_reducible refine (awake_any w).mono ?_)
    rintro e w1 ⟨rfl, hb⟩
    have HB1 := Lib.hid hb
    clear hb
    go_wp2_with (fail)
    (with_reducible refine (awake_any w1).mono ?_)
    rintro e w2 ⟨rfl, hb⟩
    have HB2 : Hid (Below w.heap.size w w2) := HB1.out.trans (hb.mono HB1.out.size)
    clear hb
    go_wp2
    go_ret
    exact ⟨rfl, HB2.out⟩

set_option maxRecDepth 100000 in
set_option maxHeartbeats 8000000 in
theorem torn_main (a : Int) (A : Option Addr) (n c : Nat) (b : List Int) (P : Option Addr) (m d : Nat) (p : List Int) (w : World)
    (hA : Rd w w.heap.size A (kcells .u8 b)) (hn : b.length = n) (hnc : n ≤ c) (hcm : c ≤ maxLen) (hb : Bytes b)
    (hP : Rd w w.heap.size P (kcells .u8 p)) (hm : p.length = m) (hmd : m ≤ d) (hdm : d ≤ maxLen) (hp : Bytes p) (h1 : n ≤ 1000) (h2 : m ≤ 1000) :
    Calls Try.prog 6 #[.int .i64 a, .slice A n c, .slice P m d] w fun e w' => e = .returned (.bool true) ∧ Below w.heap.size w w' := by
  have g1 := ne_nil
  have g2 := ne_err
  have g3 := eq_nil
  obtain ⟨K, hK⟩ : ∃ K : Nat, clipI a 0 3 = K := ⟨(clipI a 0 3).toNat, by unfold clipI; omega⟩
  have hK4 : K < 4 := by unfold clipI at hK; omega
  obtain ⟨h, hh⟩ : ∃ h, K / 2 = h := ⟨_, rfl⟩
  have hh2 : h < 2 := by omega
  have q1 : (K : Int) / 2 = (h : Int) := by rw [← hh]; push_cast; rfl
  have q2 : (K : Int).tdiv 2 = (h : Int) := by rw [Int.tdiv_eq_ediv_of_nonneg (by omega)]; exact q1
  have HA := Lib.hid hA
  have HN := Lib.hid hn
  have HBB := Lib.hid hb
  have HP := Lib.hid hP
  have HM := Lib.hid hm
  have HPB := Lib.hid hp
  have HE20 : Hid (errV 20 = .iface 40 (.int .i64 20)) := errV_ne (by omega)
  obtain ⟨x, hx⟩ : ∃ x, pageO 0 b = x := ⟨_, rfl⟩
  have hxl : x.length = 64 := by rw [← hx]; unfold pageO; rw [if_neg (by omega)]; simp
  have HXL := Lib.hid hxl
  have HXB : Hid (Bytes x) := by rw [← hx]; exact pageO_bytes hb
  have HX := Lib.hid hx
  have HK := Lib.hid hK
  have HT := Lib.hid (torn_prog x p hxl K hK4)
  have HRD := Lib.hid (torn_read (p := p) hxl hK4)
  have HIL := Lib.hid (tornI_length (p := p) hxl hK4)
  have HIB : Hid (Bytes (tornI K x p)) := tornI_bytes HXB.out hp
  have HER := Lib.hid (torn_erase HIL.out HIB.out hp h hh2)
  clear hA hn hb hP hm hp hx hxl hK hh
  go_enter Try.func6, Try.ntmps6
  go_wp2_with (fail)
  (with_reducible refine (awake_any w).mono ?_)
  rintro e w1 ⟨rfl, hb⟩
  have HB1 := Lib.hid hb
  clear hb
  go_wp2_with (fail)
  (with_reducible refine (new_okI 2 2 2 2 rfl rfl w1 (by omega) (by omega) (by omega) (by omega)).mono ?_)
  rintro e w2 ⟨L, rfl, hF⟩
  have HF2 := Lib.hid hF
  have HBw2 : Hid (Below w.heap.size w w2) := HB1.out.trans (hF.below.mono HB1.out.size)
  clear hF
  go_wp2_with (fail)
  (with_reducible refine (clip_any a 0 3 w2).mono ?_)
  rintro e w2' ⟨rfl, rfl⟩
  rw [HK.out]
  go_wp2_with (fail)
  (with_reducible refine (page_any 0 0 0 A n c b none 0 0 w2.heap.size w2 ((HA.out.below HBw2.out (Nat.le_refl _)).more HBw2.out.size) (Nat.le_refl _) HN.out hnc hcm HBB.out).mono ?_)
  rintro e w3 ⟨X, m', c', rfl, hm', hmc, hcx, hb3, hor⟩
  rw [HX.out] at hm' hor
  have hm64 : m' = 64 := by rw [← hm']; exact HXL.out
  subst hm64
  have ho := hor.resolve_left (fun h => by omega)
  have HAP3 := Lib.hid (apart_own HF2.out (by rw [kcells_length]; exact HXL.out) ho)
  have HF3 := Lib.hid (HF2.out.later hb3)
  have HBw3 : Hid (Below w.heap.size w w3) := HB1.out.trans (HF3.out.below.mono HB1.out.size)
  clear hm' hor ho hb3
  go_wp2_with (fail)
  (with_reducible refine (fuse_any HF3.out 0 (by omega) (by omega) P m d p ((HP.out.below HBw3.out (Nat.le_refl _)).more HBw3.out.size) HM.out (by omega) HPB.out).mono ?_)
  rintro e w4 ⟨rfl, ⟨Ap, cp, hF⟩, hO⟩
  have HF4 := Lib.hid hF
  have HAP4 : Hid (Apart { L with Ap := Ap, cp := cp } w4 X (kcells .u8 x)) := (HAP3.out.only hO).same rfl rfl rfl
  clear hF hO HAP3 HF3
  go_wp2_with (fail)
  (with_reducible refine (program_any HF4.out K X 64 c' x HAP4.out HXL.out hmc hcx HXB.out).mono ?_)
  rintro e w5 ⟨rfl, hF, hO⟩
  have HF5 := Lib.hid hF
  have HAP5 := Lib.hid (HAP4.out.only hO)
  rw [HT.out.1, HE20.out]
  clear hF hO HAP4
  go_wp2_with (fail)
  (with_reducible refine (is_err 20 20 _).mono ?_)
  rintro e w5' ⟨rfl, rfl⟩
  go_wp2_with (fail)
  (with_reducible refine (start_any HF5.out).mono ?_)
  rintro e w6 ⟨rfl, ⟨Ap2, cp2, hF⟩, hO⟩
  have HF6 := Lib.hid hF
  rw [HT.out.2] at HF6
  have HAP6 : Hid (Apart { L with Ap := Ap2, cp := cp2 } w6 X (kcells .u8 x)) := (HAP5.out.only hO).same rfl rfl rfl
  clear hF hO HAP5
  go_wp2_with (fail)
  (with_reducible refine (read_any HF6.out K).mono ?_)
  rintro e w7 ⟨v', rfl, ho, hb7⟩
  rw [HRD.out] at ho ⊢
  simp only [torn_length] at ho ⊢
  rw [HXL.out] at ho
  obtain ⟨G, cg, rfl, hcg1, hcg2, hrg⟩ := own_read ho
  have HRG := Lib.hid hrg
  have HRX : Hid (Rd w7 w7.heap.size X (kcells .u8 x)) := (HAP6.out.rd.below hb7 (Nat.le_refl _)).more hb7.size
  have HF7 := Lib.hid (HF6.out.later hb7)
  have HBw7 : Hid (Below w.heap.size w w7) := HB1.out.trans (HF7.out.below.mono HB1.out.size)
  have HRP : Hid (Rd w7 w7.heap.size P (kcells .u8 p)) := (HP.out.below HBw7.out (Nat.le_refl _)).more HBw7.out.size
  clear ho hrg hb7 HAP6
  unfold maxLen at hcg2 hcx hdm hcm
  simp only [errV_zero]
  go_wp2
  go_loopw [69] (fun i wr => ∃ j : Nat, j ≤ 64 ∧ i = .int .i64 j ∧ Below w7.heap.size w7 wr) (fun i _ => 64 - (intOf i).toNat)
  case atStart => exact ⟨0, by omega, rfl, Below.refl _ _⟩
  case round =>
    obtain ⟨j, hj, rfl, hBr⟩ := hrel
    have HBr := Lib.hid hBr
    clear hBr
    by_cases hlt : j < 64
    · obtain ⟨y, hy⟩ := getElem?_of_lt (l := x) (k := j) (by rw [HXL.out]; exact hlt)
      obtain ⟨bx, ox, rfl, _, c0⟩ := (HRX.out.below HBr.out (Nat.le_refl _)).kint hy
      have hz : (torn x p)[j]? = some (orB y (pickF p j)) := by rw [torn_get, hy]; rfl
      obtain ⟨bg, og, rfl, _, c1⟩ := (HRG.out.below HBr.out (Nat.le_refl _)).kint hz
      by_cases hjm : j < m
      · obtain ⟨z, hz2⟩ := getElem?_of_lt (l := p) (k := j) (by rw [HM.out]; exact hjm)
        obtain ⟨bp, op, rfl, _, c2⟩ := (HRP.out.below HBr.out (Nat.le_refl _)).kint hz2
        rw [pickF_some hz2] at c1
        unfold orB at c1
        have e0 : (bits .or .u8 y z != bits .or .u8 y z) = false := by simp
        clear hy hz hz2
        go_wp2
        go_quiet (fail)
        go_wp2
        go_roundw
        case rel => exact ⟨j + 1, by omega, by go_num, Below.drewN HBr.out _⟩
        case measure => simp [intOf]; omega
      · rw [pickF_none (by rw [HM.out]; omega)] at c1
        unfold orB at c1
        have e0 : (bits .or .u8 y 0 != bits .or .u8 y 0) = false := by simp
        clear hy hz
        go_wp2
        go_quiet (fail)
        go_wp2
        go_roundw
        case rel => exact ⟨j + 1, by omega, by go_num, Below.drewN HBr.out _⟩
        case measure => simp [intOf]; omega
    · have hj64 : j = 64 := by omega
      subst hj64
      have HF8 := Lib.hid (HF7.out.later HBr.out)
      clear hlt
      go_wp2_with (fail)
      (with_reducible refine (image_any HF8.out).mono ?_)
      rintro e w8 ⟨v8, rfl, ho, hb8⟩
      simp only [HIL.out] at ho
      obtain ⟨B0, cb, rfl, hcb1, hcb2, hrb⟩ := own_read ho
      have HAPB := Lib.hid (apart_own HF8.out (by rw [kcells_length]; exact HIL.out) ho)
      have HF9 := Lib.hid (HF8.out.later hb8)
      have HBw9 : Hid (Below w.heap.size w w8) := HB1.out.trans (HF9.out.below.mono HB1.out.size)
      clear ho hrb hb8
      go_wp2_with (fail)
      (with_reducible refine (fuse_any HF9.out 0 (by omega) (by omega) P m d p ((HP.out.below HBw9.out (Nat.le_refl _)).more HBw9.out.size) HM.out (by omega) HPB.out).mono ?_)
      rintro e w10 ⟨rfl, ⟨Ap3, cp3, hF⟩, hO⟩
      have HF10 := Lib.hid hF
      have HAPB10 : Hid (Apart { L with Ap := Ap3, cp := cp3 } w10 B0 (kcells .u8 (tornI K x p))) := (HAPB.out.only hO).same rfl rfl rfl
      clear hF hO HAPB HF9
      go_wp2_with (fail)
      (with_reducible refine (erase_any HF10.out h).mono ?_)
      rintro e w11 ⟨rfl, hF, hO⟩
      have HF11 := Lib.hid hF
      have HAPB11 := Lib.hid (HAPB10.out.only hO)
      rw [HER.out.1, HE20.out]
      clear hF hO HAPB10
      go_wp2_with (fail)
      (with_reducible refine (is_err 20 20 _).mono ?_)
      rintro e w11' ⟨rfl, rfl⟩
      go_wp2_with (fail)
      (with_reducible refine (image_any HF11.out).mono ?_)
      rintro e w12 ⟨v12, rfl, ho, hb12⟩
      obtain ⟨IA, hIA⟩ : ∃ I, (eraseF (fuseF ⟨2, tornI K x p, [0, 0], false, -1, []⟩ 0 p) h).1.img = I := ⟨_, rfl⟩
      have HE2 := Lib.hid HER.out.2
      have HF12 := Lib.hid (HF11.out.later hb12)
      have HBw12 : Hid (Below w.heap.size w w12) := HB1.out.trans (HF12.out.below.mono HB1.out.size)
      rw [hIA] at ho HE2
      rw [HE2.out.1] at ho
      obtain ⟨D0, cd, rfl, hcd1, hcd2, hrd⟩ := own_read ho
      have HRD0 := Lib.hid hrd
      have HRB0 : Hid (Rd w12 w12.heap.size B0 (kcells .u8 (tornI K x p))) := (HAPB11.out.rd.below hb12 (Nat.le_refl _)).more hb12.size
      have HRP2 : Hid (Rd w12 w12.heap.size P (kcells .u8 p)) := (HP.out.below HBw12.out (Nat.le_refl _)).more HBw12.out.size
      obtain ⟨IB, hIB⟩ : ∃ I, tornI K x p = I := ⟨_, rfl⟩
      rw [hIB] at HRB0 HIL
      have HE3 := HE2
      rw [hIB] at HE3
      clear ho hrd hb12 hIA HAPB11 HF12 HF11 HF10 HF8 HF7 HF6 HIB HT HRD HER HE2 hIB HRG HRX
      unfold maxLen at hcd2 hcb2
      go_wp2
      go_loopw [113] (fun i wr => ∃ j : Nat, j ≤ 256 ∧ i = .int .i64 j ∧ Below w12.heap.size w12 wr) (fun i _ => 256 - (intOf i).toNat)
      case atStart => exact ⟨0, by omega, rfl, Below.refl _ _⟩
      case round =>
        obtain ⟨j, hj, rfl, hBr2⟩ := hrel
        have HBr2 := Lib.hid hBr2
        clear hBr2
        by_cases hlt : j < 256
        · obtain ⟨y, hy⟩ := getElem?_of_lt (l := IB) (k := j) (by rw [HIL.out]; exact hlt)
          have hz := HE3.out.2 j y hy
          obtain ⟨bb, ob, rfl, _, c0⟩ := (HRB0.out.below HBr2.out (Nat.le_refl _)).kint hy
          obtain ⟨bd, od, rfl, _, c1⟩ := (HRD0.out.below HBr2.out (Nat.le_refl _)).kint hz
          by_cases hlo : 128 * h ≤ j
          · obtain ⟨t, ht⟩ : ∃ t, j = 128 * h + t := ⟨j - 128 * h, by omega⟩
            have r1 : (j : Int) - 128 * (h : Int) = (t : Int) := by omega
            by_cases hin : t < m ∧ t < 128
            · obtain ⟨z, hz2⟩ := getElem?_of_lt (l := p) (k := t) (by rw [HM.out]; exact hin.1)
              obtain ⟨bp, op, rfl, _, c2⟩ := (HRP2.out.below HBr2.out (Nat.le_refl _)).kint hz2
              rw [if_pos (by omega), show j - 128 * h = t by omega, pickF_some hz2] at c1
              unfold orB at c1
              have e0 : (bits .or .u8 y z != bits .or .u8 y z) = false := by simp
              have r2 : (t : Int) < min (m : Int) 128 := by omega
              obtain ⟨hin1, hin2⟩ := hin
              clear hy hz hz2 ht
              go_wp2
              go_quiet (fail)
              go_wp2
              go_roundw
              case rel => exact ⟨j + 1, by omega, by go_num, Below.drewN HBr2.out _⟩
              case measure => simp [intOf]; omega
            · have hzz : (if 128 * h ≤ j ∧ j < 128 * h + 128 then pickF p (j - 128 * h) else 0) = 0 := by
                split
                · exact pickF_none (by rw [HM.out]; omega)
                · rfl
              rw [hzz] at c1
              unfold orB at c1
              have e0 : (bits .or .u8 y 0 != bits .or .u8 y 0) = false := by simp
              have r2 : min (m : Int) 128 ≤ (t : Int) := by omega
              clear hy hz hzz hin ht
              go_wp2
              go_quiet (fail)
              go_wp2
              go_roundw
              case rel => exact ⟨j + 1, by omega, by go_num, Below.drewN HBr2.out _⟩
              case measure => simp [intOf]; omega
          · rw [if_neg (by omega)] at c1
            unfold orB at c1
            have e0 : (bits .or .u8 y 0 != bits .or .u8 y 0) = false := by simp
            have r2 : (j : Int) - 128 * (h : Int) < 0 := by omega
            clear hy hz
            go_wp2
            go_quiet (fail)
            go_wp2
            go_roundw
            case rel => exact ⟨j + 1, by omega, by go_num, Below.drewN HBr2.out _⟩
            case measure => simp [intOf]; omega
        · have HBe : Hid (Below w.heap.size w wr) := HBw12.out.trans (HBr2.out.mono HBw12.out.size)
          go_wp2
          go_ret
          exact ⟨rfl, HBe.out⟩
end Go.Proofs.Ytfeceamhlphelaa
