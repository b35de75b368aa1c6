/-
  The walk of the statement about what is refused.
-/
import Derived.Test.YtjdknddnanopaaaG5
namespace Go.Proofs.Ytjdknddnanopaaa
open Go.RowKit
set_option linter.unusedVariables false
set_option linter.unusedSimpArgs false

/-- What is refused behind Format, and behind Boot. -/
structure FormsP (G : Fl) (B B1 : Bk) : Prop where
  rn : runB B = (2, 0)
  bg : beginB B G 1 1 = (B, 12)
  cf0 : confirmB B G = (B, 12)
  bt : bootB B G = (B1, G, 0, 0)
  bt2 : bootB B1 G = (B1, G, 0, 12)
  st : stepB B1 G = (B1, G, true, 0)
  fd : feedB B1 G [] = (B1, 12)
  fn : finishB B1 G 0 = (B1, 12)
  ab : abortB B1 G = (B1, 12)
  cf1 : confirmB B1 G = (B1, 12)
  i1 : imageB B1 G 1 = (B1, [], 12)
  i2 : imageB B1 G 2 = (B1, [], 10)
  i3 : imageB B1 G (-1) = (B1, [], 10)
  o0 : BkOk G B
  o1 : BkOk G B1
  bu : B.st.busy = false
  sq : B.st.seq ≤ 1000000
  ul : B1.upload = false
  kk : B1.broken = false ∧ G.down = false ∧ B1.slot = 0 ∧ savB B1 0 = 0 ∧ savB B1 1 = 2 ∧ B1.erase = [] ∧ B1.data = none ∧ B1.record = false ∧ B1.st = B.st
theorem forms_pure {G : Fl} {k : Nat} {B : Bk} {v : Int} {img : List Int} (h : Planted G 0 k B v img) (h1 : 1 ≤ img.length) : FormsP G B { B with slot := 0 } := by
  have hsv : B.st.saved = [0, 2, 0, v, (img.length : Int), sumZ img, 0, 0, 0] := h.fr.sv.1
  have s0 : savB B 0 = 0 := by unfold savB; rw [hsv]; rfl
  have s1 : savB B 1 = 2 := by unfold savB; rw [hsv]; rfl
  have s7 : savB B 7 = 0 := by unfold savB; rw [hsv]; rfl
  have hd := h.up.dn
  obtain ⟨bs, hbs⟩ : ∃ s, B.st = s := ⟨_, rfl⟩
  have hn := h.nb
  rw [hbs] at hn
  have hbr : B.broken = false := by rw [hn]; rfl
  have hsl : B.slot = 2 := by rw [hn]; rfl
  have hul : B.upload = false := by rw [hn]; rfl
  have her : B.erase = [] := by rw [hn]; rfl
  have hda : B.data = none := by rw [hn]; rfl
  have hrc : B.record = false := by rw [hn]; rfl
  have r0 := rdyB_up hbr hd
  have r1 : rdyB { B with slot := 0 } G = { B with slot := 0 } := rdyB_up (b := { B with slot := 0 }) hbr hd
  have nb : ¬ B.broken = true := by rw [hbr]; decide
  refine ⟨?_, ?_, ?_, ?_, ?_, ?_, ?_, ?_, ?_, ?_, ?_, ?_, ?_, h.ok, h.ok.slot_any 0 (by omega), h.fr.bu, by have := h.sq; omega, hul, hbr, hd, rfl, s0, s1, her, hda, hrc, rfl⟩
  · unfold runB; rw [if_pos hsl]
  · unfold beginB; rw [r0, if_neg nb, if_pos (.inl hsl)]
  · unfold confirmB; rw [r0, if_neg nb, if_pos (.inl hsl)]
  · exact boot_plain hbr hd hsl (a := 0) s0 s1
  · unfold bootB; rw [r1, if_neg nb, if_pos (show (0 : Nat) ≠ 2 by decide)]
  · unfold stepB; rw [r1, if_neg nb]
    simp only [her, hda, hrc]
    rfl
  · unfold feedB; rw [r1, if_neg nb, if_pos (.inl hul)]
  · unfold finishB; rw [r1, if_neg nb, if_pos (.inl hul)]
  · unfold abortB; rw [r1, if_neg nb, if_pos hul]
  · unfold confirmB; rw [r1, if_neg nb, if_pos (.inr (by show savB B 1 ≠ ((0 : Nat) : Int); rw [s1]; decide))]
  · unfold imageB; rw [r1, if_neg nb, if_neg (by decide), if_pos (.inl s7)]
  · unfold imageB; rw [r1, if_neg nb, if_pos (by decide)]
  · unfold imageB; rw [r1, if_neg nb, if_pos (by decide)]

theorem feed_busy {G : Fl} {b : Bk} {x : List Int} (hb : b.broken = false) (hd : G.down = false) (hu : b.upload = true) (hf : b.fed ≠ b.length) (hw : workB b = true) : feedB b G x = (b, 14) := by
  unfold feedB
  rw [rdyB_up hb hd, if_neg (by rw [hb]; decide), if_neg (by
    rintro (e | e)
    · rw [hu] at e; cases e
    · exact hf e), if_pos hw]
theorem forms_begin {G : Fl} {b : Bk} (hb : b.broken = false) (hd : G.down = false) (hs : b.slot = 0) (h1 : savB b 1 = 2) (hu : b.upload = false) (he : b.erase = []) (hda : b.data = none) (hr : b.record = false) (hk : 1 ≤ b.k) (v n : Int) {Z : Nat} (hz : sizeF G b.blocks = Z) :
    ((1 ≤ v ∧ v ≤ 1073741824 ∧ 1 ≤ n ∧ n ≤ (Z : Int)) → ∃ b2, beginB b G v n = (b2, 0) ∧ feedB b2 G [] = (b2, 14)) ∧ (¬ (1 ≤ v ∧ v ≤ 1073741824 ∧ 1 ≤ n ∧ n ≤ (Z : Int)) → beginB b G v n = (b, 3)) := by
  have r0 := rdyB_up hb hd
  have nb : ¬ b.broken = true := by rw [hb]; decide
  have hst : ¬ (b.slot = 2 ∨ savB b 1 ≠ 2 ∨ b.upload = true) := by rw [hs, h1, hu]; simp
  have hw : ¬ workB b = true := by unfold workB; rw [he, hda, hr]; decide
  refine ⟨fun h => ?_, fun h => ?_⟩
  · refine ⟨_, by unfold beginB; rw [r0, if_neg nb, if_neg hst, if_neg hw, hz, if_neg (by omega)], ?_⟩
    refine feed_busy hb hd rfl ?_ ?_
    · show (0 : Nat) ≠ n.toNat
      omega
    · have : (List.range b.k).map (fun (i : Nat) => ((blkB b (1 - (savB b 0).toNat) + i : Nat) : Int)) ≠ [] := by
        intro e
        have := congrArg List.length e
        simp at this
        omega
      unfold workB
      simp only [Bool.or_eq_true, Bool.not_eq_true', List.isEmpty_eq_false_iff]
      exact .inl (.inl this)
  · unfold beginB; rw [r0, if_neg nb, if_neg hst, if_neg hw, hz, if_pos (by omega)]

set_option maxRecDepth 100000 in
set_option maxHeartbeats 16000000 in
theorem forms_any (b p s l v n : Int) (hn64 : I64 n) (w : World) : Calls Try.prog 6 #[.agg #[.int .i64 b, .int .i64 p, .int .i64 s, .int .i64 l], .int .i64 v, .int .i64 n] w fun e w' => e = .returned (.bool true) ∧ Below w.heap.size w w' := by
  have g1 := ne_nil
  have g2 := ne_err
  have g3 := eq_nil
  have g4 := eq_err
  obtain ⟨C, hC⟩ : ∃ C : Nat, clipI b 0 1 = C := ⟨(clipI b 0 1).toNat, by unfold clipI; omega⟩
  obtain ⟨P, hP⟩ : ∃ P : Nat, clipI p 2 4 = P := ⟨(clipI p 2 4).toNat, by unfold clipI; omega⟩
  obtain ⟨S, hS⟩ : ∃ S : Nat, clipI s 1 1073741824 = S := ⟨(clipI s 1 1073741824).toNat, by unfold clipI; omega⟩
  obtain ⟨B, hB⟩ : ∃ B, 4 + 2 * C = B := ⟨_, rfl⟩
  obtain ⟨k, hk⟩ : ∃ k, (B - 2) / 2 = k := ⟨_, rfl⟩
  have hC1 : C ≤ 1 := by unfold clipI at hC; omega
  have hP24 : 2 ≤ P ∧ P ≤ 4 := by unfold clipI at hP; omega
  have hS12 : 1 ≤ S ∧ S ≤ 1073741824 := by unfold clipI at hS; omega
  have hk12 : 1 ≤ k ∧ k ≤ 2 ∧ 2 * k + 2 = B := by omega
  have hkP : 1 ≤ k * P := Nat.mul_le_mul hk12.1 (show 1 ≤ P by omega)
  have hkP8 : k * P ≤ 8 := Nat.mul_le_mul hk12.2.1 hP24.2
  obtain ⟨N, hN⟩ : ∃ N : Nat, clipI l 1 (((B - 2) / 2 * P * 64 : Nat) : Int) = N := ⟨(clipI l 1 (((B - 2) / 2 * P * 64 : Nat) : Int)).toNat, by unfold clipI; omega⟩
  have hN12 : 1 ≤ N ∧ N ≤ k * P * 64 := by
    rw [hk] at hN
    unfold clipI at hN
    omega
  have HFT := Lib.hid (fit52_any b p s l C B P S N hC hB hP hS hN)
  have HPT := Lib.hid (fun W => plant_any k P hk12.1 hk12.2.1 hP24.1 hP24.2 S N hS12.1 hS12.2 hN12.1 hN12.2 W B hk12.2.2)
  have HIL : Hid (1 ≤ (contB S N).length) := by rw [Hid, contB_length]; exact hN12.1
  have HKB : Hid (2 * k + 2 = B) := hk12.2.2
  obtain ⟨V, hV⟩ : ∃ V, w.alloc (.cells #[.int .i64 b, .int .i64 p, .int .i64 s, .int .i64 l] 59) = V := ⟨_, rfl⟩
  have HBV : Hid (Below w.heap.size w V) := by rw [← hV]; exact (Below.refl _ _).alloc (Nat.le_refl _) _
  have HCV : Hid (four V w.heap.size (.int .i64 b) (.int .i64 p) (.int .i64 s) (.int .i64 l)) := by rw [← hV]; exact four_new _ _ _ _ _ _ _ rfl
  obtain ⟨M, hM⟩ : ∃ M, k * P = M := ⟨_, rfl⟩
  have hMi : (k : Int) * (P : Int) = (M : Int) := by rw [← hM]; push_cast; rfl
  have hM8 : 1 ≤ M ∧ M ≤ 8 := by omega
  have qB1 : ((B : Int) - 2).tdiv 2 = (k : Int) := by rw [Int.tdiv_eq_ediv_of_nonneg (by omega)]; omega
  have qB2 : ((B : Int) - 2) / 2 = (k : Int) := by omega
  have hB46 : 4 ≤ B ∧ B ≤ 6 := by omega
  obtain ⟨hB4, hB6⟩ := hB46
  have HM := Lib.hid hM
  have HM8 := Lib.hid hM8
  have HP24 := Lib.hid hP24
  have HK12 := Lib.hid hk12
  clear hC hP hS hB hk hC1 hS12 hkP hkP8 hN hN12 hM hk12 hP24
  go_enter Try.func6, Try.ntmps6
  go_wp2_with (fail)
  try rw [hV]
  clear hV
  (with_reducible refine (awake52_any V).mono ?_)
  rintro e w1 ⟨rfl, hb⟩
  have HB1 : Hid (Below w.heap.size w w1) := HBV.out.trans (hb.mono HBV.out.size)
  have HC1 := Lib.hid (HCV.out.below hb HCV.out.lt)
  obtain ⟨d0, d1, d2, d3, dz⟩ := HC1.out
  clear hb dz
  go_wp2_with (fail)
  (with_reducible refine (HFT.out w1).mono ?_)
  rintro e w2 ⟨rfl, hb⟩
  have HB2 : Hid (Below w.heap.size w w2) := HB1.out.trans (hb.mono HB1.out.size)
  have HC2 := Lib.hid (HC1.out.below hb HC1.out.lt)
  obtain ⟨V3, hV3⟩ : ∃ V, put4 w2 w.heap.size (.int .i64 B) (.int .i64 P) (.int .i64 S) (.int .i64 N) = V := ⟨_, rfl⟩
  have HBV3 : Hid (Below w.heap.size w V3) := by rw [← hV3]; exact below_put4 HB2.out (Nat.le_refl _) _ _ _ _
  have HCV3 : Hid (four V3 w.heap.size (.int .i64 B) (.int .i64 P) (.int .i64 S) (.int .i64 N)) := by rw [← hV3]; exact HC2.out.put _ _ _ _
  unfold put4 at hV3
  clear d0 d1 d2 d3 hb
  obtain ⟨d0, d1, d2, d3, dz⟩ := HC2.out
  have e0 := dz 0
  have e1 := dz 1
  have e2 := dz 2
  have e3 := dz 3
  clear dz
  go_upto_region 4 with (fail)
  try rw [hV3]
  clear hV3 d0 d1 d2 d3 e0 e1 e2 e3
  obtain ⟨d0, d1, d2, d3, dz⟩ := HCV3.out
  clear dz
  go_wp2_with (fail)
  (with_reducible refine (HPT.out V3).mono ?_)
  rintro e w4 ⟨W0, L, Sx, K, G, Bk0, rfl, hbw, hk, hpl, hsh, hpk⟩
  have HK4 : Hid (Kept52 W0 K.D G Bk0 w4) := ⟨L, Sx, K, rfl, hk⟩
  have HBW : Hid (Below V3.heap.size V3 W0) := hbw
  have hfp := forms_pure hpl HIL.out
  have HRN := Lib.hid hfp.rn
  have HBG := Lib.hid hfp.bg
  have HCF0 := Lib.hid hfp.cf0
  have HBT := Lib.hid hfp.bt
  have HBT2 := Lib.hid hfp.bt2
  have HST := Lib.hid hfp.st
  have HFD := Lib.hid hfp.fd
  have HFN := Lib.hid hfp.fn
  have HAB := Lib.hid hfp.ab
  have HCF1 := Lib.hid hfp.cf1
  have HI1 := Lib.hid hfp.i1
  have HI2 := Lib.hid hfp.i2
  have HI3 := Lib.hid hfp.i3
  have HO0 := Lib.hid hfp.o0
  have HO1 := Lib.hid hfp.o1
  have HRC0 : Hid (∀ {x y : Prop}, x → y → Bk0.st.busy = false) := fun _ _ => hfp.bu
  have HSQ0 : Hid (Bk0.st.seq ≤ 1000000) := hfp.sq
  have HL0 : Hid ({ Bk0 with slot := 0 }.upload = true → 1 ≤ { Bk0 with slot := 0 }.length) := fun e => by rw [hfp.ul] at e; cases e
  have HKK := Lib.hid hfp.kk
  have HGO : Hid G.ok := hpl.up.ok
  have HSZ : Hid (sizeF G Bk0.blocks = M * 64) := by
    rw [hpl.nb]
    show (2 * k + 2 - 2) / 2 * G.pg * 64 = M * 64
    rw [hsh.p, show (2 * k + 2 - 2) / 2 = k by omega, show (newF (2 * k + 2) P).pg = P from rfl, HM.out]
  obtain ⟨B1, hB1⟩ : ∃ x, ({ Bk0 with slot := 0 } : Bk) = x := ⟨_, rfl⟩
  have HSL : Hid (B1.blocks = Bk0.blocks ∧ B1.st = Bk0.st) := by rw [← hB1]; exact ⟨rfl, rfl⟩
  rw [hB1] at HBT HBT2 HST HFD HFN HAB HCF1 HI1 HI2 HI3 HO1 HKK HL0
  have HRC1 : Hid (∀ {x y : Prop}, x → y → B1.st.busy = false) := fun _ _ => by rw [HSL.out.2]; exact hfp.bu
  have HSQ1 : Hid (B1.st.seq ≤ 1000000) := by rw [HSL.out.2]; exact hfp.sq
  obtain ⟨D, hD⟩ : ∃ D, K.D = D := ⟨_, rfl⟩
  rw [hD] at HK4 ⊢
  have HFG : Hid (∀ v n : Int, ((1 ≤ v ∧ v ≤ 1073741824 ∧ 1 ≤ n ∧ n ≤ ((M * 64 : Nat) : Int)) → ∃ b2, beginB B1 G v n = (b2, 0) ∧ feedB b2 G [] = (b2, 14)) ∧ (¬ (1 ≤ v ∧ v ≤ 1073741824 ∧ 1 ≤ n ∧ n ≤ ((M * 64 : Nat) : Int)) → beginB B1 G v n = (B1, 3))) := fun v n => by
    obtain ⟨z1, z2, z3, z4, z5, z6, z7, z8, z9⟩ := HKK.out
    exact forms_begin z1 z2 z3 z5 (by rw [← hB1]; exact hfp.ul) z6 z7 z8 HO1.out.k1 v n (by rw [HSL.out.1]; exact HSZ.out)
  have HCB : Hid (∀ W, Kept52 W0 D G B1 W → W.cell? ⟨w.heap.size, 0, none⟩ = some (.int .i64 B) ∧ W.cell? ⟨w.heap.size, 1, none⟩ = some (.int .i64 P)) := fun W hkk => by
    have h1 := (HCV3.out.below HBW.out HCV3.out.lt).below hkk.below (Nat.lt_of_lt_of_le HCV3.out.lt HBW.out.size)
    exact ⟨h1.1, h1.2.1⟩
  have HFB : Hid (∀ W b2, Kept52 W0 D G b2 W → Below w.heap.size w W) := fun W b2 hkk => (HBV3.out.trans (HBW.out.mono HBV3.out.size)).trans (hkk.below.mono (Nat.le_trans HBV3.out.size HBW.out.size))
  clear hk hpl hsh hpk hfp hB1 hD hbw d0 d1 d2 d3
  have HC := Lib.hid (running52 HK4.out HO0.out HRN.out)
  simp only [errV_zero, errV_ne (show (12 : Int) ≠ 0 by decide), errV_ne (show (10 : Int) ≠ 0 by decide), errV_ne (show (14 : Int) ≠ 0 by decide), errV_ne (show (3 : Int) ≠ 0 by decide)] at HC
  go_wp2_with (fail)
  (with_reducible refine HC.out.mono ?_)
  rintro e w5 ⟨rfl, hk⟩
  have HK5 := Lib.hid hk
  clear hk HC
  have HC := Lib.hid (begin52 HK5.out HO0.out 1 1 (by unfold I64; omega) HBG.out)
  simp only [errV_zero, errV_ne (show (12 : Int) ≠ 0 by decide), errV_ne (show (10 : Int) ≠ 0 by decide), errV_ne (show (14 : Int) ≠ 0 by decide), errV_ne (show (3 : Int) ≠ 0 by decide)] at HC
  go_wp2_with (fail)
  (with_reducible refine HC.out.mono ?_)
  rintro e w6 ⟨rfl, hk⟩
  have HK6 := Lib.hid hk
  clear hk HC
  go_wp2_with (fail)
  (with_reducible refine (is_yes52 12 (by decide) _).mono ?_)
  rintro e wq ⟨rfl, rfl⟩
  have HC := Lib.hid (confirm52 HK6.out HO0.out HRC0.out HSQ0.out HCF0.out)
  simp only [errV_zero, errV_ne (show (12 : Int) ≠ 0 by decide), errV_ne (show (10 : Int) ≠ 0 by decide), errV_ne (show (14 : Int) ≠ 0 by decide), errV_ne (show (3 : Int) ≠ 0 by decide)] at HC
  go_wp2_with (fail)
  (with_reducible refine HC.out.mono ?_)
  rintro e w7 ⟨rfl, hk⟩
  have HK7 := Lib.hid hk
  clear hk HC
  go_wp2_with (fail)
  (with_reducible refine (is_yes52 12 (by decide) _).mono ?_)
  rintro e wq ⟨rfl, rfl⟩
  have HC := Lib.hid (boot52 HK7.out HO0.out HBT.out)
  simp only [errV_zero, errV_ne (show (12 : Int) ≠ 0 by decide), errV_ne (show (10 : Int) ≠ 0 by decide), errV_ne (show (14 : Int) ≠ 0 by decide), errV_ne (show (3 : Int) ≠ 0 by decide)] at HC
  go_wp2_with (fail)
  (with_reducible refine HC.out.mono ?_)
  rintro e w8 ⟨rfl, hk⟩
  have HK8 := Lib.hid hk
  clear hk HC
  have HC := Lib.hid (boot52 HK8.out HO1.out HBT2.out)
  simp only [errV_zero, errV_ne (show (12 : Int) ≠ 0 by decide), errV_ne (show (10 : Int) ≠ 0 by decide), errV_ne (show (14 : Int) ≠ 0 by decide), errV_ne (show (3 : Int) ≠ 0 by decide)] at HC
  go_wp2_with (fail)
  (with_reducible refine HC.out.mono ?_)
  rintro e w9 ⟨rfl, hk⟩
  have HK9 := Lib.hid hk
  clear hk HC
  go_wp2_with (fail)
  (with_reducible refine (is_yes52 12 (by decide) _).mono ?_)
  rintro e wq ⟨rfl, rfl⟩
  have HC := Lib.hid (step52 HK9.out HO1.out HST.out)
  simp only [errV_zero, errV_ne (show (12 : Int) ≠ 0 by decide), errV_ne (show (10 : Int) ≠ 0 by decide), errV_ne (show (14 : Int) ≠ 0 by decide), errV_ne (show (3 : Int) ≠ 0 by decide)] at HC
  go_wp2_with (fail)
  (with_reducible refine HC.out.mono ?_)
  rintro e w10 ⟨rfl, hk⟩
  have HK10 := Lib.hid hk
  clear hk HC
  have HC := Lib.hid (feed52n HK10.out HO1.out HFD.out)
  simp only [errV_zero, errV_ne (show (12 : Int) ≠ 0 by decide), errV_ne (show (10 : Int) ≠ 0 by decide), errV_ne (show (14 : Int) ≠ 0 by decide), errV_ne (show (3 : Int) ≠ 0 by decide)] at HC
  go_wp2_with (fail)
  (with_reducible refine HC.out.mono ?_)
  rintro e w11 ⟨rfl, hk⟩
  have HK11 := Lib.hid hk
  clear hk HC
  go_wp2_with (fail)
  (with_reducible refine (is_yes52 12 (by decide) _).mono ?_)
  rintro e wq ⟨rfl, rfl⟩
  have HC := Lib.hid (finish52 HK11.out HO1.out HRC1.out HSQ1.out HL0.out 0 ⟨by omega, by omega⟩ HFN.out)
  simp only [errV_zero, errV_ne (show (12 : Int) ≠ 0 by decide), errV_ne (show (10 : Int) ≠ 0 by decide), errV_ne (show (14 : Int) ≠ 0 by decide), errV_ne (show (3 : Int) ≠ 0 by decide)] at HC
  go_wp2_with (fail)
  (with_reducible refine HC.out.mono ?_)
  rintro e w12 ⟨rfl, hk⟩
  have HK12 := Lib.hid hk
  clear hk HC
  go_wp2_with (fail)
  (with_reducible refine (is_yes52 12 (by decide) _).mono ?_)
  rintro e wq ⟨rfl, rfl⟩
  have HC := Lib.hid (abort52 HK12.out HAB.out)
  simp only [errV_zero, errV_ne (show (12 : Int) ≠ 0 by decide), errV_ne (show (10 : Int) ≠ 0 by decide), errV_ne (show (14 : Int) ≠ 0 by decide), errV_ne (show (3 : Int) ≠ 0 by decide)] at HC
  go_wp2_with (fail)
  (with_reducible refine HC.out.mono ?_)
  rintro e w13 ⟨rfl, hk⟩
  have HK13 := Lib.hid hk
  clear hk HC
  go_wp2_with (fail)
  (with_reducible refine (is_yes52 12 (by decide) _).mono ?_)
  rintro e wq ⟨rfl, rfl⟩
  have HC := Lib.hid (confirm52 HK13.out HO1.out HRC1.out HSQ1.out HCF1.out)
  simp only [errV_zero, errV_ne (show (12 : Int) ≠ 0 by decide), errV_ne (show (10 : Int) ≠ 0 by decide), errV_ne (show (14 : Int) ≠ 0 by decide), errV_ne (show (3 : Int) ≠ 0 by decide)] at HC
  go_wp2_with (fail)
  (with_reducible refine HC.out.mono ?_)
  rintro e w14 ⟨rfl, hk⟩
  have HK14 := Lib.hid hk
  clear hk HC
  go_wp2_with (fail)
  (with_reducible refine (is_yes52 12 (by decide) _).mono ?_)
  rintro e wq ⟨rfl, rfl⟩
  have HC := Lib.hid (image52 HK14.out HO1.out 1 HI1.out)
  simp only [errV_zero, errV_ne (show (12 : Int) ≠ 0 by decide), errV_ne (show (10 : Int) ≠ 0 by decide), errV_ne (show (14 : Int) ≠ 0 by decide), errV_ne (show (3 : Int) ≠ 0 by decide)] at HC
  go_wp2_with (fail)
  (with_reducible refine HC.out.mono ?_)
  rintro e w15 ⟨A1, n1, c1, rfl, -, -, -, -, hk⟩
  have HK15 := Lib.hid hk
  clear hk HC
  have HC := Lib.hid (image52 HK15.out HO1.out 2 HI2.out)
  simp only [errV_zero, errV_ne (show (12 : Int) ≠ 0 by decide), errV_ne (show (10 : Int) ≠ 0 by decide), errV_ne (show (14 : Int) ≠ 0 by decide), errV_ne (show (3 : Int) ≠ 0 by decide)] at HC
  go_wp2_with (fail)
  (with_reducible refine HC.out.mono ?_)
  rintro e w16 ⟨A2, n2, c2, rfl, -, -, -, -, hk⟩
  have HK16 := Lib.hid hk
  clear hk HC
  have HC := Lib.hid (image52 HK16.out HO1.out (-1) HI3.out)
  simp only [errV_zero, errV_ne (show (12 : Int) ≠ 0 by decide), errV_ne (show (10 : Int) ≠ 0 by decide), errV_ne (show (14 : Int) ≠ 0 by decide), errV_ne (show (3 : Int) ≠ 0 by decide)] at HC
  go_wp2_with (fail)
  (with_reducible refine HC.out.mono ?_)
  rintro e w17 ⟨A3, n3, c3, rfl, -, -, -, -, hk⟩
  have HK17 := Lib.hid hk
  clear hk HC
  go_wp2_with (fail)
  (with_reducible refine (is_yes52 12 (by decide) _).mono ?_)
  rintro e wq ⟨rfl, rfl⟩
  go_wp2_with (fail)
  (with_reducible refine (is_yes52 10 (by decide) _).mono ?_)
  rintro e wq ⟨rfl, rfl⟩
  go_wp2_with (fail)
  (with_reducible refine (is_yes52 10 (by decide) _).mono ?_)
  rintro e wq ⟨rfl, rfl⟩
  obtain ⟨d0, d1⟩ := HCB.out _ HK17.out
  obtain ⟨y1, y2⟩ := HFG.out v n
  have hM64 : ((M * 64 : Nat) : Int) = (M : Int) * 64 := by push_cast; rfl
  rw [hM64] at y1 y2
  by_cases hr : 1 ≤ v ∧ v ≤ 1073741824 ∧ 1 ≤ n ∧ n ≤ (M : Int) * 64
  · obtain ⟨B2, hq1, hq2⟩ := y1 hr
    have HQ1 := Lib.hid hq1
    have HQ2 := Lib.hid hq2
    have HO2 : Hid (BkOk G B2) := by have := beginB_ok HO1.out HGO.out v n; rw [hq1] at this; exact this
    obtain ⟨r1, r2, r3, r4⟩ := hr
    clear y1 y2 hq1 hq2
    have HC := Lib.hid (begin52 HK17.out HO1.out v n hn64 HQ1.out)
    simp only [errV_zero, errV_ne (show (12 : Int) ≠ 0 by decide), errV_ne (show (10 : Int) ≠ 0 by decide), errV_ne (show (14 : Int) ≠ 0 by decide), errV_ne (show (3 : Int) ≠ 0 by decide)] at HC
    go_wp2_with (fail)
    (with_reducible refine HC.out.mono ?_)
    rintro e w18 ⟨rfl, hk⟩
    have HK18 := Lib.hid hk
    clear hk HC
    have HC := Lib.hid (feed52n HK18.out HO2.out HQ2.out)
    simp only [errV_zero, errV_ne (show (12 : Int) ≠ 0 by decide), errV_ne (show (10 : Int) ≠ 0 by decide), errV_ne (show (14 : Int) ≠ 0 by decide), errV_ne (show (3 : Int) ≠ 0 by decide)] at HC
    go_wp2_with (fail)
    (with_reducible refine HC.out.mono ?_)
    rintro e w19 ⟨rfl, hk⟩
    have HK19 := Lib.hid hk
    clear hk HC
    go_wp2_with (fail)
    (with_reducible refine (is_yes52 14 (by decide) _).mono ?_)
    rintro e wq ⟨rfl, rfl⟩
    go_wp2_with (fail)
    (with_reducible refine (fboot_nil _).mono ?_)
    rintro e wq ⟨rfl, rfl⟩
    go_wp2_with (fail)
    (with_reducible refine (fstep_nil _).mono ?_)
    rintro e wq ⟨rfl, rfl⟩
    go_wp2_with (fail)
    (with_reducible refine (fimage_nil 0 _).mono ?_)
    rintro e wq ⟨rfl, rfl⟩
    go_wp2_with (fail)
    (with_reducible refine (frunning_nil _).mono ?_)
    rintro e wq ⟨rfl, rfl⟩
    go_wp2_with (fail)
    (with_reducible refine (ftrial_nil _).mono ?_)
    rintro e wq ⟨rfl, rfl⟩
    go_wp2_with (fail)
    (with_reducible refine (is_yes52 1 (by decide) _).mono ?_)
    rintro e wq ⟨rfl, rfl⟩
    go_wp2_with (fail)
    (with_reducible refine (is_yes52 1 (by decide) _).mono ?_)
    rintro e wq ⟨rfl, rfl⟩
    go_wp2_with (fail)
    (with_reducible refine (is_yes52 1 (by decide) _).mono ?_)
    rintro e wq ⟨rfl, rfl⟩
    go_wp2_with (fail)
    (with_reducible refine (fbegin_nil 1 1 _).mono ?_)
    rintro e wq ⟨rfl, rfl⟩
    go_wp2_with (fail)
    (with_reducible refine (is_yes52 1 (by decide) _).mono ?_)
    rintro e wq ⟨rfl, rfl⟩
    go_wp2_with (fail)
    (with_reducible refine (ffeed_nil _ _).mono ?_)
    rintro e wq ⟨rfl, rfl⟩
    go_wp2_with (fail)
    (with_reducible refine (is_yes52 1 (by decide) _).mono ?_)
    rintro e wq ⟨rfl, rfl⟩
    go_wp2_with (fail)
    (with_reducible refine (ffinish_nil 0 _).mono ?_)
    rintro e wq ⟨rfl, rfl⟩
    go_wp2_with (fail)
    (with_reducible refine (is_yes52 1 (by decide) _).mono ?_)
    rintro e wq ⟨rfl, rfl⟩
    go_wp2_with (fail)
    (with_reducible refine (fabort_nil _).mono ?_)
    rintro e wq ⟨rfl, rfl⟩
    go_wp2_with (fail)
    (with_reducible refine (is_yes52 1 (by decide) _).mono ?_)
    rintro e wq ⟨rfl, rfl⟩
    go_wp2_with (fail)
    (with_reducible refine (fconfirm_nil _).mono ?_)
    rintro e wq ⟨rfl, rfl⟩
    go_wp2_with (fail)
    (with_reducible refine (is_yes52 1 (by decide) _).mono ?_)
    rintro e wq ⟨rfl, rfl⟩
    go_wp2
    go_ret
    exact ⟨rfl, HFB.out _ _ HK19.out⟩
  · have HQ1 := Lib.hid (y2 hr)
    clear y1 y2
    have hcase : (¬ 1 ≤ v ∧ v < 1) ∨ (1 ≤ v ∧ ¬ v ≤ 1073741824 ∧ 1073741824 < v) ∨ (1 ≤ v ∧ v ≤ 1073741824 ∧ ¬ 1 ≤ n ∧ n < 1) ∨ (1 ≤ v ∧ v ≤ 1073741824 ∧ 1 ≤ n ∧ ¬ n ≤ (M : Int) * 64 ∧ (M : Int) * 64 < n) := by omega
    clear hr
    rcases hcase with ⟨r1, r2⟩ | ⟨r1, r2, r3⟩ | ⟨r1, r2, r3, r4⟩ | ⟨r1, r2, r3, r4, r5⟩
    all_goals
      have HC := Lib.hid (begin52 HK17.out HO1.out v n hn64 HQ1.out)
      simp only [errV_zero, errV_ne (show (12 : Int) ≠ 0 by decide), errV_ne (show (10 : Int) ≠ 0 by decide), errV_ne (show (14 : Int) ≠ 0 by decide), errV_ne (show (3 : Int) ≠ 0 by decide)] at HC
      go_wp2_with (fail)
      (with_reducible refine HC.out.mono ?_)
      rintro e w18 ⟨rfl, hk⟩
      have HK18 := Lib.hid hk
      clear hk HC
      go_wp2_with (fail)
      (with_reducible refine (is_yes52 3 (by decide) _).mono ?_)
      rintro e wq ⟨rfl, rfl⟩
      go_wp2_with (fail)
      (with_reducible refine (fboot_nil _).mono ?_)
      rintro e wq ⟨rfl, rfl⟩
      go_wp2_with (fail)
      (with_reducible refine (fstep_nil _).mono ?_)
      rintro e wq ⟨rfl, rfl⟩
      go_wp2_with (fail)
      (with_reducible refine (fimage_nil 0 _).mono ?_)
      rintro e wq ⟨rfl, rfl⟩
      go_wp2_with (fail)
      (with_reducible refine (frunning_nil _).mono ?_)
      rintro e wq ⟨rfl, rfl⟩
      go_wp2_with (fail)
      (with_reducible refine (ftrial_nil _).mono ?_)
      rintro e wq ⟨rfl, rfl⟩
      go_wp2_with (fail)
      (with_reducible refine (is_yes52 1 (by decide) _).mono ?_)
      rintro e wq ⟨rfl, rfl⟩
      go_wp2_with (fail)
      (with_reducible refine (is_yes52 1 (by decide) _).mono ?_)
      rintro e wq ⟨rfl, rfl⟩
      go_wp2_with (fail)
      (with_reducible refine (is_yes52 1 (by decide) _).mono ?_)
      rintro e wq ⟨rfl, rfl⟩
      go_wp2_with (fail)
      (with_reducible refine (fbegin_nil 1 1 _).mono ?_)
      rintro e wq ⟨rfl, rfl⟩
      go_wp2_with (fail)
      (with_reducible refine (is_yes52 1 (by decide) _).mono ?_)
      rintro e wq ⟨rfl, rfl⟩
      go_wp2_with (fail)
      (with_reducible refine (ffeed_nil _ _).mono ?_)
      rintro e wq ⟨rfl, rfl⟩
      go_wp2_with (fail)
      (with_reducible refine (is_yes52 1 (by decide) _).mono ?_)
      rintro e wq ⟨rfl, rfl⟩
      go_wp2_with (fail)
      (with_reducible refine (ffinish_nil 0 _).mono ?_)
      rintro e wq ⟨rfl, rfl⟩
      go_wp2_with (fail)
      (with_reducible refine (is_yes52 1 (by decide) _).mono ?_)
      rintro e wq ⟨rfl, rfl⟩
      go_wp2_with (fail)
      (with_reducible refine (fabort_nil _).mono ?_)
      rintro e wq ⟨rfl, rfl⟩
      go_wp2_with (fail)
      (with_reducible refine (is_yes52 1 (by decide) _).mono ?_)
      rintro e wq ⟨rfl, rfl⟩
      go_wp2_with (fail)
      (with_reducible refine (fconfirm_nil _).mono ?_)
      rintro e wq ⟨rfl, rfl⟩
      go_wp2_with (fail)
      (with_reducible refine (is_yes52 1 (by decide) _).mono ?_)
      rintro e wq ⟨rfl, rfl⟩
      go_wp2
      go_ret
      exact ⟨rfl, HFB.out _ _ HK18.out⟩
end Go.Proofs.Ytjdknddnanopaaa
