/-
  FlashHolds.
-/
import Derived.Test.YtfeceamhlphelaaW12
import Derived.Test.YtfeceamhlphelaaPlainH
import Derived.Test.YtfeceamhlphelaaStr
import Derived.Deep.DeepCutAuto
namespace Go.Proofs.Ytfeceamhlphelaa
open Go.RowKit
set_option linter.unusedVariables false

theorem size_alloc (w : World) (o : Obj) : (w.alloc o).heap.size = w.heap.size + 1 := Array.size_push _

theorem two_new (w : World) (a b : Value) (t : TypeId) (c d : Value) (u : TypeId) :
    ((w.alloc (.cells #[a, b] t)).alloc (.cells #[c, d] u)).cell? ⟨w.heap.size, 0, none⟩ = some a ∧ ((w.alloc (.cells #[a, b] t)).alloc (.cells #[c, d] u)).cell? ⟨w.heap.size, 1, none⟩ = some b ∧
    ((w.alloc (.cells #[a, b] t)).alloc (.cells #[c, d] u)).cell? ⟨w.heap.size + 1, 0, none⟩ = some c ∧ ((w.alloc (.cells #[a, b] t)).alloc (.cells #[c, d] u)).cell? ⟨w.heap.size + 1, 1, none⟩ = some d := by
  have hs : (w.alloc (.cells #[a, b] t)).heap.size = w.heap.size + 1 := Array.size_push _
  have hb := (Below.refl (w.heap.size + 1) (w.alloc (.cells #[a, b] t))).alloc (by omega) (.cells #[c, d] u)
  refine ⟨(hb.cell (p := ⟨w.heap.size, 0, none⟩) (by show w.heap.size < w.heap.size + 1; omega)).trans (cell_new_at _ _ _ _ _ _ rfl rfl), (hb.cell (p := ⟨w.heap.size, 1, none⟩) (by show w.heap.size < w.heap.size + 1; omega)).trans (cell_new_at _ _ _ _ _ _ rfl rfl), cell_new_at _ _ _ _ _ _ hs.symm rfl, cell_new_at _ _ _ _ _ _ hs.symm rfl⟩

set_option maxRecDepth 100000 in
theorem holds_long (a b t : Int) (A : Option Addr) (n c : Nat) (B : Option Addr) (m z : Nat) (w : World) (hn : n ≤ maxLen) (hm : m ≤ maxLen) (h : 1000 < n ∨ 1000 < m) :
    Calls Try.prog 3 #[.agg #[.int .i64 a, .int .i64 b], .int .i64 t, .agg #[.slice A n c, .slice B m z]] w fun e w' => e = .returned (.bool true) ∧ Below w.heap.size w w' := by
  unfold maxLen at hn hm
  obtain ⟨V, hV⟩ : ∃ V, (w.alloc (.cells #[.int .i64 a, .int .i64 b] 22)).alloc (.cells #[.slice A n c, .slice B m z] 24) = V := ⟨_, rfl⟩
  have HBV : Hid (Below w.heap.size w V) := by rw [← hV]; exact ((Below.refl _ _).alloc (Nat.le_refl _) _).alloc (by rw [size_alloc]; omega) _
  have HC0 := Lib.hid (two_new w (.int .i64 a) (.int .i64 b) 22 (.slice A n c) (.slice B m z) 24)
  rw [hV] at HC0
  have hgV : w.heap.size + 1 < V.heap.size := World.block_lt_of_cell? V _ HC0.out.2.2.1
  by_cases h1 : 1000 < n
  · clear h
    go_enter Try.func3, Try.ntmps3
    go_wp2_with (fail)
    try rw [hV]
    clear hV
    (with_reducible refine (awake_any V).mono ?_)
    rintro e w1 ⟨rfl, hb⟩
    have HB1 : Hid (Below w.heap.size w w1) := HBV.out.trans (hb.mono HBV.out.size)
    have m2 : w1.cell? ⟨w.heap.size + 1, 0, none⟩ = some (.slice A n c) := (hb.cell (p := ⟨w.heap.size + 1, 0, none⟩) hgV).trans HC0.out.2.2.1
    clear hb
    go_wp2_with (fail)
    (with_reducible refine (awake_any w1).mono ?_)
    rintro e w2 ⟨rfl, hb⟩
    have HB2 : Hid (Below w.heap.size w w2) := HB1.out.trans (hb.mono HB1.out.size)
    clear hb
    go_wp2
    go_ret
    exact ⟨rfl, HB2.out⟩
  · have h2 : 1000 < m := by omega
    clear h
    go_enter Try.func3, Try.ntmps3
    go_wp2_with (fail)
    try rw [hV]
    clear hV
    (with_reducible refine (awake_any V).mono ?_)
    rintro e w1 ⟨rfl, hb⟩
    have HB1 : Hid (Below w.heap.size w w1) := HBV.out.trans (hb.mono HBV.out.size)
    have m2 : w1.cell? ⟨w.heap.size + 1, 0, none⟩ = some (.slice A n c) := (hb.cell (p := ⟨w.heap.size + 1, 0, none⟩) hgV).trans HC0.out.2.2.1
    have m3 : w1.cell? ⟨w.heap.size + 1, 1, none⟩ = some (.slice B m z) := (hb.cell (p := ⟨w.heap.size + 1, 1, none⟩) hgV).trans HC0.out.2.2.2
    clear hb
    go_wp2_with (fail)
    (with_reducible refine (awake_any w1).mono ?_)
    rintro e w2 ⟨rfl, hb⟩
    have HB2 : Hid (Below w.heap.size w w2) := HB1.out.trans (hb.mono HB1.out.size)
    clear hb
    go_wp2
    go_ret
    exact ⟨rfl, HB2.out⟩

set_option maxRecDepth 100000 in
set_option maxHeartbeats 16000000 in
theorem holds_main (a b t : Int) (A : Option Addr) (n c : Nat) (x0 : List Int) (B : Option Addr) (m z : Nat) (y0 : List Int) (w : World)
    (hA : Rd w w.heap.size A (kcells .u8 x0)) (hn : x0.length = n) (hnc : n ≤ c) (hcm : c ≤ maxLen) (hx0 : Bytes x0)
    (hB : Rd w w.heap.size B (kcells .u8 y0)) (hm : y0.length = m) (hmz : m ≤ z) (hzm : z ≤ maxLen) (hy0 : Bytes y0) (h1 : n ≤ 1000) (h2 : m ≤ 1000) :
    Calls Try.prog 3 #[.agg #[.int .i64 a, .int .i64 b], .int .i64 t, .agg #[.slice A n c, .slice B m z]] w fun e w' => e = .returned (.bool true) ∧ Below w.heap.size w w' := by
  have g1 := ne_nil
  have g2 := ne_err
  have g3 := eq_nil
  have g4 := eq_err
  obtain ⟨bl, hbl⟩ : ∃ K : Nat, clipI a 1 4 = K := ⟨(clipI a 1 4).toNat, by unfold clipI; omega⟩
  obtain ⟨pg, hpg⟩ : ∃ K : Nat, clipI b 1 4 = K := ⟨(clipI b 1 4).toNat, by unfold clipI; omega⟩
  have hb14 : 1 ≤ bl ∧ bl ≤ 4 := by unfold clipI at hbl; omega
  have hp14 : 1 ≤ pg ∧ pg ≤ 4 := by unfold clipI at hpg; omega
  obtain ⟨Z, hZ⟩ : ∃ Z : Nat, bl * pg = Z := ⟨_, rfl⟩
  have hZb : 1 ≤ Z ∧ Z ≤ 16 := by
    have h1 := Nat.mul_le_mul hb14.1 hp14.1
    have h2 := Nat.mul_le_mul hb14.2 hp14.2
    omega
  have x1 : (bl : Int) * (pg : Int) = (Z : Int) := by rw [← hZ]; push_cast; rfl
  obtain ⟨K, hK⟩ : ∃ K : Nat, clipI t 0 ((Z : Int) - 1) = K := ⟨(clipI t 0 ((Z : Int) - 1)).toNat, by unfold clipI; omega⟩
  have hKZ : K < Z := by unfold clipI at hK; omega
  obtain ⟨h, hh⟩ : ∃ h, K / pg = h := ⟨_, rfl⟩
  have hhb : h < bl := by rw [← hh]; exact Nat.div_lt_of_lt_mul (by rw [Nat.mul_comm, hZ]; exact hKZ)
  have q1 : (K : Int) / (pg : Int) = (h : Int) := by rw [← hh]; push_cast; rfl
  have q2 : (K : Int).tdiv (pg : Int) = (h : Int) := by rw [Int.tdiv_eq_ediv_of_nonneg (by omega)]; exact q1
  have q3 : wrap64 (h : Int) = (h : Int) := by unfold wrap64; omega
  have q4 : ((pg : Int) == 0) = false := by simp; omega
  have hxl : (pageO 0 x0).length = 64 := by unfold pageO; rw [if_neg (by omega)]; simp
  have hyl : (pageO 0 y0).length = 64 := by unfold pageO; rw [if_neg (by omega)]; simp
  have hxb : Bytes (pageO 0 x0) := pageO_bytes hx0
  have hyb : Bytes (pageO 0 y0) := pageO_bytes hy0
  have HBL := Lib.hid hbl
  have HPGI := Lib.hid hpg
  have HK := Lib.hid hK
  have HA := Lib.hid hA
  have HN := Lib.hid hn
  have HX0 := Lib.hid hx0
  have HB := Lib.hid hB
  have HM := Lib.hid hm
  have HY0 := Lib.hid hy0
  obtain ⟨x, hx⟩ : ∃ x, pageO 0 x0 = x := ⟨_, rfl⟩
  obtain ⟨y, hy⟩ : ∃ x, pageO 0 y0 = x := ⟨_, rfl⟩
  have HX := Lib.hid hx
  have HY := Lib.hid hy
  rw [hx] at hxl hxb
  rw [hy] at hyl hyb
  have HXL := Lib.hid hxl
  have HYL := Lib.hid hyl
  have HXB := Lib.hid hxb
  have HYB := Lib.hid hyb
  have HE12 : Hid (errV 12 = .iface 40 (.int .i64 12)) := errV_ne (by omega)
  obtain ⟨f1, f2, f3, f4, hheld⟩ := held (bl := bl) (pg := pg) (K := K) hb14.1 (by omega) hp14.1 (by omega) (by rw [hZ]; exact hKZ) hxl hyl hxb hyb
  have HH := Lib.hid hheld
  have HQ := Lib.hid hh
  obtain ⟨V, hV⟩ : ∃ V, (w.alloc (.cells #[.int .i64 a, .int .i64 b] 22)).alloc (.cells #[.slice A n c, .slice B m z] 24) = V := ⟨_, rfl⟩
  have HBV : Hid (Below w.heap.size w V) := by rw [← hV]; exact ((Below.refl _ _).alloc (Nat.le_refl _) _).alloc (by rw [size_alloc]; omega) _
  have HC0 := Lib.hid (two_new w (.int .i64 a) (.int .i64 b) 22 (.slice A n c) (.slice B m z) 24)
  rw [hV] at HC0
  have hgV : w.heap.size + 1 < V.heap.size := World.block_lt_of_cell? V _ HC0.out.2.2.1
  have hgV0 : w.heap.size < V.heap.size := by omega
  clear hA hn hx0 hB hm hy0 hbl hpg hZ hK hh hx hy hxl hyl hxb hyb hheld
  unfold maxLen at hcm hzm
  go_enter Try.func3, Try.ntmps3
  go_wp2_with (fail)
  try rw [hV]
  clear hV
  (with_reducible refine (awake_any V).mono ?_)
  rintro e w1 ⟨rfl, hb⟩
  have HB1 : Hid (Below w.heap.size w w1) := HBV.out.trans (hb.mono HBV.out.size)
  have m0 : w1.cell? ⟨w.heap.size, 0, none⟩ = some (.int .i64 a) := (hb.cell (p := ⟨w.heap.size, 0, none⟩) hgV0).trans HC0.out.1
  have m1 : w1.cell? ⟨w.heap.size, 1, none⟩ = some (.int .i64 b) := (hb.cell (p := ⟨w.heap.size, 1, none⟩) hgV0).trans HC0.out.2.1
  have m2 : w1.cell? ⟨w.heap.size + 1, 0, none⟩ = some (.slice A n c) := (hb.cell (p := ⟨w.heap.size + 1, 0, none⟩) hgV).trans HC0.out.2.2.1
  have m3 : w1.cell? ⟨w.heap.size + 1, 1, none⟩ = some (.slice B m z) := (hb.cell (p := ⟨w.heap.size + 1, 1, none⟩) hgV).trans HC0.out.2.2.2
  have hg1 : w.heap.size + 1 < w1.heap.size := World.block_lt_of_cell? w1 _ m2
  clear hb hgV hgV0 HC0
  go_wp2_with (fail)
  (with_reducible refine (size_any a b w1).mono ?_)
  rintro e w2 ⟨rfl, hb⟩
  rw [HBL.out, HPGI.out]
  have HB2 : Hid (Below w.heap.size w w2) := HB1.out.trans (hb.mono HB1.out.size)
  have n2 : w2.cell? ⟨w.heap.size + 1, 0, none⟩ = some (.slice A n c) := (hb.cell (p := ⟨w.heap.size + 1, 0, none⟩) hg1).trans m2
  have n3 : w2.cell? ⟨w.heap.size + 1, 1, none⟩ = some (.slice B m z) := (hb.cell (p := ⟨w.heap.size + 1, 1, none⟩) hg1).trans m3
  have hg2 : w.heap.size + 1 < w2.heap.size := World.block_lt_of_cell? w2 _ n2
  clear hb m0 m1 m2 m3 hg1
  go_wp2_with (fail)
  (with_reducible refine (new_ok bl pg w2 hb14.1 (by omega) hp14.1 (by omega)).mono ?_)
  rintro e w3 ⟨L, rfl, hF⟩
  have HF3 := Lib.hid hF
  have HB3 : Hid (Below w.heap.size w w3) := HB2.out.trans (hF.below.mono HB2.out.size)
  have m2 : w3.cell? ⟨w.heap.size + 1, 0, none⟩ = some (.slice A n c) := (hF.below.cell (p := ⟨w.heap.size + 1, 0, none⟩) hg2).trans n2
  have m3 : w3.cell? ⟨w.heap.size + 1, 1, none⟩ = some (.slice B m z) := (hF.below.cell (p := ⟨w.heap.size + 1, 1, none⟩) hg2).trans n3
  have hg3 : w.heap.size + 1 < w3.heap.size := World.block_lt_of_cell? w3 _ m2
  clear hF n2 n3 hg2
  go_wp2_with (fail)
  (with_reducible refine (clip_any t 0 ((Z : Int) - 1) w3).mono ?_)
  rintro e w3' ⟨rfl, rfl⟩
  rw [HK.out]
  have hk2 : ∀ w' : World, Below w3.heap.size w3 w' → w'.cell? ⟨w.heap.size + 1, 0, none⟩ = some (.slice A n c) ∧ w'.cell? ⟨w.heap.size + 1, 1, none⟩ = some (.slice B m z) := fun w' hb => ⟨(hb.cell (p := ⟨w.heap.size + 1, 0, none⟩) hg3).trans m2, (hb.cell (p := ⟨w.heap.size + 1, 1, none⟩) hg3).trans m3⟩
  have HK2 := Lib.hid hk2
  have HBD : Hid (Below w3.heap.size w3 w3.drew) := Below.drew (Below.refl _ _)
  have HB3D : Hid (Below w.heap.size w w3.drew) := HB3.out.trans (HBD.out.mono HB3.out.size)
  have HFD : Hid (FlAt w2 w3.drew L (newF bl pg)) := HF3.out.later HBD.out
  clear hk2
  go_upto_region 8 with (fail)
  go_region_held3 (fun w' => w'.cell? ⟨w.heap.size + 1, 0, none⟩ = some (.slice A n c) ∧ w'.cell? ⟨w.heap.size + 1, 1, none⟩ = some (.slice B m z)) (first | exact ⟨m2, m3⟩ | assumption | exact HK2.out _ (HBD.out.trans (hb4.mono HBD.out.size)) | exact HK2.out _ (HBD.out.trans ((hb4.trans (hb5.mono hb4.size)).mono HBD.out.size))) (first
    | (go_at_call 25; with_reducible refine (page_any 0 0 0 A n c x0 none 0 0 w.heap.size w3.drew (HA.out.below HB3D.out (Nat.le_refl _)) HB3D.out.size HN.out hnc (by unfold maxLen; exact hcm) HX0.out).mono ?_; rintro e w4 ⟨A4, l4, c4, rfl, hl4, hc4, hcm4, hb4, ho4⟩)
    | (go_at_call 25; with_reducible refine (page_any 0 0 0 B m z y0 none 0 0 w.heap.size w4 (HB.out.below (HB3D.out.trans (hb4.mono HB3D.out.size)) (Nat.le_refl _)) (Nat.le_trans HB3D.out.size hb4.size) HM.out hmz (by unfold maxLen; exact hzm) HY0.out).mono ?_; rintro e w5 ⟨A5, l5, c5, rfl, hl5, hc5, hcm5, hb5, ho5⟩))
  rw [HX.out] at hl4 ho4
  rw [HY.out] at hl5 ho5
  have hl464 : l4 = 64 := by rw [← hl4]; exact HXL.out
  have hl564 : l5 = 64 := by rw [← hl5]; exact HYL.out
  subst hl464
  subst hl564
  have hp4 := ho4.resolve_left (fun h => by omega)
  have hp5 := ho5.resolve_left (fun h => by omega)
  have HF5 := Lib.hid ((HFD.out.later hb4).later hb5)
  have HAX5 : Hid (Apart L w5 A4 (kcells .u8 x)) := (apart_own HFD.out (by rw [kcells_length]; exact HXL.out) hp4).only (Only.of_below hb5)
  have HAY5 : Hid (Apart L w5 A5 (kcells .u8 y)) := apart_own (HFD.out.later hb4) (by rw [kcells_length]; exact HYL.out) hp5
  clear hl4 hl5 ho4 ho5 hp4 hp5 hb4 hb5 HK2 HBD HB3D HFD m2 m3 hg3 HF3 HB3
  go_wp2_with (fail)
  (with_reducible refine (program_any HF5.out K A4 64 c4 x HAX5.out HXL.out hc4 hcm4 HXB.out).mono ?_)
  rintro e w6 ⟨rfl, hF, hO⟩
  rw [HH.out.p1] at hF ⊢
  have HF6 : Hid (FlAt w2 w6 L f1) := hF
  have HAX6 := Lib.hid (HAX5.out.only hO)
  have HAY6 := Lib.hid (HAY5.out.only hO)
  clear hF hO HAX5 HAY5 HF5
  simp only [errV_zero]
  obtain ⟨R, hR⟩ : ∃ R : List Int, List.replicate 64 255 = R := ⟨_, rfl⟩
  have hRl : R.length = 64 := by rw [← hR]; rfl
  have HRL := Lib.hid hRl
  have HRR := Lib.hid hR
  obtain ⟨D, hD⟩ : ∃ D : Bool, decide (x = R) = D := ⟨_, rfl⟩
  have hs : ((strOfNums x).toList == (strOfNums R).toList) = D := by rw [← hD]; exact str_beq HXB.out (by rw [← hR]; exact bytes_rep 64 255 (by omega))
  have hfill : ∀ v : World, Calls Try.prog 27 #[.int .u8 255] v fun e w' => ∃ A, e = .returned (.slice A 64 64) ∧ w'.ownsRow v.heap.size 5 1 (.slice A 64 64) 64 (kcells .u8 R) ∧ Below v.heap.size v w' := by
    intro v
    rw [← hR]
    exact fill_any 255 (by omega) v
  have HFILL := Lib.hid hfill
  have HDD := Lib.hid hD
  have HBD : Hid (Below w6.heap.size w6 w6.drew) := Below.drew (Below.refl _ _)
  have t4 : (convert 23 9 (.slice A4 64 c4)).run Try.prog w6.drew = .ok (.string (strOfNums x)) w6.drew := str_of (B := w6.heap.size) (HAX6.out.rd.below HBD.out (Nat.le_refl _)) HXL.out
  clear hD hR hRl hfill
  go_upto_region 11 with (fail)
  go_cut [14] (fun d wx => d = .bool D ∧ Below w6.heap.size w6 wx)
  case first =>
    go_region_with (go_at_call 27; with_reducible refine (HFILL.out w6.drew).mono ?_; rintro e w7 ⟨A7, rfl, ho7, hb7⟩; have t7 : (convert 23 9 (.slice A7 64 64)).run Try.prog w7 = .ok (.string (strOfNums R)) w7 := str_of (B := w7.heap.size) (own_rd ho7) HRL.out; have t8 : (convert 23 9 (.slice A4 64 c4)).run Try.prog w7 = .ok (.string (strOfNums x)) w7 := str_of (B := w6.heap.size) (HAX6.out.rd.below (HBD.out.trans (hb7.mono HBD.out.size)) (Nat.le_refl _)) HXL.out; have HB7 := Lib.hid hb7; clear ho7 hb7)
    all_goals
      (try go_wp2_with fail)
      go_meet
      exact ⟨rfl, HBD.out.trans (HB7.out.mono HBD.out.size)⟩
  case rest =>
    obtain ⟨rfl, hbc⟩ := hcut
    have HFc := Lib.hid (HF6.out.later hbc)
    have HAXc := Lib.hid (HAX6.out.only (Only.of_below hbc))
    have HAYc := Lib.hid (HAY6.out.only (Only.of_below hbc))
    clear hbc hs t4 HBD HAX6 HAY6 HF6
    go_wp2_with (fail)
    (with_reducible refine (program_any HFc.out K A5 64 c5 y HAYc.out HYL.out hc5 hcm5 HYB.out).mono ?_)
    rintro e w8 ⟨rfl, hF, hO⟩
    rw [HH.out.p2] at hF ⊢
    have HF8 : Hid (FlAt w2 w8 L f2) := hF
    have HAX8 := Lib.hid (HAXc.out.only hO)
    have HAY8 := Lib.hid (HAYc.out.only hO)
    clear hF hO HAXc HAYc HFc
    cases D
    focus
      have hxr : ¬ x = List.replicate 64 255 := fun h => of_decide_eq_false HDD.out (h.trans HRR.out)
      have HR2 : Hid (readF f2 K = (x, 0)) := by rw [Hid, HH.out.r2, if_neg hxr]
      simp only [if_neg hxr, HE12.out]
      clear hxr
      go_wp2_with (fail)
      (with_reducible refine (is_err 12 12 _).mono ?_)
      rintro e w8' ⟨rfl, rfl⟩
      go_wp2_with (fail)
      (with_reducible refine (read_any HF8.out K).mono ?_)
      rintro e w9 ⟨v9, rfl, ho, hb9⟩
      rw [HR2.out] at ho ⊢
      simp only [errV_zero] at ho ⊢
      rw [HXL.out] at ho
      obtain ⟨G, cg, rfl, hcg1, hcg2, hrg⟩ := own_read ho
      have s1 := str_of (c := cg) hrg HXL.out
      have s2 : (convert 23 9 (.slice A4 64 c4)).run Try.prog w9 = .ok (.string (strOfNums x)) w9 := str_of (HAX8.out.rd.below hb9 (Nat.le_refl _)) HXL.out
      have HF9 := Lib.hid (HF8.out.later hb9)
      have HAY9 := Lib.hid (HAY8.out.only (Only.of_below hb9))
      clear ho hrg hb9 HR2
    rotate_left
    focus
      have hxr : x = List.replicate 64 255 := (of_decide_eq_true HDD.out).trans HRR.out.symm
      have HR2 : Hid (readF f2 K = (y, 0)) := by rw [Hid, HH.out.r2, if_pos hxr]
      simp only [if_pos hxr, errV_zero]
      clear hxr
      go_wp2_with (fail)
      (with_reducible refine (read_any HF8.out K).mono ?_)
      rintro e w9 ⟨v9, rfl, ho, hb9⟩
      rw [HR2.out] at ho ⊢
      simp only [errV_zero] at ho ⊢
      rw [HYL.out] at ho
      obtain ⟨G, cg, rfl, hcg1, hcg2, hrg⟩ := own_read ho
      have s1 := str_of (c := cg) hrg HYL.out
      have s2 : (convert 23 9 (.slice A5 64 c5)).run Try.prog w9 = .ok (.string (strOfNums y)) w9 := str_of (HAY8.out.rd.below hb9 (Nat.le_refl _)) HYL.out
      have HF9 := Lib.hid (HF8.out.later hb9)
      have HAY9 := Lib.hid (HAY8.out.only (Only.of_below hb9))
      clear ho hrg hb9 HR2
    all_goals
      have HE3 : Hid (eraseF f2 (h : Int) = (f3, 0)) := by rw [Hid, ← HQ.out]; exact HH.out.e3
      have HW4 : Hid (f4.wear[h]? = some 1) := by rw [Hid, ← HQ.out]; exact HH.out.w4.2
      go_wp2_with (fail)
      (with_reducible refine (erase_any HF9.out h).mono ?_)
      rintro e w10 ⟨rfl, hF, hO⟩
      rw [HE3.out] at hF ⊢
      have HF10 : Hid (FlAt w2 w10 L f3) := hF
      have HAY10 := Lib.hid (HAY9.out.only hO)
      clear hF hO s1 s2 hcg1 hcg2
      simp only [errV_zero]
      go_wp2_with (fail)
      (with_reducible refine (program_any HF10.out K A5 64 c5 y HAY10.out HYL.out hc5 hcm5 HYB.out).mono ?_)
      rintro e w11 ⟨rfl, hF, hO⟩
      rw [HH.out.p4] at hF ⊢
      have HF11 : Hid (FlAt w2 w11 L f4) := hF
      have HAY11 := Lib.hid (HAY10.out.only hO)
      clear hF hO HAY10 HAY9 HAY8 HAX8 HF10 HF9 HF8
      simp only [errV_zero]
      go_wp2_with (fail)
      (with_reducible refine (read_any HF11.out K).mono ?_)
      rintro e w12 ⟨v12, rfl, ho, hb12⟩
      rw [HH.out.r4] at ho ⊢
      simp only [errV_zero] at ho ⊢
      rw [HYL.out] at ho
      obtain ⟨G2, cg2, rfl, hcg1, hcg2, hrg⟩ := own_read ho
      have HRG := Lib.hid hrg
      have HF12 := Lib.hid (HF11.out.later hb12)
      have HAY12 := Lib.hid (HAY11.out.only (Only.of_below hb12))
      clear ho hrg hb12 HAY11 HF11
      go_wp2_with (fail)
      (with_reducible refine (wear_any HF12.out).mono ?_)
      rintro e w13 ⟨v13, rfl, ho, hb13⟩
      simp only [HH.out.w4.1] at ho
      obtain ⟨G3, cg3, rfl, hcg3, hcg4, hrw⟩ := own_read ho
      obtain ⟨bw, ow, rfl, _, cw⟩ := hrw.int HW4.out
      have s1 := str_of (c := cg2) (HRG.out.below hb13 (Nat.le_refl _)) HYL.out
      have s2 : (convert 23 9 (.slice A5 64 c5)).run Try.prog w13 = .ok (.string (strOfNums y)) w13 := str_of (HAY12.out.rd.below hb13 (Nat.le_refl _)) HYL.out
      have HB13 : Hid (Below w.heap.size w w13) := HB2.out.trans ((HF12.out.later hb13).below.mono HB2.out.size)
      clear ho hrw hb13 HAY12 HF12 HRG
      go_wp2
      go_ret
      exact ⟨rfl, HB13.out⟩
end Go.Proofs.Ytfeceamhlphelaa
