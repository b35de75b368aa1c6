/-
  FlashPlays.
-/
import Derived.Test.YtfeceamhlphelaaW31
namespace Go.Proofs.Ytfeceamhlphelaa
open Go.RowKit
set_option linter.unusedVariables false

set_option maxRecDepth 100000 in
theorem plays_long (a b : Int) (A : Option Addr) (n c : Nat) (l : List Ac) (w : World) (hA : Rd w w.heap.size A (acells l)) (hn : l.length = n) (hnc : n ≤ c) (hcm : c ≤ maxLen) (hok : ∀ x ∈ l, x.ok w w.heap.size) (hl : largeA l = true) :
    Calls Try.prog 8 #[.agg #[.int .i64 a, .int .i64 b], .slice A n c] w fun e w' => e = .returned (.bool true) ∧ Below w.heap.size w w' := by
  have HA := Lib.hid hA
  have HN := Lib.hid hn
  have HOK := Lib.hid hok
  have HL := Lib.hid hl
  obtain ⟨V, hV⟩ : ∃ V, w.alloc (.cells #[.int .i64 a, .int .i64 b] 22) = V := ⟨_, rfl⟩
  have HBV : Hid (Below w.heap.size w V) := by rw [← hV]; exact (Below.refl _ _).alloc (Nat.le_refl _) _
  clear hA hn hok hl
  go_enter Try.func8, Try.ntmps8
  go_wp2_with (fail)
  try rw [hV]
  clear hV
  (with_reducible refine (awake_any V).mono ?_)
  rintro e w1 ⟨rfl, hb⟩
  have HB1 : Hid (Below w.heap.size w w1) := HBV.out.trans (hb.mono HBV.out.size)
  clear hb
  go_wp2_with (fail)
  (with_reducible refine (large_any A n c l w1 ((HA.out.below HB1.out (Nat.le_refl _)).more HB1.out.size) HN.out hnc hcm (fun x hx => ac_more ((HOK.out x hx).below HB1.out (Nat.le_refl _)) HB1.out.size)).mono ?_)
  rintro e w2 ⟨rfl, hb⟩
  rw [HL.out]
  have HB2 : Hid (Below w.heap.size w w2) := HB1.out.trans (hb.mono HB1.out.size)
  clear hb
  go_wp2_with (fail)
  (with_reducible refine (awake_any w2).mono ?_)
  rintro e w3 ⟨rfl, hb⟩
  have HB3 : Hid (Below w.heap.size w w3) := HB2.out.trans (hb.mono HB2.out.size)
  clear hb
  go_wp2
  go_ret
  exact ⟨rfl, HB3.out⟩

set_option maxRecDepth 100000 in
set_option maxHeartbeats 16000000 in
theorem plays_main (a b : Int) (A : Option Addr) (n c : Nat) (l : List Ac) (w : World) (hA : Rd w w.heap.size A (acells l)) (hn : l.length = n) (hnc : n ≤ c) (hcm : c ≤ maxLen) (hok : ∀ x ∈ l, x.ok w w.heap.size) (hl : largeA l = false) :
    Calls Try.prog 8 #[.agg #[.int .i64 a, .int .i64 b], .slice A n c] w fun e w' => e = .returned (.bool true) ∧ Below w.heap.size w w' := by
  have g1 := ne_nil
  have g2 := ne_err
  have g3 := eq_nil
  have h200 : n ≤ 200 := by
    unfold largeA at hl
    rw [decide_eq_false_iff_not] at hl
    omega
  have HA := Lib.hid hA
  have HN := Lib.hid hn
  have HOK := Lib.hid hok
  have HL := Lib.hid hl
  obtain ⟨bl, hbl⟩ : ∃ K : Nat, clipI a 1 4 = K := ⟨(clipI a 1 4).toNat, by unfold clipI; omega⟩
  obtain ⟨pg, hpg⟩ : ∃ K : Nat, clipI b 1 4 = K := ⟨(clipI b 1 4).toNat, by unfold clipI; omega⟩
  have hb14 : 1 ≤ bl ∧ bl ≤ 4 := by unfold clipI at hbl; omega
  have hp14 : 1 ≤ pg ∧ pg ≤ 4 := by unfold clipI at hpg; omega
  have HBL := Lib.hid hbl
  have HPGI := Lib.hid hpg
  obtain ⟨V, hV⟩ : ∃ V, w.alloc (.cells #[.int .i64 a, .int .i64 b] 22) = V := ⟨_, rfl⟩
  have HBV : Hid (Below w.heap.size w V) := by rw [← hV]; exact (Below.refl _ _).alloc (Nat.le_refl _) _
  have HC0 : Hid (V.cell? ⟨w.heap.size, 0, none⟩ = some (.int .i64 a) ∧ V.cell? ⟨w.heap.size, 1, none⟩ = some (.int .i64 b)) := by rw [← hV]; exact ⟨cell_new_at _ _ _ _ _ _ rfl rfl, cell_new_at _ _ _ _ _ _ rfl rfl⟩
  have hgV : w.heap.size < V.heap.size := World.block_lt_of_cell? V _ HC0.out.1
  clear hA hn hok hl hbl hpg
  unfold maxLen at hcm
  go_enter Try.func8, Try.ntmps8
  go_wp2_with (fail)
  try rw [hV]
  clear hV
  (with_reducible refine (awake_any V).mono ?_)
  rintro e w1 ⟨rfl, hb⟩
  have HB1 : Hid (Below w.heap.size w w1) := HBV.out.trans (hb.mono HBV.out.size)
  have HC1 : Hid (w1.cell? ⟨w.heap.size, 0, none⟩ = some (.int .i64 a) ∧ w1.cell? ⟨w.heap.size, 1, none⟩ = some (.int .i64 b)) := ⟨(hb.cell (p := ⟨w.heap.size, 0, none⟩) hgV).trans HC0.out.1, (hb.cell (p := ⟨w.heap.size, 1, none⟩) hgV).trans HC0.out.2⟩
  have hg1 : w.heap.size < w1.heap.size := World.block_lt_of_cell? w1 _ HC1.out.1
  clear hb hgV HC0
  go_wp2_with (fail)
  (with_reducible refine (large_any A n c l w1 ((HA.out.below HB1.out (Nat.le_refl _)).more HB1.out.size) HN.out hnc (by unfold maxLen; exact hcm) (fun x hx => ac_more ((HOK.out x hx).below HB1.out (Nat.le_refl _)) HB1.out.size)).mono ?_)
  rintro e w2 ⟨rfl, hb⟩
  rw [HL.out]
  have HB2 : Hid (Below w.heap.size w w2) := HB1.out.trans (hb.mono HB1.out.size)
  have m0 : w2.cell? ⟨w.heap.size, 0, none⟩ = some (.int .i64 a) := (hb.cell (p := ⟨w.heap.size, 0, none⟩) hg1).trans HC1.out.1
  have m1 : w2.cell? ⟨w.heap.size, 1, none⟩ = some (.int .i64 b) := (hb.cell (p := ⟨w.heap.size, 1, none⟩) hg1).trans HC1.out.2
  clear hb hg1 HC1
  go_wp2_with (fail)
  (with_reducible refine (size_any a b w2).mono ?_)
  rintro e w3 ⟨rfl, hb⟩
  rw [HBL.out, HPGI.out]
  have HB3 : Hid (Below w.heap.size w w3) := HB2.out.trans (hb.mono HB2.out.size)
  clear hb m0 m1
  go_wp2_with (fail)
  (with_reducible refine (new_ok bl pg w3 hb14.1 (by omega) hp14.1 (by omega)).mono ?_)
  rintro e w4 ⟨L, rfl, hF⟩
  have HF4 := Lib.hid hF
  clear hF
  go_wp2_with (fail)
  (with_reducible refine (newR_any (X := XL L) bl pg w4 (xl_lt HF4.out) hb14.1 (by omega) hp14.1 (by omega)).mono ?_)
  rintro e w5 ⟨⟨yA, yc, yB, yd, yP, yr⟩, rfl, hr, hb⟩
  obtain ⟨NF, hNF⟩ : ∃ f, newF bl pg = f := ⟨_, rfl⟩
  rw [hNF] at HF4 hr ⊢
  have HFa : Hid (FlAt w3 (w5.alloc (.cells #[.slice yA NF.img.length yc, .int .i64 NF.pg, .slice yB NF.wear.length yd, .bool NF.down, .int .i64 NF.fuse, .slice yP NF.picks.length yr] 60)) L NF) := (HF4.out.later hb).later (below_one _ _)
  have HRa : Hid (RAt (fun k => XL L k ∨ k = w5.heap.size) (w5.alloc (.cells #[.slice yA NF.img.length yc, .int .i64 NF.pg, .slice yB NF.wear.length yd, .bool NF.down, .int .i64 NF.fuse, .slice yP NF.picks.length yr] 60)) ⟨yA, yc, yB, yd, yP, yr⟩ NF) := RAt.below (RAt.plus hr (Y := fun k => k = w5.heap.size) (fun k hk => by omega)) (below_one _ _)
  have H6a : Hid (six (w5.alloc (.cells #[.slice yA NF.img.length yc, .int .i64 NF.pg, .slice yB NF.wear.length yd, .bool NF.down, .int .i64 NF.fuse, .slice yP NF.picks.length yr] 60)) w5.heap.size (.slice yA NF.img.length yc) (.int .i64 NF.pg) (.slice yB NF.wear.length yd) (.bool NF.down) (.int .i64 NF.fuse) (.slice yP NF.picks.length yr)) := six_new _ _ _ _ _ _ _ _ _ rfl
  have H8a : Hid (NoU8 (w5.alloc (.cells #[.slice yA NF.img.length yc, .int .i64 NF.pg, .slice yB NF.wear.length yd, .bool NF.down, .int .i64 NF.fuse, .slice yP NF.picks.length yr] 60)) w5.heap.size) := noU8_new _ _ _ _ _ _ _ _ _ _ _ _ _ _
  have HG : Hid (w3.heap.size ≤ w5.heap.size ∧ ¬ XL L w5.heap.size) := ⟨Nat.le_trans HF4.out.below.size hb.size, fun h => by have := Nat.lt_of_lt_of_le (xl_lt HF4.out _ h) hb.size; omega⟩
  clear hr hb hNF
  simp only [Rc.v]
  go_upto_region 6 with (fail)
  generalize (w5.alloc (.cells #[.slice yA NF.img.length yc, .int .i64 NF.pg, .slice yB NF.wear.length yd, .bool NF.down, .int .i64 NF.fuse, .slice yP NF.picks.length yr] 60)) = V6 at *
  generalize w5.heap.size = G9 at *
  go_wp2
  go_loopw [46] (fun i wr => ∃ k : Nat, k ≤ n ∧ i = .int .i64 k ∧ ∃ Ap cp f g y, Sim f g ∧ FlAt w3 wr { L with Ap := Ap, cp := cp } f ∧ RAt (fun k => XL L k ∨ k = G9) wr y g ∧ six wr G9 (.slice y.A g.img.length y.c) (.int .i64 g.pg) (.slice y.B g.wear.length y.d) (.bool g.down) (.int .i64 g.fuse) (.slice y.P g.picks.length y.r) ∧ NoU8 wr G9) (fun i _ => n - (intOf i).toNat)
  case atStart => exact ⟨0, by omega, rfl, L.Ap, L.cp, NF, NF, ⟨yA, yc, yB, yd, yP, yr⟩, Sim.refl _, HFa.out, HRa.out, H6a.out, H8a.out⟩
  case round =>
    obtain ⟨k, hk, rfl, Ap, cp, f, g, ⟨yA, yc, yB, yd, yP, yr⟩, hsim, hF, hR, h6, h8⟩ := hrel
    have HSIM := Lib.hid hsim
    have HF := Lib.hid hF
    have HR := Lib.hid hR
    have H6 := Lib.hid h6
    have H8 := Lib.hid h8
    have HBw : Hid (Below w.heap.size w wr) := HB3.out.trans (hF.below.mono HB3.out.size)
    have hG9 : G9 < wr.heap.size := h6.lt
    clear hsim hF hR h6 h8
    by_cases hlt : k < n
    · obtain ⟨x, hx⟩ := getElem?_of_lt (l := l) (k := k) (by rw [HN.out]; exact hlt)
      have HXO0 := Lib.hid (HOK.out x (List.mem_of_getElem? hx))
      obtain ⟨ba, off, rfl, hbl', c0, c1, c2, c3, c4⟩ := (HA.out.below HBw.out (Nat.le_refl _)).ac hx
      obtain ⟨W, hW⟩ : ∃ V, wr.alloc (.cells #[.int .u8 x.k, .int .i64 x.a, .int .i64 x.n, .slice x.B x.m x.e, .slice x.P x.q x.r] 36) = V := ⟨_, rfl⟩
      have HBW : Hid (Below wr.heap.size wr W) := by rw [← hW]; exact (Below.refl _ _).alloc (Nat.le_refl _) _
      have HCW : Hid (five W wr.heap.size x) := by
        rw [← hW]
        exact ⟨cell_new_at _ _ _ _ _ _ rfl rfl, cell_new_at _ _ _ _ _ _ rfl rfl, cell_new_at _ _ _ _ _ _ rfl rfl, cell_new_at _ _ _ _ _ _ rfl rfl, cell_new_at _ _ _ _ _ _ rfl rfl⟩
      have HGD : Hid (wr.heap.size ≠ L.d ∧ wr.heap.size ≠ L.gi ∧ wr.heap.size ≠ L.gw) := by
        have h1 : L.d < wr.heap.size := HF.out.ld
        have h2 : L.gi < wr.heap.size := HF.out.bi.2
        have h3 : L.gw < wr.heap.size := HF.out.bw.2
        exact ⟨by omega, by omega, by omega⟩
      have HFW := Lib.hid (HF.out.later HBW.out)
      have HRW := Lib.hid (HR.out.below HBW.out)
      have H6W := Lib.hid (H6.out.below HBW.out hG9)
      have H8W := Lib.hid (H8.out.below HBW.out hG9)
      have hgW : wr.heap.size < W.heap.size := World.block_lt_of_cell? W _ HCW.out.1
      have hG9W : G9 < W.heap.size := H6W.out.lt
      have HX3 : Hid (x.ok W w3.heap.size) := (ac_more (HXO0.out.below HB3.out (Nat.le_refl _)) HB3.out.size).below HFW.out.below (Nat.le_refl _)
      obtain ⟨k0, k1, k2, k3, k4⟩ := HCW.out
      clear hx
      go_wp2_with (fail)
      try rw [hW]
      clear hW c0 c1 c2 c3 c4 k0 k1 k2 k3 k4
      (with_reducible refine (do_any HFW.out x HX3.out).mono ?_)
      rintro e w6 ⟨v6, rfl, ⟨Ap6, cp6, hF6⟩, hO6, A6, n6, c6, rfl, hl6, hc61, hc62, hr6⟩
      have HO6 : Hid (Only L W w6) := hO6.same rfl rfl rfl
      have HF6 := Lib.hid hF6
      have HR6 : Hid (RAt (fun k => XL L k ∨ k = G9) w6 ⟨yA, yc, yB, yd, yP, yr⟩ g) := HRW.out.only ⟨.inl (.inl rfl), .inl (.inr (.inl rfl)), .inl (.inr (.inr rfl))⟩ HO6.out
      have k6 : ∀ j, w6.cell? ⟨G9, j, none⟩ = W.cell? ⟨G9, j, none⟩ := fun j => cell_of_block (HO6.out.block G9 hG9W (fun e => HG.out.2 (.inl e)) (fun e => HG.out.2 (.inr (.inl e))) (fun e => HG.out.2 (.inr (.inr e))))
      have H66 : Hid (six w6 G9 (.slice yA g.img.length yc) (.int .i64 g.pg) (.slice yB g.wear.length yd) (.bool g.down) (.int .i64 g.fuse) (.slice yP g.picks.length yr)) := by
        have hblk := HO6.out.block G9 hG9W (fun e => HG.out.2 (.inl e)) (fun e => HG.out.2 (.inr (.inl e))) (fun e => HG.out.2 (.inr (.inr e)))
        obtain ⟨s0, s1, s2, s3, s4, s5, s6⟩ := H6W.out
        exact ⟨(k6 0).trans s0, (k6 1).trans s1, (k6 2).trans s2, (k6 3).trans s3, (k6 4).trans s4, (k6 5).trans s5, fun j => by simp only [World.frozen?, hblk]; exact s6 j⟩
      have H86 : Hid (NoU8 w6 G9) := H8W.out.only HO6.out hG9W HG.out.2
      have HC6 : Hid (five w6 wr.heap.size x) := by
        have kk : ∀ i, w6.cell? ⟨wr.heap.size, i, none⟩ = W.cell? ⟨wr.heap.size, i, none⟩ := fun i => cell_of_block (HO6.out.block _ hgW HGD.out.1 HGD.out.2.1 HGD.out.2.2)
        exact ⟨(kk 0).trans HCW.out.1, (kk 1).trans HCW.out.2.1, (kk 2).trans HCW.out.2.2.1, (kk 3).trans HCW.out.2.2.2.1, (kk 4).trans HCW.out.2.2.2.2⟩
      have HBw6 : Hid (Below w.heap.size w w6) := HB3.out.trans (HF6.out.below.mono HB3.out.size)
      have HX6 : Hid (x.ok w6 w6.heap.size) := ac_more (HXO0.out.below HBw6.out (Nat.le_refl _)) HBw6.out.size
      have HSD := Lib.hid (sim_does HSIM.out x HXO0.out.k0)
      have HL6 := Lib.hid hl6
      have HR8 : Hid (RdX (fun k => k = G9) w6 A6 (kcells .u8 (x.does f).2.2)) := rd_no8 hr6 (Nat.le_refl _) H86.out
      have HXX : Hid (∀ b, (XL L b ∨ b = G9) → b < w6.heap.size) := fun b hb => hb.elim (fun h => xl_lt HF6.out b h) (fun h => by rw [h]; exact H66.out.lt)
      obtain ⟨k0, k1, k2, k3, k4⟩ := HC6.out
      obtain ⟨s0, s1, s2, s3, s4, s5, _⟩ := H66.out
      have hg9 : G9 < w6.heap.size := H66.out.lt
      clear hF6 hO6 hl6 hr6 k6
      go_wp2_with (fail)
      clear k0 k1 k2 k3 k4 s0 s1 s2 s3 s4 s5
      (with_reducible refine (nextR_any HR6.out HXX.out x HX6.out).mono ?_)
      rintro e w7 hN7
      obtain ⟨⟨zA, zc, zB, zd, zP, zr⟩, A7, n7, c7, rfl, hl7, hc71, hc72, hr7, hR7, hb7⟩ := hN7
      rw [HSD.out.1] at hl7 hr7 ⊢
      have hn67 : n7 = n6 := by rw [← hl7, ← HL6.out]
      subst hn67
      obtain ⟨g', hg'⟩ : ∃ g', (x.nexts g).1 = g' := ⟨_, rfl⟩
      obtain ⟨f', hf'⟩ : ∃ f', (x.does f).1 = f' := ⟨_, rfl⟩
      obtain ⟨ct, hct⟩ : ∃ c, (x.does f).2.1 = c := ⟨_, rfl⟩
      obtain ⟨bt, hbt⟩ : ∃ c, (x.does f).2.2 = c := ⟨_, rfl⟩
      have HS2 := Lib.hid HSD.out.2
      rw [hg'] at hR7 HS2 ⊢
      rw [hf'] at HF6 HS2
      rw [hct]
      rw [hbt] at hr7 HR8 HL6
      have HR7 := Lib.hid hR7
      have HF7 := Lib.hid (HF6.out.later hb7)
      have H67 := Lib.hid (H66.out.below hb7 hg9)
      have H87 := Lib.hid (H86.out.below hb7 hg9)
      have HA6 := Lib.hid (HR8.out.below hb7)
      have HA7 := Lib.hid hr7
      obtain ⟨V7, hV7⟩ : ∃ V, put6 w7 G9 (.slice zA g'.img.length zc) (.int .i64 g'.pg) (.slice zB g'.wear.length zd) (.bool g'.down) (.int .i64 g'.fuse) (.slice zP g'.picks.length zr) = V := ⟨_, rfl⟩
      have HF8 : Hid (FlAt w3 V7 { L with Ap := Ap6, cp := cp6 } f') := by rw [← hV7]; exact flat_puts HF7.out HG.out.1 HG.out.2 H87.out H67.out _ _ _ _ _ _ _ _ _ _ _ _
      have HR8' : Hid (RAt (fun k => XL L k ∨ k = G9) V7 ⟨zA, zc, zB, zd, zP, zr⟩ g') := by rw [← hV7]; exact HR7.out.put6 (.inr rfl) _ _ _ _ _ _
      have H68 : Hid (six V7 G9 (.slice zA g'.img.length zc) (.int .i64 g'.pg) (.slice zB g'.wear.length zd) (.bool g'.down) (.int .i64 g'.fuse) (.slice zP g'.picks.length zr)) := by rw [← hV7]; exact H67.out.put _ _ _ _ _ _
      have H88 : Hid (NoU8 V7 G9) := by rw [← hV7]; exact H87.out.put H67.out _ _ _ _ _ _ _ _ _ _ _ _
      have HA68 : Hid (RdX (fun k => k = G9) V7 A6 (kcells .u8 bt)) := by rw [← hV7]; exact HA6.out.put6 rfl _ _ _ _ _ _
      have HA78 : Hid (RdX (fun k => XL L k ∨ k = G9) V7 A7 (kcells .u8 bt)) := by rw [← hV7]; exact HA7.out.put6 (.inr rfl) _ _ _ _ _ _
      have t1 : ∀ o, (convert 23 9 (.slice A6 n7 c6)).run Try.prog (V7.alloc o) = .ok (.string (strOfNums bt)) (V7.alloc o) := fun o => str_of (HA68.out.below (below_one _ o)).rd HL6.out
      have t2 : ∀ o, (convert 23 9 (.slice A7 n7 c7)).run Try.prog (V7.alloc o) = .ok (.string (strOfNums bt)) (V7.alloc o) := fun o => str_of (HA78.out.below (below_one _ o)).rd HL6.out
      have hg97 : G9 < w7.heap.size := H67.out.lt
      unfold put6 at hV7
      obtain ⟨b0, b1, b2, b3, b4, b5, b6⟩ := H67.out
      have e0 := b6 0
      have e1 := b6 1
      have e2 := b6 2
      have e3 := b6 3
      have e4 := b6 4
      have e5 := b6 5
      have hg98 : G9 < V7.heap.size := H68.out.lt
      have d0 : ∀ o, (V7.alloc o).cell? ⟨G9, 0, none⟩ = some (.slice zA g'.img.length zc) := fun o => ((below_one V7 o).cell (p := ⟨G9, 0, none⟩) hg98).trans H68.out.1
      have d1 : ∀ o, (V7.alloc o).cell? ⟨G9, 1, none⟩ = some (.int .i64 g'.pg) := fun o => ((below_one V7 o).cell (p := ⟨G9, 1, none⟩) hg98).trans H68.out.2.1
      have d2 : ∀ o, (V7.alloc o).cell? ⟨G9, 2, none⟩ = some (.slice zB g'.wear.length zd) := fun o => ((below_one V7 o).cell (p := ⟨G9, 2, none⟩) hg98).trans H68.out.2.2.1
      have d3 : ∀ o, (V7.alloc o).cell? ⟨G9, 3, none⟩ = some (.bool g'.down) := fun o => ((below_one V7 o).cell (p := ⟨G9, 3, none⟩) hg98).trans H68.out.2.2.2.1
      have d4 : ∀ o, (V7.alloc o).cell? ⟨G9, 4, none⟩ = some (.int .i64 g'.fuse) := fun o => ((below_one V7 o).cell (p := ⟨G9, 4, none⟩) hg98).trans H68.out.2.2.2.2.1
      have d5 : ∀ o, (V7.alloc o).cell? ⟨G9, 5, none⟩ = some (.slice zP g'.picks.length zr) := fun o => ((below_one V7 o).cell (p := ⟨G9, 5, none⟩) hg98).trans H68.out.2.2.2.2.2.1
      clear hl7 hr7 hR7 hb7 hg' hf' hct hbt b6 HSD HSIM
      simp only [Rc.v]
      go_wp2_with (fail)
      clear d0 d1 d2 d3 d4 d5 t1 t2 b0 b1 b2 b3 b4 b5 e0 e1 e2 e3 e4 e5
      (with_reducible refine (same_any (HF8.out.later (below_one _ _)) (HR8'.out.below (below_one _ _)) HS2.out).mono ?_)
      rintro e w9 ⟨rfl, hb9⟩
      have HB78 := below_one V7 (.cells #[.slice zA g'.img.length zc, .int .i64 g'.pg, .slice zB g'.wear.length zd, .bool g'.down, .int .i64 g'.fuse, .slice zP g'.picks.length zr] 60)
      have HB9 : Hid (Below V7.heap.size V7 w9) := HB78.trans (hb9.mono HB78.size)
      have HF9 := Lib.hid (HF8.out.later HB9.out)
      have HR9 := Lib.hid (HR8'.out.below HB9.out)
      have H69 := Lib.hid (H68.out.below HB9.out hg98)
      have H89 := Lib.hid (H88.out.below HB9.out hg98)
      clear hb9 HB78
      go_wp2
      go_roundw
      case rel => exact ⟨k + 1, by omega, by go_num, Ap6, cp6, f', g', ⟨zA, zc, zB, zd, zP, zr⟩, HS2.out, HF9.out, HR9.out, H69.out, H89.out⟩
      case measure => simp [intOf]; omega
    · go_wp2
      go_ret
      exact ⟨rfl, HBw.out⟩
end Go.Proofs.Ytfeceamhlphelaa
