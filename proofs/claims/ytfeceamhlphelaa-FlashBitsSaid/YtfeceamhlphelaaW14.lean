/-
  FlashBits.
-/
import Derived.Test.YtfeceamhlphelaaW13
import Derived.Test.YtfeceamhlphelaaPlainB
namespace Go.Proofs.Ytfeceamhlphelaa
open Go.RowKit
set_option linter.unusedVariables false

theorem wrap64_id {x : Int} (h1 : -9223372036854775808 ≤ x) (h2 : x < 9223372036854775808) : wrap64 x = x := by unfold wrap64; omega

theorem wrap64_nat {n : Nat} (h : n ≤ 1024) : wrap64 (n : Int) = n := wrap64_id (by omega) (by omega)

theorem Ac.ok.more {x : Ac} {w : World} {B0 B1 : Nat} (h : x.ok w B0) (hB : B0 ≤ B1) : x.ok w B1 :=
  ⟨h.rb.more hB, h.lb, h.mb, h.cb, h.bb, h.rp.more hB, h.lp, h.mp, h.cp, h.bp, h.sq, h.k0, h.k1, h.wa, h.wn⟩

set_option maxRecDepth 100000 in
theorem bits_long (a b : Int) (A : Option Addr) (n c : Nat) (l : List Ac) (w : World) (hA : Rd w w.heap.size A (acells l)) (hn : l.length = n) (hnc : n ≤ c) (hcm : c ≤ maxLen) (hok : ∀ x ∈ l, x.ok w w.heap.size) (hl : largeA l = true) :
    Calls Try.prog 5 #[.agg #[.int .i64 a, .int .i64 b], .slice A n c] w fun e w' => e = .returned (.bool true) ∧ Below w.heap.size w w' := by
  have HA := Lib.hid hA
  have HN := Lib.hid hn
  have HOK := Lib.hid hok
  have HL := Lib.hid hl
  obtain ⟨V, hV⟩ : ∃ V, w.alloc (.cells #[.int .i64 a, .int .i64 b] 22) = V := ⟨_, rfl⟩
  have HBV : Hid (Below w.heap.size w V) := by rw [← hV]; exact (Below.refl _ _).alloc (Nat.le_refl _) _
  clear hA hn hok hl
  go_enter Try.func5, Try.ntmps5
  go_wp2_with (fail)
  try rw [hV]
  clear hV
  (with_reducible refine (awake_any V).mono ?_)
  rintro e w1 ⟨rfl, hb⟩
  have HB1 : Hid (Below w.heap.size w w1) := HBV.out.trans (hb.mono HBV.out.size)
  clear hb
  go_wp2_with (fail)
  (with_reducible refine (large_any A n c l w1 ((HA.out.below HB1.out (Nat.le_refl _)).more HB1.out.size) HN.out hnc hcm (fun x hx => ((HOK.out x hx).below HB1.out (Nat.le_refl _)).more HB1.out.size)).mono ?_)
  rintro e w2 ⟨rfl, hb⟩
  rw [HL.out]
  have HB2 : Hid (Below w.heap.size w w2) := HB1.out.trans (hb.mono HB1.out.size)
  clear hb
  go_wp2_with (fail)
  (with_reducible refine (awake_any w2).mono ?_)
  rintro e w3 ⟨rfl, hb⟩
  have HB3 : Hid (Below w.heap.size w w3) := HB2.out.trans (hb.mono HB2.out.size)
  clear hb
  go_wp2
  go_ret
  exact ⟨rfl, HB3.out⟩

set_option maxRecDepth 100000 in
set_option maxHeartbeats 16000000 in
theorem bits_main (a b : Int) (A : Option Addr) (n c : Nat) (l : List Ac) (w : World) (hA : Rd w w.heap.size A (acells l)) (hn : l.length = n) (hnc : n ≤ c) (hcm : c ≤ maxLen) (hok : ∀ x ∈ l, x.ok w w.heap.size) (hl : largeA l = false) :
    Calls Try.prog 5 #[.agg #[.int .i64 a, .int .i64 b], .slice A n c] w fun e w' => e = .returned (.bool true) ∧ Below w.heap.size w w' := by
  have g1 := ne_nil
  have g2 := ne_err
  have g3 := eq_nil
  have h200 : n ≤ 200 := by
    unfold largeA at hl
    rw [decide_eq_false_iff_not] at hl
    omega
  have HA := Lib.hid hA
  have HN := Lib.hid hn
  have HOK := Lib.hid hok
  have HL := Lib.hid hl
  obtain ⟨bl, hbl⟩ : ∃ K : Nat, clipI a 1 4 = K := ⟨(clipI a 1 4).toNat, by unfold clipI; omega⟩
  obtain ⟨pg, hpg⟩ : ∃ K : Nat, clipI b 1 4 = K := ⟨(clipI b 1 4).toNat, by unfold clipI; omega⟩
  have hb14 : 1 ≤ bl ∧ bl ≤ 4 := by unfold clipI at hbl; omega
  have hp14 : 1 ≤ pg ∧ pg ≤ 4 := by unfold clipI at hpg; omega
  have HBL := Lib.hid hbl
  have HPGI := Lib.hid hpg
  obtain ⟨X, hX⟩ : ∃ X : Nat, 64 * bl = X := ⟨_, rfl⟩
  have x1 : (64 : Int) * (bl : Int) = (X : Int) := by omega
  obtain ⟨NN, hNN⟩ : ∃ NN : Nat, bl * pg * 64 = NN := ⟨_, rfl⟩
  have HNN := Lib.hid hNN
  have hNb : 64 ≤ NN ∧ NN ≤ 1024 := by
    have h1 := Nat.mul_le_mul hb14.1 hp14.1
    have h2 := Nat.mul_le_mul hb14.2 hp14.2
    omega
  have x2 : (X : Int) * (pg : Int) = (NN : Int) := by
    have : X * pg = NN := by rw [← hX, ← hNN, Nat.mul_assoc, Nat.mul_comm 64]
    rw [← this]; push_cast; rfl
  obtain ⟨M, hM⟩ : ∃ M : Nat, 64 * pg = M := ⟨_, rfl⟩
  have x3 : (64 : Int) * (pg : Int) = (M : Int) := by omega
  have hMb : 64 ≤ M ∧ M ≤ 256 := by omega
  have x4 : ((M : Int) == 0) = false := by simp; omega
  have hXb : X ≤ 256 := by omega
  have HM := Lib.hid hM
  obtain ⟨V, hV⟩ : ∃ V, w.alloc (.cells #[.int .i64 a, .int .i64 b] 22) = V := ⟨_, rfl⟩
  have HBV : Hid (Below w.heap.size w V) := by rw [← hV]; exact (Below.refl _ _).alloc (Nat.le_refl _) _
  have HC0 : Hid (V.cell? ⟨w.heap.size, 0, none⟩ = some (.int .i64 a) ∧ V.cell? ⟨w.heap.size, 1, none⟩ = some (.int .i64 b)) := by rw [← hV]; exact ⟨cell_new_at _ _ _ _ _ _ rfl rfl, cell_new_at _ _ _ _ _ _ rfl rfl⟩
  have hgV : w.heap.size < V.heap.size := World.block_lt_of_cell? V _ HC0.out.1
  clear hA hn hok hl hbl hpg hX hNN hM
  unfold maxLen at hcm
  go_enter Try.func5, Try.ntmps5
  go_wp2_with (fail)
  try rw [hV]
  clear hV
  (with_reducible refine (awake_any V).mono ?_)
  rintro e w1 ⟨rfl, hb⟩
  have HB1 : Hid (Below w.heap.size w w1) := HBV.out.trans (hb.mono HBV.out.size)
  have HC1 : Hid (w1.cell? ⟨w.heap.size, 0, none⟩ = some (.int .i64 a) ∧ w1.cell? ⟨w.heap.size, 1, none⟩ = some (.int .i64 b)) := ⟨(hb.cell (p := ⟨w.heap.size, 0, none⟩) hgV).trans HC0.out.1, (hb.cell (p := ⟨w.heap.size, 1, none⟩) hgV).trans HC0.out.2⟩
  have hg1 : w.heap.size < w1.heap.size := World.block_lt_of_cell? w1 _ HC1.out.1
  clear hb hgV HC0
  go_wp2_with (fail)
  (with_reducible refine (large_any A n c l w1 ((HA.out.below HB1.out (Nat.le_refl _)).more HB1.out.size) HN.out hnc (by unfold maxLen; exact hcm) (fun x hx => ((HOK.out x hx).below HB1.out (Nat.le_refl _)).more HB1.out.size)).mono ?_)
  rintro e w2 ⟨rfl, hb⟩
  rw [HL.out]
  have HB2 : Hid (Below w.heap.size w w2) := HB1.out.trans (hb.mono HB1.out.size)
  have m0 : w2.cell? ⟨w.heap.size, 0, none⟩ = some (.int .i64 a) := (hb.cell (p := ⟨w.heap.size, 0, none⟩) hg1).trans HC1.out.1
  have m1 : w2.cell? ⟨w.heap.size, 1, none⟩ = some (.int .i64 b) := (hb.cell (p := ⟨w.heap.size, 1, none⟩) hg1).trans HC1.out.2
  clear hb hg1 HC1
  go_wp2_with (fail)
  (with_reducible refine (size_any a b w2).mono ?_)
  rintro e w3 ⟨rfl, hb⟩
  rw [HBL.out, HPGI.out]
  have HB3 : Hid (Below w.heap.size w w3) := HB2.out.trans (hb.mono HB2.out.size)
  clear hb m0 m1
  go_wp2_with (fail)
  (with_reducible refine (new_ok bl pg w3 hb14.1 (by omega) hp14.1 (by omega)).mono ?_)
  rintro e w4 ⟨L, rfl, hF⟩
  have HF4 := Lib.hid hF
  clear hF
  go_wp2
  go_loopw [37] (fun i wr => ∃ k : Nat, k ≤ n ∧ i = .int .i64 k ∧ ∃ Ap cp f, f.pg = pg ∧ f.wear.length = bl ∧ FlAt w3 wr { L with Ap := Ap, cp := cp } f) (fun i _ => n - (intOf i).toNat)
  case atStart => exact ⟨0, by omega, rfl, L.Ap, L.cp, newF bl pg, rfl, by simp [newF], HF4.out⟩
  case round =>
    obtain ⟨k, hk, rfl, Ap, cp, f, hpgf, hblf, hF⟩ := hrel
    have HF := Lib.hid hF
    have HBw : Hid (Below w.heap.size w wr) := HB3.out.trans (hF.below.mono HB3.out.size)
    have HPG := Lib.hid hpgf
    have HBLF := Lib.hid hblf
    clear hF hpgf hblf
    by_cases hlt : k < n
    · obtain ⟨x, hx⟩ := getElem?_of_lt (l := l) (k := k) (by rw [HN.out]; exact hlt)
      have HXO0 := Lib.hid (HOK.out x (List.mem_of_getElem? hx))
      obtain ⟨ba, off, rfl, hbl', c0, c1, c2, c3, c4⟩ := (HA.out.below HBw.out (Nat.le_refl _)).ac hx
      have HXB : Hid (Bytes x.b) := HXO0.out.bb
      have hk0 := HXO0.out.k0
      have hk1 := HXO0.out.k1
      obtain ⟨k6, hk6⟩ : ∃ j : Int, x.k % 6 = j := ⟨_, rfl⟩
      have HK6 := Lib.hid hk6
      have hk6t : x.k.tmod 6 = k6 := by rw [Int.tmod_eq_emod_of_nonneg hk0]; exact hk6
      have hk6b : 0 ≤ k6 ∧ k6 < 6 := by omega
      obtain ⟨W, hW⟩ : ∃ V, wr.alloc (.cells #[.int .u8 x.k, .int .i64 x.a, .int .i64 x.n, .slice x.B x.m x.e, .slice x.P x.q x.r] 36) = V := ⟨_, rfl⟩
      have HBW : Hid (Below wr.heap.size wr W) := by rw [← hW]; exact (Below.refl _ _).alloc (Nat.le_refl _) _
      have HCW : Hid (W.cell? ⟨wr.heap.size, 0, none⟩ = some (.int .u8 x.k) ∧ W.cell? ⟨wr.heap.size, 1, none⟩ = some (.int .i64 x.a) ∧ W.cell? ⟨wr.heap.size, 2, none⟩ = some (.int .i64 x.n) ∧ W.cell? ⟨wr.heap.size, 3, none⟩ = some (.slice x.B x.m x.e) ∧ W.cell? ⟨wr.heap.size, 4, none⟩ = some (.slice x.P x.q x.r)) := by
        rw [← hW]
        exact ⟨cell_new_at _ _ _ _ _ _ rfl rfl, cell_new_at _ _ _ _ _ _ rfl rfl, cell_new_at _ _ _ _ _ _ rfl rfl, cell_new_at _ _ _ _ _ _ rfl rfl, cell_new_at _ _ _ _ _ _ rfl rfl⟩
      have hgd : wr.heap.size ≠ L.d ∧ wr.heap.size ≠ L.gi ∧ wr.heap.size ≠ L.gw := by
        have h1 : L.d < wr.heap.size := HF.out.ld
        have h2 : L.gi < wr.heap.size := HF.out.bi.2
        have h3 : L.gw < wr.heap.size := HF.out.bw.2
        exact ⟨by omega, by omega, by omega⟩
      have HGD := Lib.hid hgd
      have HFW := Lib.hid (HF.out.later HBW.out)
      have hgW : wr.heap.size < W.heap.size := World.block_lt_of_cell? W _ HCW.out.1
      have HOKF : Hid f.ok := HF.out.ok
      have HN1 : Hid (f.img.length = NN) := by rw [Hid, HOKF.out.len, HPG.out, HBLF.out]; exact HNN.out
      clear hx hk6 hgd
      go_wp2_with (fail)
      try rw [hW]
      clear hW c0 c1 c2 c3 c4
      (with_reducible refine (image_any HFW.out).mono ?_)
      rintro e w5 ⟨v5, rfl, ho, hb5⟩
      obtain ⟨A1, q1c, rfl, ha1, ha2, _⟩ := own_read ho
      have HAP5 := Lib.hid ((apart_own HFW.out (by rw [kcells_length]) ho))
      have HF5 := Lib.hid (HFW.out.later hb5)
      have hcell5 : ∀ i, w5.cell? ⟨wr.heap.size, i, none⟩ = W.cell? ⟨wr.heap.size, i, none⟩ := fun i => hb5.cell (p := ⟨wr.heap.size, i, none⟩) hgW
      have n0 := (hcell5 0).trans HCW.out.1
      have n1 := (hcell5 1).trans HCW.out.2.1
      have n2 := (hcell5 2).trans HCW.out.2.2.1
      have n3 := (hcell5 3).trans HCW.out.2.2.2.1
      have n4 := (hcell5 4).trans HCW.out.2.2.2.2
      have hg5 : wr.heap.size < w5.heap.size := World.block_lt_of_cell? w5 _ n0
      have HXO5 : Hid (x.ok w5 w3.heap.size) := (((HXO0.out.below HB3.out (Nat.le_refl _)).more HB3.out.size).below HF5.out.below (Nat.le_refl _))
      rw [HN1.out] at ha1 ⊢
      clear ho hb5 hcell5 hgW
      unfold maxLen at ha2
      go_wp2_with (fail)
      (with_reducible refine (do_any HF5.out x HXO5.out).mono ?_)
      rintro e w6 ⟨v6, rfl, ⟨Ap6, cp6, hF6⟩, hO6, A6, n6, c6, rfl, _, _, _, _⟩
      have HF6 := Lib.hid hF6
      have HAP6 := Lib.hid (HAP5.out.only hO6)
      have hcell6 : ∀ i, w6.cell? ⟨wr.heap.size, i, none⟩ = w5.cell? ⟨wr.heap.size, i, none⟩ := fun i => cell_of_block (hO6.block _ hg5 HGD.out.1 HGD.out.2.1 HGD.out.2.2)
      have p0 := (hcell6 0).trans n0
      have p1 := (hcell6 1).trans n1
      have p2 := (hcell6 2).trans n2
      have p3 := (hcell6 3).trans n3
      have p4 := (hcell6 4).trans n4
      have hg6 : wr.heap.size < w6.heap.size := World.block_lt_of_cell? w6 _ p0
      obtain ⟨s1, s2⟩ := does_same x f
      rw [HPG.out] at s1
      rw [HBLF.out] at s2
      have HN2 : Hid ((x.does f).1.img.length = NN) := by rw [Hid, HF6.out.ok.len, s1, s2]; exact HNN.out
      have HS1 := Lib.hid s1
      have HS2 := Lib.hid s2
      clear hF6 hO6 hcell6 n0 n1 n2 n3 n4 hg5 HAP5 s1 s2 HXO5 HF5
      go_wp2_with (fail)
      (with_reducible refine (image_any HF6.out).mono ?_)
      rintro e w7 ⟨v7, rfl, ho, hb7⟩
      obtain ⟨A2, q2c, rfl, hd1, hd2, hr2⟩ := own_read ho
      have HR27 := Lib.hid hr2
      have HR17 : Hid (Rd w7 w7.heap.size A1 (kcells .u8 f.img)) := (HAP6.out.rd.below hb7 (Nat.le_refl _)).more hb7.size
      have HF7 := Lib.hid (HF6.out.later hb7)
      have hcell7 : ∀ i, w7.cell? ⟨wr.heap.size, i, none⟩ = w6.cell? ⟨wr.heap.size, i, none⟩ := fun i => hb7.cell (p := ⟨wr.heap.size, i, none⟩) hg6
      have r0 := (hcell7 0).trans p0
      have r1 := (hcell7 1).trans p1
      have r2 := (hcell7 2).trans p2
      have r3 := (hcell7 3).trans p3
      have r4 := (hcell7 4).trans p4
      have hg7 : wr.heap.size < w7.heap.size := World.block_lt_of_cell? w7 _ r0
      have HXO7 : Hid (x.ok w7 w3.heap.size) := (((HXO0.out.below HB3.out (Nat.le_refl _)).more HB3.out.size).below HF7.out.below (Nat.le_refl _))
      rw [HN2.out] at hd1 ⊢
      clear ho hb7 hr2 hcell7 p0 p1 p2 p3 p4 hg6 HAP6 HF6
      unfold maxLen at hd2
      go_wp2_with (fail)
      (with_reducible refine (page_apart HF7.out x.k x.a x.n x.B x.m x.e x.b x.P x.q x.r HXO7.out.rb HXO7.out.lb HXO7.out.mb HXO7.out.cb HXO7.out.bb).mono ?_)
      rintro e w8 ⟨A3, m', q3c, rfl, hpl, hpc, hpm, hb8, hap⟩
      have HPL := Lib.hid hpl
      have HR3 : Hid (Rd w8 w8.heap.size A3 (kcells .u8 (page0 x.n x.b))) := hap.rd
      have HR2 : Hid (Rd w8 w8.heap.size A2 (kcells .u8 (x.does f).1.img)) := (HR27.out.below hb8 (Nat.le_refl _)).more hb8.size
      have HR1 : Hid (Rd w8 w8.heap.size A1 (kcells .u8 f.img)) := (HR17.out.below hb8 (Nat.le_refl _)).more hb8.size
      have HF8 := Lib.hid (HF7.out.later hb8)
      have HX8 : Hid (w8.cell? ⟨wr.heap.size, 0, none⟩ = some (.int .u8 x.k) ∧ w8.cell? ⟨wr.heap.size, 1, none⟩ = some (.int .i64 x.a)) := ⟨(hb8.cell (p := ⟨wr.heap.size, 0, none⟩) hg7).trans r0, (hb8.cell (p := ⟨wr.heap.size, 1, none⟩) hg7).trans r1⟩
      have hg8 : wr.heap.size < w8.heap.size := World.block_lt_of_cell? w8 _ HX8.out.1
      clear hpl hap hb8 r0 r1 r2 r3 r4 hg7 HR17 HR27 HF7 HXO7 HXO0 HGD HFW HCW HF4 HF HBW
      unfold maxLen at hpm
      generalize wr.heap.size = g at *
      go_wp2
      go_loopw [66] (fun i wr2 => ∃ j : Nat, j ≤ NN ∧ i = .int .i64 j ∧ Below w8.heap.size w8 wr2) (fun i _ => NN - (intOf i).toNat)
      case atStart => exact ⟨0, by omega, rfl, Below.refl _ _⟩
      case round =>
        obtain ⟨j, hj, rfl, hB2⟩ := hrel
        have HB2 := Lib.hid hB2
        clear hB2
        by_cases hltj : j < NN
        · skip
          obtain ⟨y, hy⟩ := getElem?_of_lt (l := f.img) (k := j) (by rw [HN1.out]; exact hltj)
          obtain ⟨z, hz⟩ := getElem?_of_lt (l := (x.does f).1.img) (k := j) (by rw [HN2.out]; exact hltj)
          obtain ⟨b1, o1, rfl, _, c0⟩ := (HR1.out.below HB2.out (Nat.le_refl _)).kint hy
          obtain ⟨b2, o2, rfl, _, c1⟩ := (HR2.out.below HB2.out (Nat.le_refl _)).kint hz
          have HBT := Lib.hid (does_bits HOKF.out x HXB.out hk0 hy hz)
          rw [HPG.out] at HBT
          have d0 := (HB2.out.cell (p := ⟨g, 0, none⟩) hg8).trans HX8.out.1
          have d1 := (HB2.out.cell (p := ⟨g, 1, none⟩) hg8).trans HX8.out.2
          have q1 : (j : Int) / 64 = ((j / 64 : Nat) : Int) := by push_cast; rfl
          have q2 : (j : Int).tdiv 64 = ((j / 64 : Nat) : Int) := by rw [Int.tdiv_eq_ediv_of_nonneg (by omega)]; exact q1
          have q3 : (j : Int) % 64 = ((j % 64 : Nat) : Int) := by push_cast; rfl
          have q4 : (j : Int).tmod 64 = ((j % 64 : Nat) : Int) := by rw [Int.tmod_eq_emod_of_nonneg (by omega)]; exact q3
          have q5 : (j : Int) / (M : Int) = ((j / M : Nat) : Int) := by push_cast; rfl
          have q6 : (j : Int).tdiv (M : Int) = ((j / M : Nat) : Int) := by rw [Int.tdiv_eq_ediv_of_nonneg (by omega)]; exact q5
          have hjm : j % 64 < 64 := Nat.mod_lt _ (by omega)
          have hj64b : j / 64 ≤ 1024 := Nat.le_trans (Nat.div_le_self _ _) (by omega)
          have hjMb : j / M ≤ 1024 := Nat.le_trans (Nat.div_le_self _ _) (by omega)
          have hjMw := wrap64_nat hjMb
          rw [HM.out] at HBT
          generalize j / 64 = j64 at *
          generalize hjmm : j % 64 = jm at *
          generalize j / M = jM at *
          by_cases k2 : k6 < 2
          · have HC := Lib.hid (HBT.out.1 (by rw [HK6.out]; exact k2))
            have k2' : (k6 == 2) = false := by simp; omega
            by_cases e3 : z = y
            · subst e3
              by_cases e1 : (j64 : Int) = x.a
              · have e1t : ((j64 : Int) == x.a) = true := by simpa using e1
                by_cases e2 : m' = 64
                · have e2t : ((m' : Int) == 64) = true := by simp; omega
                  clear HC e1
                  clear hy hz HBT
                  go_wp2
                  go_quiet (fail)
                  go_wp2
                  go_quiet (fail)
                  go_wp2
                  go_quiet (fail)
                  go_wp2
                  go_roundw
                  case rel => exact ⟨j + 1, by omega, by go_num, (Below.drewN HB2.out _)⟩
                  case measure => simp [intOf]; omega
                · have e2t : ((m' : Int) == 64) = false := by simp; omega
                  clear HC e1
                  clear hy hz HBT
                  go_wp2
                  go_quiet (fail)
                  go_wp2
                  go_quiet (fail)
                  go_wp2
                  go_quiet (fail)
                  go_wp2
                  go_roundw
                  case rel => exact ⟨j + 1, by omega, by go_num, (Below.drewN HB2.out _)⟩
                  case measure => simp [intOf]; omega
              · have e1t : ((j64 : Int) == x.a) = false := by simpa using e1
                clear HC e1
                clear hy hz HBT
                go_wp2
                go_quiet (fail)
                go_wp2
                go_quiet (fail)
                go_wp2
                go_quiet (fail)
                go_wp2
                go_roundw
                case rel => exact ⟨j + 1, by omega, by go_num, (Below.drewN HB2.out _)⟩
                case measure => simp [intOf]; omega
            · obtain ⟨e1, e2, e4, e5⟩ := HC.out.resolve_left e3
              have e1t : ((j64 : Int) == x.a) = true := by simpa using e1
              have e2' : m' = 64 := by rw [← HPL.out]; exact e2
              subst e2'
              subst e4
              have e3t : (z != 255) = true := by simpa using e3
              obtain ⟨t, ht⟩ := getElem?_of_lt (l := page0 x.n x.b) (k := jm) (by rw [HPL.out]; exact hjm)
              have e6 := e5 t ht
              unfold andB at e6
              have e7 : (bits .and .u8 z t != t) = false := by rw [e6]; simp
              obtain ⟨b3, o3, rfl, _, c2⟩ := (HR3.out.below HB2.out (Nat.le_refl _)).kint ht
              clear HC e1 e5 ht e6
              clear hy hz HBT
              go_wp2
              go_quiet (fail)
              go_wp2
              go_quiet (fail)
              go_wp2
              go_roundw
              case rel => exact ⟨j + 1, by omega, by go_num, (Below.drewN HB2.out _)⟩
              case measure => simp [intOf]; omega
          · have k2t : decide (k6 < 2) = false := by simp; omega
            by_cases k3 : k6 = 2
            · have HC := HBT.out.2.1 (by rw [HK6.out]; exact k3)
              have k3t : (k6 == 2) = true := by simpa using k3
              by_cases e1 : (jM : Int) = x.a
              · have e1t : ((jM : Int) == x.a) = true := by simpa using e1
                rw [if_pos e1] at HC
                unfold andB at HC
                have e7 : (bits .and .u8 z y != y) = false := by rw [HC]; simp
                clear HC e1 k3
                clear hy hz HBT
                go_wp2
                go_quiet (fail)
                go_wp2
                go_quiet (fail)
                go_wp2
                go_quiet (fail)
                go_wp2
                go_roundw
                case rel => exact ⟨j + 1, by omega, by go_num, (Below.drewN HB2.out _)⟩
                case measure => simp [intOf]; omega
              · have e1t : ((jM : Int) == x.a) = false := by simpa using e1
                rw [if_neg e1] at HC
                subst HC
                clear e1 k3
                clear hy hz HBT
                go_wp2
                go_quiet (fail)
                go_wp2
                go_quiet (fail)
                go_wp2
                go_quiet (fail)
                go_wp2
                go_roundw
                case rel => exact ⟨j + 1, by omega, by go_num, (Below.drewN HB2.out _)⟩
                case measure => simp [intOf]; omega
            · have HC := HBT.out.2.2 (by rw [HK6.out]; omega)
              have k3t : (k6 == 2) = false := by simpa using k3
              subst HC
              clear k3
              clear hy hz HBT
              go_wp2
              go_quiet (fail)
              go_wp2
              go_quiet (fail)
              go_wp2
              go_quiet (fail)
              go_wp2
              go_roundw
              case rel => exact ⟨j + 1, by omega, by go_num, (Below.drewN HB2.out _)⟩
              case measure => simp [intOf]; omega
        · have HF9 := Lib.hid (HF8.out.later HB2.out)
          go_wp2
          go_roundw
          case rel => exact ⟨k + 1, by omega, by go_num, Ap6, cp6, (x.does f).1, HS1.out, HS2.out, HF9.out⟩
          case measure => simp [intOf]; omega
    · go_wp2
      go_ret
      exact ⟨rfl, HBw.out⟩
end Go.Proofs.Ytfeceamhlphelaa
