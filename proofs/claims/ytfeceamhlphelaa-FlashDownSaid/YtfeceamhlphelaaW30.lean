/-
  FlashDown.
-/
import Derived.Test.YtfeceamhlphelaaW29
import Derived.Test.YtfeceamhlphelaaW16
import Derived.OpenShut
namespace Go.Proofs.Ytfeceamhlphelaa
open Go.RowKit
set_option linter.unusedVariables false
set_option linter.unusedSimpArgs false

theorem atF_down {f : Fl} (h : f.down = true) (p : Int) : atF f p = 20 := by unfold atF; rw [if_pos h]
theorem prog_down {w0 w : World} {L : Lc} {f : Fl} (h : FlAt w0 w L f) (hd : f.down = true) (page : Int) (A : Option Addr) (m c : Nat) (b : List Int) (hA : Apart L w A (kcells .u8 b)) (hm : b.length = m) (hc : m ≤ c) (hcc : c ≤ maxLen) (hb : Bytes b) :
    Calls Try.prog 26 #[.pointer (some ⟨L.d, 0, none⟩), .int .i64 page, .slice A m c] w fun e w' => e = .returned (.iface 40 (.int .i64 20)) ∧ FlAt w0 w' L f ∧ Only L w w' := by
  refine (program_any h page A m c b hA hm hc hcc hb).mono ?_
  have e : progF f page b = (f, 20) := by unfold progF; rw [atF_down hd, if_pos (by omega)]
  rw [e]
  exact fun e w' h => h
theorem erase_down {w0 w : World} {L : Lc} {f : Fl} (h : FlAt w0 w L f) (hd : f.down = true) (k : Int) :
    Calls Try.prog 30 #[.pointer (some ⟨L.d, 0, none⟩), .int .i64 k] w fun e w' => e = .returned (.iface 40 (.int .i64 20)) ∧ FlAt w0 w' L f ∧ Only L w w' := by
  refine (erase_any h k).mono ?_
  have e : eraseF f k = (f, 20) := by unfold eraseF; rw [if_pos hd]
  rw [e]
  exact fun e w' h => h
theorem read_down {w0 w : World} {L : Lc} {f : Fl} (h : FlAt w0 w L f) (hd : f.down = true) (k : Int) :
    Calls Try.prog 29 #[.pointer (some ⟨L.d, 0, none⟩), .int .i64 k] w fun e w' => ∃ A c, e = .returned (.tuple #[.slice A 0 c, .iface 40 (.int .i64 20)]) ∧ Below w.heap.size w w' := by
  refine (read_any h k).mono ?_
  have e : readF f k = ([], 20) := by unfold readF; rw [atF_down hd, if_pos (by omega)]
  rw [e]
  rintro e w' ⟨v, rfl, ho, hb⟩
  obtain ⟨A, c, rfl, _⟩ := own_form ho
  exact ⟨A, c, rfl, hb⟩

theorem er0 : eraseF (fuseF (newF 2 2) 0 []) 0 = ((eraseF (fuseF (newF 2 2) 0 []) 0).1, 20) ∧ (eraseF (fuseF (newF 2 2) 0 []) 0).1.down = true := by
  have hf : (fuseF (newF 2 2) 0 []).fuse = 0 := fuseF_zero _ _
  unfold eraseF
  have h1 : (fuseF (newF 2 2) 0 []).down = false := rfl
  have h2 : (fuseF (newF 2 2) 0 []).wear.length = 2 := rfl
  rw [h1, h2, if_neg (by decide), if_neg (by decide), cutF_zero hf, if_pos rfl]
  exact ⟨rfl, rfl⟩
theorem er0_code : (eraseF (fuseF (newF 2 2) 0 []) 0).2 = 20 := by rw [er0.1]
theorem er0_down : (eraseF (fuseF (newF 2 2) 0 []) 0).1.down = true := er0.2
theorem ac_more9 {x : Ac} {w : World} {B0 B1 : Nat} (h : x.ok w B0) (hB : B0 ≤ B1) : x.ok w B1 :=
  ⟨h.rb.more hB, h.lb, h.mb, h.cb, h.bb, h.rp.more hB, h.lp, h.mp, h.cp, h.bp, h.sq, h.k0, h.k1, h.wa, h.wn⟩

theorem bound_n {x : Ac} {w : World} {B : Nat} (h : x.ok w B) : -9223372036854775808 ≤ x.n ∧ x.n < 9223372036854775808 := by
  have := bounds_i64 h.wn
  omega

set_option maxRecDepth 100000 in
theorem down_long (A : Option Addr) (n c : Nat) (l : List Ac) (w : World) (hA : Rd w w.heap.size A (acells l)) (hn : l.length = n) (hnc : n ≤ c) (hcm : c ≤ maxLen) (hok : ∀ x ∈ l, x.ok w w.heap.size) (hl : largeA l = true) :
    Calls Try.prog 9 #[.slice A n c] w fun e w' => e = .returned (.bool true) ∧ Below w.heap.size w w' := by
  have HA := Lib.hid hA
  have HN := Lib.hid hn
  have HOK := Lib.hid hok
  have HL := Lib.hid hl
  clear hA hn hok hl
  go_enter Try.func9, Try.ntmps9
  go_wp2_with (fail)
  (with_reducible refine (awake_any w).mono ?_)
  rintro e w1 ⟨rfl, hb⟩
  have HB1 := Lib.hid hb
  clear hb
  go_wp2_with (fail)
  (with_reducible refine (large_any A n c l w1 ((HA.out.below HB1.out (Nat.le_refl _)).more HB1.out.size) HN.out hnc hcm (fun x hx => ac_more9 ((HOK.out x hx).below HB1.out (Nat.le_refl _)) HB1.out.size)).mono ?_)
  rintro e w2 ⟨rfl, hb⟩
  rw [HL.out]
  have HB2 : Hid (Below w.heap.size w w2) := HB1.out.trans (hb.mono HB1.out.size)
  clear hb
  go_wp2_with (fail)
  (with_reducible refine (awake_any w2).mono ?_)
  rintro e w3 ⟨rfl, hb⟩
  have HB3 : Hid (Below w.heap.size w w3) := HB2.out.trans (hb.mono HB2.out.size)
  clear hb
  go_wp2
  go_ret
  exact ⟨rfl, HB3.out⟩

set_option maxRecDepth 100000 in
set_option maxHeartbeats 16000000 in
theorem down_main (A : Option Addr) (n c : Nat) (l : List Ac) (w : World) (hA : Rd w w.heap.size A (acells l)) (hn : l.length = n) (hnc : n ≤ c) (hcm : c ≤ maxLen) (hok : ∀ x ∈ l, x.ok w w.heap.size) (hl : largeA l = false) :
    Calls Try.prog 9 #[.slice A n c] w fun e w' => e = .returned (.bool true) ∧ Below w.heap.size w w' := by
  have g1 := ne_nil
  have g2 := ne_err
  have h200 : n ≤ 200 := by
    unfold largeA at hl
    rw [decide_eq_false_iff_not] at hl
    omega
  have HA := Lib.hid hA
  have HN := Lib.hid hn
  have HOK := Lib.hid hok
  have HL := Lib.hid hl
  clear hA hn hok hl
  unfold maxLen at hcm
  go_enter Try.func9, Try.ntmps9
  go_wp2_with (fail)
  (with_reducible refine (awake_any w).mono ?_)
  rintro e w1 ⟨rfl, hb⟩
  have HB1 := Lib.hid hb
  clear hb
  go_wp2_with (fail)
  (with_reducible refine (large_any A n c l w1 ((HA.out.below HB1.out (Nat.le_refl _)).more HB1.out.size) HN.out hnc (by unfold maxLen; exact hcm) (fun x hx => ac_more9 ((HOK.out x hx).below HB1.out (Nat.le_refl _)) HB1.out.size)).mono ?_)
  rintro e w2 ⟨rfl, hb⟩
  rw [HL.out]
  have HB2 : Hid (Below w.heap.size w w2) := HB1.out.trans (hb.mono HB1.out.size)
  clear hb
  go_wp2_with (fail)
  (with_reducible refine (new_okI 2 2 2 2 rfl rfl w2 (by omega) (by omega) (by omega) (by omega)).mono ?_)
  rintro e w3 ⟨L0, rfl, hF⟩
  have HF3 := Lib.hid hF
  clear hF
  have HR0 : Hid (Rd w3 w3.heap.size none (kcells .u8 [])) := fun hx => absurd rfl hx
  have HN0 : Hid (Bytes []) := fun x hx => by simp at hx
  go_wp2_with (fail)
  (with_reducible refine (fuse_any HF3.out 0 (by omega) (by omega) none 0 0 [] HR0.out rfl (by omega) HN0.out).mono ?_)
  rintro e w4 ⟨rfl, ⟨Ap0, cp0, hF⟩, _⟩
  obtain ⟨L, hL⟩ : ∃ L : Lc, { L0 with Ap := Ap0, cp := cp0 } = L := ⟨_, rfl⟩
  rw [hL] at hF
  have hLd : L0.d = L.d := by rw [← hL]
  rw [hLd]
  have HF4 := Lib.hid hF
  clear hF hL hLd HF3 HR0
  go_wp2_with (fail)
  (with_reducible refine (erase_any HF4.out 0).mono ?_)
  rintro e w5 ⟨rfl, hF, _⟩
  have hE20 : errV (eraseF (fuseF (newF 2 2) 0 []) 0).2 = .iface 40 (.int .i64 20) := by rw [er0_code]; exact errV_ne (by omega)
  rw [hE20]
  obtain ⟨f0, hf0⟩ : ∃ f, (eraseF (fuseF (newF 2 2) 0 []) 0).1 = f := ⟨_, rfl⟩
  have hd0 : f0.down = true := by rw [← hf0]; exact er0_down
  rw [hf0] at hF
  have HF5 := Lib.hid hF
  have HD0 := Lib.hid hd0
  clear hF hd0 hf0 hE20 HF4
  go_wp2_with (fail)
  (with_reducible refine (is_err 20 20 _).mono ?_)
  rintro e w5' ⟨rfl, rfl⟩
  go_wp2_with (fail)
  (with_reducible refine (image_any HF5.out).mono ?_)
  rintro e w6 ⟨v6, rfl, ho6, hb6⟩
  obtain ⟨A6, c6, rfl, hc61, hc62, hr6⟩ := own_read ho6
  obtain ⟨NN, hNN⟩ : ∃ N, f0.img.length = N := ⟨_, rfl⟩
  have HNN := Lib.hid hNN
  have HAP6 := Lib.hid (apart_own HF5.out (by rw [kcells_length]) ho6)
  have HF6 := Lib.hid (HF5.out.later hb6)
  rw [hNN]
  clear ho6 hr6 hb6 hNN
  unfold maxLen at hc62
  go_wp2
  go_loopw [36] (fun i wr => ∃ k : Nat, k ≤ n ∧ i = .int .i64 k ∧ ∃ Ap cp f, f.down = true ∧ f.img = f0.img ∧ FlAt w2 wr { L with Ap := Ap, cp := cp } f ∧ Apart { L with Ap := Ap, cp := cp } wr A6 (kcells .u8 f0.img)) (fun i _ => n - (intOf i).toNat)
  case atStart => exact ⟨0, by omega, rfl, L.Ap, L.cp, f0, HD0.out, rfl, HF6.out, HAP6.out⟩
  case round =>
    obtain ⟨k, hk, rfl, Ap, cp, f, hdn, him, hF, hAP⟩ := hrel
    have HF := Lib.hid hF
    have HAP := Lib.hid hAP
    have HDN := Lib.hid hdn
    have HIM := Lib.hid him
    have HBw : Hid (Below w.heap.size w wr) := HB2.out.trans (hF.below.mono HB2.out.size)
    obtain ⟨L1, hL1⟩ : ∃ L1 : Lc, { L with Ap := Ap, cp := cp } = L1 := ⟨_, rfl⟩
    have hL1d : L.d = L1.d := by rw [← hL1]
    have HL1 : Hid (∀ a b, ({ d := L1.d, gi := L.gi, gw := L.gw, ci := L.ci, cw := L.cw, Ap := a, cp := b } : Lc) = { L1 with Ap := a, cp := b }) := by intro a b; rw [← hL1]
    rw [hL1] at HF HAP
    rw [hL1d]
    clear hF hAP hdn him hL1
    by_cases hlt : k < n
    · obtain ⟨x, hx⟩ := getElem?_of_lt (l := l) (k := k) (by rw [HN.out]; exact hlt)
      have HXO0 := Lib.hid (HOK.out x (List.mem_of_getElem? hx))
      obtain ⟨ba, off, rfl, hbl', c0, c1, c2, c3, c4⟩ := (HA.out.below HBw.out (Nat.le_refl _)).ac hx
      obtain ⟨W, hW⟩ : ∃ V, wr.alloc (.cells #[.int .u8 x.k, .int .i64 x.a, .int .i64 x.n, .slice x.B x.m x.e, .slice x.P x.q x.r] 36) = V := ⟨_, rfl⟩
      have HBW : Hid (Below wr.heap.size wr W) := by rw [← hW]; exact (Below.refl _ _).alloc (Nat.le_refl _) _
      have HCW : Hid (W.cell? ⟨wr.heap.size, 0, none⟩ = some (.int .u8 x.k) ∧ W.cell? ⟨wr.heap.size, 1, none⟩ = some (.int .i64 x.a) ∧ W.cell? ⟨wr.heap.size, 2, none⟩ = some (.int .i64 x.n) ∧ W.cell? ⟨wr.heap.size, 3, none⟩ = some (.slice x.B x.m x.e) ∧ W.cell? ⟨wr.heap.size, 4, none⟩ = some (.slice x.P x.q x.r)) := by
        rw [← hW]
        exact ⟨cell_new_at _ _ _ _ _ _ rfl rfl, cell_new_at _ _ _ _ _ _ rfl rfl, cell_new_at _ _ _ _ _ _ rfl rfl, cell_new_at _ _ _ _ _ _ rfl rfl, cell_new_at _ _ _ _ _ _ rfl rfl⟩
      have HGD : Hid (wr.heap.size ≠ L1.d ∧ wr.heap.size ≠ L1.gi ∧ wr.heap.size ≠ L1.gw) := by
        have h1 : L1.d < wr.heap.size := HF.out.ld
        have h2 : L1.gi < wr.heap.size := HF.out.bi.2
        have h3 : L1.gw < wr.heap.size := HF.out.bw.2
        exact ⟨by omega, by omega, by omega⟩
      have HFW := Lib.hid (HF.out.later HBW.out)
      have HAPW := Lib.hid (HAP.out.only (Only.of_below HBW.out))
      have hgW : wr.heap.size < W.heap.size := World.block_lt_of_cell? W _ HCW.out.1
      have HXW : Hid (x.ok W w2.heap.size) := (ac_more9 ((HXO0.out.below HB2.out (Nat.le_refl _))) HB2.out.size).below HFW.out.below (Nat.le_refl _)
      have HXO2 : Hid (x.ok w2 w2.heap.size) := ac_more9 (HXO0.out.below HB2.out (Nat.le_refl _)) HB2.out.size
      have n1 := HCW.out.2.1
      clear hx HXO0
      go_wp2_with (fail)
      try rw [hW]
      clear hW c0 c1 c2 c3 c4
      (with_reducible refine (read_down HFW.out HDN.out x.a).mono ?_)
      rintro e w7 ⟨A7, c7, rfl, hb7⟩
      have HF7 := Lib.hid (HFW.out.later hb7)
      have HXR : Hid (Rd w7.drew w2.heap.size x.B (kcells .u8 x.b)) := (HXO2.out.below (HF7.out.later (Below.drew (Below.refl _ _))).below (Nat.le_refl _)).rb
      have HPB : Hid (Bytes (page0 x.n x.b)) := pageO_bytes HXW.out.bb
      have HS7 : Hid (w7.cell? ⟨wr.heap.size, 0, none⟩ = some (.int .u8 x.k) ∧ w7.cell? ⟨wr.heap.size, 1, none⟩ = some (.int .i64 x.a) ∧ w7.cell? ⟨wr.heap.size, 2, none⟩ = some (.int .i64 x.n) ∧ w7.cell? ⟨wr.heap.size, 3, none⟩ = some (.slice x.B x.m x.e) ∧ w7.cell? ⟨wr.heap.size, 4, none⟩ = some (.slice x.P x.q x.r)) := by
        have kk : ∀ i, w7.cell? ⟨wr.heap.size, i, none⟩ = W.cell? ⟨wr.heap.size, i, none⟩ := fun i => hb7.cell (p := ⟨wr.heap.size, i, none⟩) hgW
        exact ⟨(kk 0).trans HCW.out.1, (kk 1).trans HCW.out.2.1, (kk 2).trans HCW.out.2.2.1, (kk 3).trans HCW.out.2.2.2.1, (kk 4).trans HCW.out.2.2.2.2⟩
      have HSB : Hid (∀ wa wb : World, (wa.cell? ⟨wr.heap.size, 0, none⟩ = some (.int .u8 x.k) ∧ wa.cell? ⟨wr.heap.size, 1, none⟩ = some (.int .i64 x.a) ∧ wa.cell? ⟨wr.heap.size, 2, none⟩ = some (.int .i64 x.n) ∧ wa.cell? ⟨wr.heap.size, 3, none⟩ = some (.slice x.B x.m x.e) ∧ wa.cell? ⟨wr.heap.size, 4, none⟩ = some (.slice x.P x.q x.r)) → Below wa.heap.size wa wb → (wb.cell? ⟨wr.heap.size, 0, none⟩ = some (.int .u8 x.k) ∧ wb.cell? ⟨wr.heap.size, 1, none⟩ = some (.int .i64 x.a) ∧ wb.cell? ⟨wr.heap.size, 2, none⟩ = some (.int .i64 x.n) ∧ wb.cell? ⟨wr.heap.size, 3, none⟩ = some (.slice x.B x.m x.e) ∧ wb.cell? ⟨wr.heap.size, 4, none⟩ = some (.slice x.P x.q x.r))) := by
        intro wa wb h hb
        have hg : wr.heap.size < wa.heap.size := World.block_lt_of_cell? wa _ h.1
        have kk : ∀ i, wb.cell? ⟨wr.heap.size, i, none⟩ = wa.cell? ⟨wr.heap.size, i, none⟩ := fun i => hb.cell (p := ⟨wr.heap.size, i, none⟩) hg
        exact ⟨(kk 0).trans h.1, (kk 1).trans h.2.1, (kk 2).trans h.2.2.1, (kk 3).trans h.2.2.2.1, (kk 4).trans h.2.2.2.2⟩
      have HSO : Hid (∀ wa wb : World, (wa.cell? ⟨wr.heap.size, 0, none⟩ = some (.int .u8 x.k) ∧ wa.cell? ⟨wr.heap.size, 1, none⟩ = some (.int .i64 x.a) ∧ wa.cell? ⟨wr.heap.size, 2, none⟩ = some (.int .i64 x.n) ∧ wa.cell? ⟨wr.heap.size, 3, none⟩ = some (.slice x.B x.m x.e) ∧ wa.cell? ⟨wr.heap.size, 4, none⟩ = some (.slice x.P x.q x.r)) → Only L1 wa wb → (wb.cell? ⟨wr.heap.size, 0, none⟩ = some (.int .u8 x.k) ∧ wb.cell? ⟨wr.heap.size, 1, none⟩ = some (.int .i64 x.a) ∧ wb.cell? ⟨wr.heap.size, 2, none⟩ = some (.int .i64 x.n) ∧ wb.cell? ⟨wr.heap.size, 3, none⟩ = some (.slice x.B x.m x.e) ∧ wb.cell? ⟨wr.heap.size, 4, none⟩ = some (.slice x.P x.q x.r))) := by
        intro wa wb h ho
        have hg : wr.heap.size < wa.heap.size := World.block_lt_of_cell? wa _ h.1
        have kk : ∀ i, wb.cell? ⟨wr.heap.size, i, none⟩ = wa.cell? ⟨wr.heap.size, i, none⟩ := fun i => cell_of_block (ho.block _ hg HGD.out.1 HGD.out.2.1 HGD.out.2.2)
        exact ⟨(kk 0).trans h.1, (kk 1).trans h.2.1, (kk 2).trans h.2.2.1, (kk 3).trans h.2.2.2.1, (kk 4).trans h.2.2.2.2⟩
      have HAP7 := Lib.hid (HAPW.out.only (Only.of_below hb7))
      have m1 := HS7.out.2.1
      clear n1 hb7 hgW HCW
      go_wp2_with (fail)
      (with_reducible refine (none_read x.a w7).mono ?_)
      rintro e w7' ⟨rfl, rfl⟩
      have HFD : Hid (FlAt w2 w7.drew L1 f) := HF7.out.later (Below.drew (Below.refl _ _))
      have HSD : Hid (w7.drew.cell? ⟨wr.heap.size, 0, none⟩ = some (.int .u8 x.k) ∧ w7.drew.cell? ⟨wr.heap.size, 1, none⟩ = some (.int .i64 x.a) ∧ w7.drew.cell? ⟨wr.heap.size, 2, none⟩ = some (.int .i64 x.n) ∧ w7.drew.cell? ⟨wr.heap.size, 3, none⟩ = some (.slice x.B x.m x.e) ∧ w7.drew.cell? ⟨wr.heap.size, 4, none⟩ = some (.slice x.P x.q x.r)) := HSB.out w7 w7.drew HS7.out (Below.drew (Below.refl _ _))
      have HPG := Lib.hid (page_apart HFD.out x.k x.a x.n x.B x.m x.e x.b x.P x.q x.r HXR.out HXW.out.lb HXW.out.mb HXW.out.cb HXW.out.bb)
      have HAD := Lib.hid (HAP7.out.only (Only.of_below (Below.drew (Below.refl w7.heap.size w7))))
      clear m1
      go_upto_region 16 with (fail)
      go_region_held3 (fun w' => w'.cell? ⟨wr.heap.size, 0, none⟩ = some (.int .u8 x.k) ∧ w'.cell? ⟨wr.heap.size, 1, none⟩ = some (.int .i64 x.a) ∧ w'.cell? ⟨wr.heap.size, 2, none⟩ = some (.int .i64 x.n) ∧ w'.cell? ⟨wr.heap.size, 3, none⟩ = some (.slice x.B x.m x.e) ∧ w'.cell? ⟨wr.heap.size, 4, none⟩ = some (.slice x.P x.q x.r)) (first | with_reducible exact HSD.out | with_reducible exact hS8 | with_reducible exact hS9 | with_reducible exact hS10) (first
        | (go_at_call 25; with_reducible refine HPG.out.mono ?_; rintro e w8 ⟨A8, m8, c8, rfl, hpl, hpc, hpm, hb8, hap8⟩; have hS8 := HSB.out w7.drew w8 HSD.out hb8)
        | (go_at_call 26; with_reducible refine (prog_down (HFD.out.later hb8) HDN.out x.a A8 m8 c8 (page0 x.n x.b) hap8 hpl hpc hpm HPB.out).mono ?_; rintro e w9 ⟨rfl, hF9, hO9⟩; have hS9 := HSO.out w8 w9 hS8 hO9)
        | (go_at_call 28; with_reducible refine (is_err 20 20 _).mono ?_; rintro e wz ⟨rfl, rfl⟩)
        | (go_at_call 30; with_reducible refine (erase_down hF9 HDN.out x.a).mono ?_; rintro e w10 ⟨rfl, hF10, hO10⟩; have hS10 := HSO.out w9 w10 hS9 hO10))
      have HF10 := Lib.hid hF10
      have HS10 : Hid (w10.cell? ⟨wr.heap.size, 0, none⟩ = some (.int .u8 x.k) ∧ w10.cell? ⟨wr.heap.size, 1, none⟩ = some (.int .i64 x.a) ∧ w10.cell? ⟨wr.heap.size, 2, none⟩ = some (.int .i64 x.n) ∧ w10.cell? ⟨wr.heap.size, 3, none⟩ = some (.slice x.B x.m x.e) ∧ w10.cell? ⟨wr.heap.size, 4, none⟩ = some (.slice x.P x.q x.r)) := hS10
      have HA10 := Lib.hid (((HAD.out.only (Only.of_below hb8)).only hO9).only hO10)
      clear hpl hpc hpm hb8 hap8 hF9 hO9 hS8 hS9 hF10 hO10 hS10 HPG HFD HSD HAD HF7 HS7 HAP7
      have HFE : Hid (FlAt w2 w10.drew L1 f) := HF10.out.later (Below.drew (Below.refl _ _))
      have HSE : Hid (w10.drew.cell? ⟨wr.heap.size, 0, none⟩ = some (.int .u8 x.k) ∧ w10.drew.cell? ⟨wr.heap.size, 1, none⟩ = some (.int .i64 x.a) ∧ w10.drew.cell? ⟨wr.heap.size, 2, none⟩ = some (.int .i64 x.n) ∧ w10.drew.cell? ⟨wr.heap.size, 3, none⟩ = some (.slice x.B x.m x.e) ∧ w10.drew.cell? ⟨wr.heap.size, 4, none⟩ = some (.slice x.P x.q x.r)) := HSB.out w10 w10.drew HS10.out (Below.drew (Below.refl _ _))
      have HXS : Hid (Rd w10.drew w2.heap.size x.B (kcells .u8 x.b)) := (HXO2.out.below HFE.out.below (Nat.le_refl _)).rb
      have HPF := Lib.hid (page_apart HFE.out x.k x.a x.n x.B x.m x.e x.b x.P x.q x.r HXS.out HXW.out.lb HXW.out.mb HXW.out.cb HXW.out.bb)
      have HAE := Lib.hid (HA10.out.only (Only.of_below (Below.drew (Below.refl w10.heap.size w10))))
      go_upto_region 18 with (fail)
      go_region_held3 (fun w' => w'.cell? ⟨wr.heap.size, 0, none⟩ = some (.int .u8 x.k) ∧ w'.cell? ⟨wr.heap.size, 1, none⟩ = some (.int .i64 x.a) ∧ w'.cell? ⟨wr.heap.size, 2, none⟩ = some (.int .i64 x.n) ∧ w'.cell? ⟨wr.heap.size, 3, none⟩ = some (.slice x.B x.m x.e) ∧ w'.cell? ⟨wr.heap.size, 4, none⟩ = some (.slice x.P x.q x.r)) (first | with_reducible exact HSE.out | with_reducible exact hS11) (first
        | (go_at_call 25; with_reducible refine HPF.out.mono ?_; rintro e w11 ⟨A8, m8, c8, rfl, hpl, hpc, hpm, hb11, hap8⟩; have hS11 := HSB.out w10.drew w11 HSE.out hb11)
        | (go_at_call 26; with_reducible refine (none_program x.a A8 m8 c8 w11).mono ?_; rintro e wz ⟨rfl, rfl⟩)
        | (go_at_call 28; with_reducible refine (is_err 1 1 _).mono ?_; rintro e wz ⟨rfl, rfl⟩)
        | (go_at_call 30; with_reducible refine (none_erase x.a _).mono ?_; rintro e wz ⟨rfl, rfl⟩))
      have HF11 := Lib.hid (HFE.out.later hb11)
      have HA11 := Lib.hid (HAE.out.only (Only.of_below hb11))
      have HS11 : Hid (w11.cell? ⟨wr.heap.size, 0, none⟩ = some (.int .u8 x.k) ∧ w11.cell? ⟨wr.heap.size, 1, none⟩ = some (.int .i64 x.a) ∧ w11.cell? ⟨wr.heap.size, 2, none⟩ = some (.int .i64 x.n) ∧ w11.cell? ⟨wr.heap.size, 3, none⟩ = some (.slice x.B x.m x.e) ∧ w11.cell? ⟨wr.heap.size, 4, none⟩ = some (.slice x.P x.q x.r)) := hS11
      clear hpl hpc hpm hb11 hap8 hS11 HPF HFE HSE HXS HAE HF10 HS10 HA10
      have p2 := HS11.out.2.2.1
      have p4 := HS11.out.2.2.2.2
      go_wp2_with (fail)
      (with_reducible refine (none_fuse x.n x.P x.q x.r w11).mono ?_)
      rintro e wz ⟨rfl, rfl⟩
      go_wp2_with (fail)
      (with_reducible refine (none_start w11).mono ?_)
      rintro e wz ⟨rfl, rfl⟩
      have HX11 : Hid (x.ok w11 w2.heap.size) := HXO2.out.below HF11.out.below (Nat.le_refl _)
      have HRP : Hid (Rd w11 w11.heap.size x.P (kcells .u8 x.p)) := HX11.out.rp.more HF11.out.below.size
      have HNB := Lib.hid (bound_n HX11.out)
      go_wp2_with (fail)
      (with_reducible refine (fuse_any HF11.out x.n HNB.out.1 HNB.out.2 x.P x.q x.r x.p HRP.out HX11.out.lp HX11.out.sq HX11.out.bp).mono ?_)
      rintro e w12 ⟨rfl, ⟨Ap2, cp2, hF12⟩, hO12⟩
      have HF12 := Lib.hid hF12
      have HA12 := Lib.hid (HA11.out.only hO12)
      clear hF12 hO12 p2 p4
      go_wp2
      go_roundw
      case rel =>
        refine ⟨k + 1, by omega, by go_num, Ap2, cp2, fuseF f x.n x.p, HDN.out, HIM.out, ?_, ?_⟩
        · rw [HL1.out]; exact HF12.out
        · rw [HL1.out]; exact HA12.out.same rfl rfl rfl
      case measure => simp [intOf]; omega
    · have hkn : k = n := by omega
      subst hkn
      have HFD : Hid (FlAt w2 wr.drew L1 f) := HF.out.later (Below.drew (Below.refl _ _))
      have HAD := Lib.hid (HAP.out.only (Only.of_below (Below.drew (Below.refl wr.heap.size wr))))
      have HDW : Hid (Calls Try.prog 33 #[.pointer (some ⟨L1.d, 0, none⟩)] wr.drew fun e w' => e = .returned (.bool true) ∧ wr.drew = w') := by
        have := down_any HFD.out
        rw [HDN.out] at this
        exact this
      have HIW : Hid (Calls Try.prog 36 #[.pointer (some ⟨L1.d, 0, none⟩)] wr.drew fun e w' => ∃ A c, e = .returned (.slice A NN c) ∧ Rd w' w'.heap.size A (kcells .u8 f0.img) ∧ Below wr.drew.heap.size wr.drew w') := by
        refine (image_any HFD.out).mono ?_
        rintro e w' ⟨v, rfl, ho, hb⟩
        rw [HIM.out, HNN.out] at ho
        obtain ⟨A, c, rfl, _, _, hr⟩ := own_read ho
        exact ⟨A, c, rfl, hr, hb⟩
      have t6 : (convert 23 9 (.slice A6 NN c6)).run Try.prog wr.drew = .ok (.string (strOfNums f0.img)) wr.drew := str_of HAD.out.rd HNN.out
      have HBR : Hid (Below w.heap.size w wr.drew) := HB2.out.trans (HFD.out.below.mono HB2.out.size)
      clear HBw
      go_upto_region 24 with (fail)
      go_region_with (first
        | (go_at_call 33; with_reducible refine HDW.out.mono ?_; rintro e wz ⟨rfl, rfl⟩)
        | (go_at_call 33; with_reducible refine (none_down _).mono ?_; rintro e wz ⟨rfl, rfl⟩)
        | (go_at_call 42; with_reducible refine (none_blocks _).mono ?_; rintro e wz ⟨rfl, rfl⟩)
        | (go_at_call 43; with_reducible refine (none_pages _).mono ?_; rintro e wz ⟨rfl, rfl⟩)
        | (go_at_call 31; with_reducible refine (none_wear _).mono ?_; rintro e wz ⟨rfl, rfl⟩)
        | (go_at_call 36; with_reducible refine (none_image _).mono ?_; rintro e wz ⟨rfl, rfl⟩)
        | (go_at_call 36; with_reducible refine HIW.out.mono ?_; rintro e w7 ⟨A7, c7, rfl, hr7, hb7⟩; have t7 : (convert 23 9 (.slice A7 NN c7)).run Try.prog w7 = .ok (.string (strOfNums f0.img)) w7 := str_of hr7 HNN.out; have t8 : (convert 23 9 (.slice A6 NN c6)).run Try.prog w7 = .ok (.string (strOfNums f0.img)) w7 := str_of (HAD.out.rd.below hb7 (Nat.le_refl _)) HNN.out; have HB7 := Lib.hid hb7; clear hr7 hb7))
      all_goals (go_wp2; go_ret; exact ⟨rfl, HBR.out.trans (HB7.out.mono HBR.out.size)⟩)
end Go.Proofs.Ytfeceamhlphelaa
