/-
  FlashNews.
-/
import Derived.Test.YtfeceamhlphelaaW27
import Derived.Test.YtfeceamhlphelaaW17
namespace Go.Proofs.Ytfeceamhlphelaa
open Go.RowKit
set_option linter.unusedVariables false

theorem FlAt.base {w00 w0 w : World} {L : Lc} {f : Fl} (h : FlAt w0 w L f) (hb : Below w00.heap.size w00 w0) : FlAt w00 w L f :=
  ⟨h.ok, hb.trans (h.below.mono hb.size), Nat.le_trans hb.size h.bd, h.ld, h.ni, h.nw, h.iw, h.c0, h.c1, h.c2, h.c3, h.c4, h.c5, h.fz, own_base h.oi hb.size, own_base h.ow hb.size, h.pc, h.pm, h.pk⟩
theorem FlAt.away {w0 w : World} {L : Lc} {f : Fl} (h : FlAt w0 w L f) (p : Addr) (u : Value) (h0 : w0.heap.size ≤ p.block) (h1 : p.block ≠ L.d) (h2 : p.block ≠ L.gi) (h3 : p.block ≠ L.gw) (hp : f.picks = []) : FlAt w0 (w.setCell p u) L f := by
  have k : ∀ j, (w.setCell p u).cell? ⟨L.d, j, none⟩ = w.cell? ⟨L.d, j, none⟩ := fun j => set_far _ _ _ _ (by intro e; exact h1 (by rw [e]))
  refine ⟨h.ok, h.below.setCell h0 _, h.bd, by simpa [World.setCell] using h.ld, h.ni, h.nw, h.iw, (k 0).trans h.c0, (k 1).trans h.c1, (k 2).trans h.c2, (k 3).trans h.c3, (k 4).trans h.c4, (k 5).trans h.c5, fun j => by rw [World.frozen?_setCell]; exact h.fz j, ownsRow_setCell_other h.oi (by simpa [Value.ownBlock] using fun e => h2 e.symm) _, ownsRow_setCell_other h.ow (by simpa [Value.ownBlock] using fun e => h3 e.symm) _, h.pc, h.pm, ?_⟩
  rw [hp]
  exact fun hx => absurd rfl hx
theorem FlAt.put6 {w0 w : World} {L : Lc} {f : Fl} (h : FlAt w0 w L f) (B : Nat) (h0 : w0.heap.size ≤ B) (h1 : B ≠ L.d) (h2 : B ≠ L.gi) (h3 : B ≠ L.gw) (hp : f.picks = []) (a b c d e g : Value) : FlAt w0 (put6 w B a b c d e g) L f :=
  (((((h.away ⟨B, 0, none⟩ _ h0 h1 h2 h3 hp).away ⟨B, 1, none⟩ _ h0 h1 h2 h3 hp).away ⟨B, 2, none⟩ _ h0 h1 h2 h3 hp).away ⟨B, 3, none⟩ _ h0 h1 h2 h3 hp).away ⟨B, 4, none⟩ _ h0 h1 h2 h3 hp).away ⟨B, 5, none⟩ _ h0 h1 h2 h3 hp

def XL (L : Lc) (k : Nat) : Prop := k = L.d ∨ k = L.gi ∨ k = L.gw
theorem xl_lt {w0 w : World} {L : Lc} {f : Fl} (h : FlAt w0 w L f) : ∀ k, XL L k → k < w.heap.size := fun k hk => by
  rcases hk with rfl | rfl | rfl
  · exact h.ld
  · exact h.bi.2
  · exact h.bw.2

set_option maxRecDepth 100000 in
theorem news_long (a b : Int) (A : Option Addr) (n c : Nat) (w : World) (hn : n ≤ maxLen) (h : 70000 < n) :
    Calls Try.prog 10 #[.int .i64 a, .int .i64 b, .slice A n c] w fun e w' => e = .returned (.bool true) ∧ Below w.heap.size w w' := by
  unfold maxLen at hn
  go_enter Try.func10, Try.ntmps10
  go_wp2_with (fail)
  (with_reducible refine (awake_any w).mono ?_)
  rintro e w1 ⟨rfl, hb⟩
  have HB1 := Lib.hid hb
  clear hb
  go_wp2_with (fail)
  (with_reducible refine (awake_any w1).mono ?_)
  rintro e w2 ⟨rfl, hb⟩
  have HB2 : Hid (Below w.heap.size w w2) := HB1.out.trans (hb.mono HB1.out.size)
  clear hb
  go_wp2
  go_ret
  exact ⟨rfl, HB2.out⟩

set_option maxRecDepth 100000 in
set_option maxHeartbeats 16000000 in
theorem news_main (a b : Int) (A : Option Addr) (n c : Nat) (l : List Int) (w : World) (hA : Rd w w.heap.size A (kcells .u8 l)) (hl : l.length = n) (hnc : n ≤ c) (hcm : c ≤ maxLen) (hby : Bytes l) (h70 : n ≤ 70000) :
    Calls Try.prog 10 #[.int .i64 a, .int .i64 b, .slice A n c] w fun e w' => e = .returned (.bool true) ∧ Below w.heap.size w w' := by
  have g1 := ne_nil
  have g2 := ne_err
  have g3 := eq_nil
  have g4 := eqp_none
  have g5 := nep_none
  have HA := Lib.hid hA
  have HL := Lib.hid hl
  have HBY := Lib.hid hby
  unfold maxLen at hcm
  clear hA hl hby
  by_cases hbad : (a < 1 ∨ 64 < a) ∨ (b < 1 ∨ 16 < b)
  · have HBAD := Lib.hid hbad
    clear hbad
    go_enter Try.func10, Try.ntmps10
    go_wp2_with (fail)
    (with_reducible refine (awake_any w).mono ?_)
    rintro e w1 ⟨rfl, hb⟩
    have HB1 := Lib.hid hb
    clear hb
    go_wp2_with (fail)
    (with_reducible refine (new_no a b w1 HBAD.out).mono ?_)
    rintro e w2 ⟨rfl, rfl⟩
    have HNR := Lib.hid (newR_no a b w1 HBAD.out)
    unfold zeroR at HNR
    go_wp2_with (fail)
    (with_reducible refine HNR.out.mono ?_)
    rintro e w3 ⟨rfl, hb⟩
    have HB3 : Hid (Below w.heap.size w w3) := HB1.out.trans (hb.mono HB1.out.size)
    have h6 : six (w3.alloc (.cells #[.slice none 0 0, .int .i64 0, .slice none 0 0, .bool false, .int .i64 0, .slice none 0 0] 60)) w3.heap.size (.slice none 0 0) (.int .i64 0) (.slice none 0 0) (.bool false) (.int .i64 0) (.slice none 0 0) := six_new _ _ _ _ _ _ _ _ _ rfl
    have HB5 : Hid (Below w.heap.size w (w3.alloc (.cells #[.slice none 0 0, .int .i64 0, .slice none 0 0, .bool false, .int .i64 0, .slice none 0 0] 60))) := HB3.out.alloc HB3.out.size _
    have HG : Hid (w.heap.size ≤ w3.heap.size) := HB3.out.size
    have H7 := Lib.hid h6
    clear hb h6 HNR
    go_wp2_with (fail)
    generalize (w3.alloc (.cells #[.slice none 0 0, .int .i64 0, .slice none 0 0, .bool false, .int .i64 0, .slice none 0 0] 60)) = V at *
    (with_reducible refine (num_err 3 _).mono ?_)
    rintro e w4 ⟨rfl, rfl⟩
    generalize w3.heap.size = G9 at *
    have w5e : ∃ w5 : World, V = w5 := ⟨_, rfl⟩
    obtain ⟨w5, hw5⟩ := w5e
    rw [hw5] at HB5 H7 ⊢
    clear hw5 HB3
    by_cases hE : loadE b n = 0
    · obtain ⟨q, rfl⟩ : ∃ q : Nat, b = (q : Int) := ⟨b.toNat, by unfold loadE at hE; split at hE <;> omega⟩
      have HE := Lib.hid hE
      clear hE
      have HAW : Hid (Rd w5 w5.heap.size A (kcells .u8 l)) := (HA.out.below HB5.out (Nat.le_refl _)).more HB5.out.size
      go_wp2_with (fail)
      (with_reducible refine (load_ok q A n c l w5 HAW.out HL.out HBY.out HE.out).mono ?_)
      rintro e w6 ⟨L2, rfl, hF⟩
      have HF6 := Lib.hid hF
      have hG5 := H7.out.lt
      have HGN : Hid (G9 ≠ L2.d ∧ G9 ≠ L2.gi ∧ G9 ≠ L2.gw) := by
        have h1 := hF.bd
        have h2 := hF.bi.1
        have h3 := hF.bw.1
        exact ⟨by omega, by omega, by omega⟩
      clear hF
      have g6 := eqp_some L2.d
      have g7 := nep_some L2.d
      have HAV : Hid (Rd w6 w6.heap.size A (kcells .u8 l)) := (HAW.out.below HF6.out.below (Nat.le_refl _)).more HF6.out.below.size
      go_wp2_with (fail)
      (with_reducible refine (loadR_ok (X := fun k => XL L2 k ∨ k = G9) q A n c l w6 (fun k hk => hk.elim (fun h => xl_lt HF6.out k h) (fun h => by have := HF6.out.below.size; omega)) HAV.out HL.out HBY.out HE.out).mono ?_)
      rintro e w7 ⟨⟨yA, yc, yB, yd, yP, yr⟩, rfl, hr, hb⟩
      obtain ⟨NF, hNF⟩ : ∃ f, loadF q l = f := ⟨_, rfl⟩
      rw [hNF] at HF6 hr ⊢
      have hnp : NF.picks = [] := by rw [← hNF]; rfl
      have HNP := Lib.hid hnp
      clear hNF hnp
      have HF7 : Hid (FlAt w w7 L2 NF) := (HF6.out.later hb).base HB5.out
      have H77 := Lib.hid ((H7.out.below HF6.out.below hG5).below hb (by have := HF6.out.below.size; omega))
      have HR7 := Lib.hid hr
      obtain ⟨V7, hV7⟩ : ∃ V, put6 w7 G9 (.slice yA NF.img.length yc) (.int .i64 NF.pg) (.slice yB NF.wear.length yd) (.bool NF.down) (.int .i64 NF.fuse) (.slice yP NF.picks.length yr) = V := ⟨_, rfl⟩
      have HF8 : Hid (FlAt w V7 L2 NF) := by rw [← hV7]; exact HF7.out.put6 G9 HG.out HGN.out.1 HGN.out.2.1 HGN.out.2.2 HNP.out _ _ _ _ _ _
      have HR8 : Hid (RAt (fun k => XL L2 k ∨ k = G9) V7 ⟨yA, yc, yB, yd, yP, yr⟩ NF) := by rw [← hV7]; exact HR7.out.put6 (.inr rfl) _ _ _ _ _ _
      have h8 : six V7 G9 (.slice yA NF.img.length yc) (.int .i64 NF.pg) (.slice yB NF.wear.length yd) (.bool NF.down) (.int .i64 NF.fuse) (.slice yP NF.picks.length yr) := by rw [← hV7]; exact H77.out.put _ _ _ _ _ _
      unfold put6 at hV7
      obtain ⟨b0, b1, b2, b3, b4, b5, b6⟩ := H77.out
      have e0 := b6 0
      have e1 := b6 1
      have e2 := b6 2
      have e3 := b6 3
      have e4 := b6 4
      have e5 := b6 5
      have H8 := Lib.hid h8
      clear hr hb b6 h8 hG5
      simp only [Rc.v]
      go_wp2_with (fail)
      try rw [hV7]
      clear hV7 b0 b1 b2 b3 b4 b5 e0 e1 e2 e3 e4 e5
      (with_reducible refine (num_nil _).mono ?_)
      rintro e w8 ⟨rfl, rfl⟩
      obtain ⟨b0, b1, b2, b3, b4, b5, b6⟩ := H8.out
      clear b6
      go_wp2_with (fail)
      (with_reducible refine (same_any HF8.out HR8.out (Sim.refl _)).mono ?_)
      rintro e w9 ⟨rfl, hb⟩
      have HB9 : Hid (Below w.heap.size w w9) := HF8.out.below.trans (hb.mono HF8.out.below.size)
      clear hb
      go_wp2
      go_ret
      exact ⟨rfl, HB9.out⟩
    · have HE : Hid (loadE b n ≠ 0) := hE
      clear hE
      have hnn : n ≤ 140737488351232 := by omega
      go_wp2_with (fail)
      (with_reducible refine (load_no b A n c w5 hnn HE.out).mono ?_)
      rintro e w6 ⟨rfl, rfl⟩
      have HNR := Lib.hid (loadR_no b A n c w5 hnn HE.out)
      unfold zeroR at HNR
      have hEz : (loadE b n == 0) = false := by simpa using HE.out
      go_wp2_with (fail)
      (with_reducible refine HNR.out.mono ?_)
      rintro e w7 ⟨rfl, hb⟩
      have H77 := Lib.hid (H7.out.below hb H7.out.lt)
      have HB7 : Hid (Below w.heap.size w w7) := HB5.out.trans (hb.mono HB5.out.size)
      have hG := HG.out
      obtain ⟨b0, b1, b2, b3, b4, b5, b6⟩ := H77.out
      have e0 := b6 0
      have e1 := b6 1
      have e2 := b6 2
      have e3 := b6 3
      have e4 := b6 4
      have e5 := b6 5
      have HEE := Lib.hid HE.out
      have hne : (loadE b n != 0) = true := by simpa using HE.out
      generalize loadE b n = ec at *
      clear hb b6 HNR
      go_wp2_with (fail)
      (with_reducible refine (num_err ec _).mono ?_)
      rintro e w8 ⟨rfl, rfl⟩
      go_wp2
      go_ret
      refine ⟨rfl, ?_⟩
      (repeat (refine Below.setCell ?_ (by simp only; omega) _))
      exact HB7.out
  · obtain ⟨nb, rfl⟩ : ∃ q : Nat, a = (q : Int) := ⟨a.toNat, by omega⟩
    obtain ⟨np, hnp⟩ : ∃ q : Nat, b = (q : Int) := ⟨b.toNat, by omega⟩
    have hb1 : 1 ≤ nb := by omega
    have hb2 : nb ≤ 64 := by omega
    have hp1 : 1 ≤ np := by omega
    have hp2 : np ≤ 16 := by omega
    subst hnp
    clear hbad
    go_enter Try.func10, Try.ntmps10
    go_wp2_with (fail)
    (with_reducible refine (awake_any w).mono ?_)
    rintro e w1 ⟨rfl, hb⟩
    have HB1 := Lib.hid hb
    clear hb
    go_wp2_with (fail)
    (with_reducible refine (new_ok nb np w1 hb1 hb2 hp1 hp2).mono ?_)
    rintro e w2 ⟨L, rfl, hF⟩
    have HF2 := Lib.hid hF
    clear hF
    have g6 := eqp_some L.d
    have g7 := nep_some L.d
    go_wp2_with (fail)
    (with_reducible refine (newR_any (X := XL L) nb np w2 (xl_lt HF2.out) hb1 hb2 hp1 hp2).mono ?_)
    rintro e w3 ⟨⟨yA, yc, yB, yd, yP, yr⟩, rfl, hr, hb⟩
    have HB3 : Hid (Below w.heap.size w w3) := HB1.out.trans ((HF2.out.below.trans (hb.mono HF2.out.below.size)).mono HB1.out.size)
    obtain ⟨NF, hNF⟩ : ∃ f, newF nb np = f := ⟨_, rfl⟩
    rw [hNF] at HF2 hr ⊢
    have hnp : NF.picks = [] := by rw [← hNF]; rfl
    have HNP := Lib.hid hnp
    clear hNF hnp
    have HF4 : Hid (FlAt w1 (w3.alloc (.cells #[.slice yA NF.img.length yc, .int .i64 NF.pg, .slice yB NF.wear.length yd, .bool NF.down, .int .i64 NF.fuse, .slice yP NF.picks.length yr] 60)) L NF) := (HF2.out.later hb).later (below_one _ _)
    have HR4 : Hid (RAt (XL L) (w3.alloc (.cells #[.slice yA NF.img.length yc, .int .i64 NF.pg, .slice yB NF.wear.length yd, .bool NF.down, .int .i64 NF.fuse, .slice yP NF.picks.length yr] 60)) ⟨yA, yc, yB, yd, yP, yr⟩ NF) := RAt.below hr (below_one _ _)
    have h6 : six (w3.alloc (.cells #[.slice yA NF.img.length yc, .int .i64 NF.pg, .slice yB NF.wear.length yd, .bool NF.down, .int .i64 NF.fuse, .slice yP NF.picks.length yr] 60)) w3.heap.size (.slice yA NF.img.length yc) (.int .i64 NF.pg) (.slice yB NF.wear.length yd) (.bool NF.down) (.int .i64 NF.fuse) (.slice yP NF.picks.length yr) := six_new _ _ _ _ _ _ _ _ _ rfl
    have HB4 : Hid (Below w.heap.size w (w3.alloc (.cells #[.slice yA NF.img.length yc, .int .i64 NF.pg, .slice yB NF.wear.length yd, .bool NF.down, .int .i64 NF.fuse, .slice yP NF.picks.length yr] 60))) := HB3.out.alloc HB3.out.size _
    have H6 := Lib.hid h6
    clear hr hb h6
    simp only [Rc.v]
    go_wp2_with (fail)
    generalize (w3.alloc (.cells #[.slice yA NF.img.length yc, .int .i64 NF.pg, .slice yB NF.wear.length yd, .bool NF.down, .int .i64 NF.fuse, .slice yP NF.picks.length yr] 60)) = V at *
    obtain ⟨a0, a1, a2, a3, a4, a5, _⟩ := H6.out
    (with_reducible refine (num_nil _).mono ?_)
    rintro e w4 ⟨rfl, rfl⟩
    go_wp2_with (fail)
    (with_reducible refine (same_any HF4.out HR4.out (Sim.refl _)).mono ?_)
    rintro e w5 ⟨rfl, hb⟩
    have HB5 : Hid (Below w.heap.size w w5) := HB4.out.trans (hb.mono HB4.out.size)
    have H65 := Lib.hid (H6.out.below hb H6.out.lt)
    have HG : Hid (w.heap.size ≤ w3.heap.size) := HB3.out.size
    clear hb a0 a1 a2 a3 a4 a5
    have h65 := H65.out
    generalize w3.heap.size = G9 at *
    obtain ⟨v0, v1, v2, v3, v4, v5, h65b⟩ : ∃ v0 v1 v2 v3 v4 v5, six w5 G9 v0 v1 v2 v3 v4 v5 := ⟨_, _, _, _, _, _, h65⟩
    have H7 := Lib.hid h65b
    clear h65 h65b H65 H6 HF2 HF4 HR4 HB4 HB3 g6 g7
    by_cases hE : loadE (np : Int) n = 0
    · skip
      have HE := Lib.hid hE
      clear hE
      have HAW : Hid (Rd w5 w5.heap.size A (kcells .u8 l)) := (HA.out.below HB5.out (Nat.le_refl _)).more HB5.out.size
      go_wp2_with (fail)
      (with_reducible refine (load_ok np A n c l w5 HAW.out HL.out HBY.out HE.out).mono ?_)
      rintro e w6 ⟨L2, rfl, hF⟩
      have HF6 := Lib.hid hF
      have hG5 := H7.out.lt
      have HGN : Hid (G9 ≠ L2.d ∧ G9 ≠ L2.gi ∧ G9 ≠ L2.gw) := by
        have h1 := hF.bd
        have h2 := hF.bi.1
        have h3 := hF.bw.1
        exact ⟨by omega, by omega, by omega⟩
      clear hF
      have g6 := eqp_some L2.d
      have g7 := nep_some L2.d
      have HAV : Hid (Rd w6 w6.heap.size A (kcells .u8 l)) := (HAW.out.below HF6.out.below (Nat.le_refl _)).more HF6.out.below.size
      go_wp2_with (fail)
      (with_reducible refine (loadR_ok (X := fun k => XL L2 k ∨ k = G9) np A n c l w6 (fun k hk => hk.elim (fun h => xl_lt HF6.out k h) (fun h => by have := HF6.out.below.size; omega)) HAV.out HL.out HBY.out HE.out).mono ?_)
      rintro e w7 ⟨⟨yA, yc, yB, yd, yP, yr⟩, rfl, hr, hb⟩
      obtain ⟨NF, hNF⟩ : ∃ f, loadF np l = f := ⟨_, rfl⟩
      rw [hNF] at HF6 hr ⊢
      have hnp : NF.picks = [] := by rw [← hNF]; rfl
      have HNP := Lib.hid hnp
      clear hNF hnp
      have HF7 : Hid (FlAt w w7 L2 NF) := (HF6.out.later hb).base HB5.out
      have H77 := Lib.hid ((H7.out.below HF6.out.below hG5).below hb (by have := HF6.out.below.size; omega))
      have HR7 := Lib.hid hr
      obtain ⟨V7, hV7⟩ : ∃ V, put6 w7 G9 (.slice yA NF.img.length yc) (.int .i64 NF.pg) (.slice yB NF.wear.length yd) (.bool NF.down) (.int .i64 NF.fuse) (.slice yP NF.picks.length yr) = V := ⟨_, rfl⟩
      have HF8 : Hid (FlAt w V7 L2 NF) := by rw [← hV7]; exact HF7.out.put6 G9 HG.out HGN.out.1 HGN.out.2.1 HGN.out.2.2 HNP.out _ _ _ _ _ _
      have HR8 : Hid (RAt (fun k => XL L2 k ∨ k = G9) V7 ⟨yA, yc, yB, yd, yP, yr⟩ NF) := by rw [← hV7]; exact HR7.out.put6 (.inr rfl) _ _ _ _ _ _
      have h8 : six V7 G9 (.slice yA NF.img.length yc) (.int .i64 NF.pg) (.slice yB NF.wear.length yd) (.bool NF.down) (.int .i64 NF.fuse) (.slice yP NF.picks.length yr) := by rw [← hV7]; exact H77.out.put _ _ _ _ _ _
      unfold put6 at hV7
      obtain ⟨b0, b1, b2, b3, b4, b5, b6⟩ := H77.out
      have e0 := b6 0
      have e1 := b6 1
      have e2 := b6 2
      have e3 := b6 3
      have e4 := b6 4
      have e5 := b6 5
      have H8 := Lib.hid h8
      clear hr hb b6 h8 hG5
      simp only [Rc.v]
      go_wp2_with (fail)
      try rw [hV7]
      clear hV7 b0 b1 b2 b3 b4 b5 e0 e1 e2 e3 e4 e5
      (with_reducible refine (num_nil _).mono ?_)
      rintro e w8 ⟨rfl, rfl⟩
      obtain ⟨b0, b1, b2, b3, b4, b5, b6⟩ := H8.out
      clear b6
      go_wp2_with (fail)
      (with_reducible refine (same_any HF8.out HR8.out (Sim.refl _)).mono ?_)
      rintro e w9 ⟨rfl, hb⟩
      have HB9 : Hid (Below w.heap.size w w9) := HF8.out.below.trans (hb.mono HF8.out.below.size)
      clear hb
      go_wp2
      go_ret
      exact ⟨rfl, HB9.out⟩
    · have HE : Hid (loadE (np : Int) n ≠ 0) := hE
      clear hE
      have hnn : n ≤ 140737488351232 := by omega
      go_wp2_with (fail)
      (with_reducible refine (load_no (np : Int) A n c w5 hnn HE.out).mono ?_)
      rintro e w6 ⟨rfl, rfl⟩
      have HNR := Lib.hid (loadR_no (np : Int) A n c w5 hnn HE.out)
      unfold zeroR at HNR
      have hEz : (loadE (np : Int) n == 0) = false := by simpa using HE.out
      go_wp2_with (fail)
      (with_reducible refine HNR.out.mono ?_)
      rintro e w7 ⟨rfl, hb⟩
      have H77 := Lib.hid (H7.out.below hb H7.out.lt)
      have HB7 : Hid (Below w.heap.size w w7) := HB5.out.trans (hb.mono HB5.out.size)
      have hG := HG.out
      obtain ⟨b0, b1, b2, b3, b4, b5, b6⟩ := H77.out
      have e0 := b6 0
      have e1 := b6 1
      have e2 := b6 2
      have e3 := b6 3
      have e4 := b6 4
      have e5 := b6 5
      have HEE := Lib.hid HE.out
      have hne : (loadE (np : Int) n != 0) = true := by simpa using HE.out
      generalize loadE (np : Int) n = ec at *
      clear hb b6 HNR
      go_wp2_with (fail)
      (with_reducible refine (num_err ec _).mono ?_)
      rintro e w8 ⟨rfl, rfl⟩
      go_wp2
      go_ret
      refine ⟨rfl, ?_⟩
      (repeat (refine Below.setCell ?_ (by simp only; omega) _))
      exact HB7.out
end Go.Proofs.Ytfeceamhlphelaa
