/-
  ParamsOpens: any flash, any region, any specification.
-/
import Derived.Test.YtfeceamhlphelaaW72
import Derived.Test.YtfeceamhlphelaaW73
import Derived.Test.YtfeceamhlphelaaW27
import Derived.Test.YtfeceamhlphelaaW56
namespace Go.Proofs.Ytfeceamhlphelaa
open Go.RowKit
set_option linter.unusedVariables false
set_option linter.unusedSimpArgs false

/-- The reference's Open, one contract. -/
theorem open_r {X : Nat → Prop} {w : World} {x : Rc} {g : Fl} (h : RAt X w x g) (hX : ∀ b, X b → b < w.heap.size) (fi bl : Int) (hf : I64 fi) (hb : I64 bl) (A : Option Addr) (n c : Nat) (sp : List Par) (hA : Rd w w.heap.size A (pcells sp)) (hsl : sp.length = n) (hnc : n ≤ c) (hcm : c ≤ maxLen) (hok : ∀ p ∈ sp, p.ok) :
    Calls Try.prog 65 #[x.v g, .int .i64 fi, .int .i64 bl, .slice A n c] w fun e w' => ∃ v, e = .returned (.tuple #[v, .int .i64 (openE g fi bl sp)]) ∧ Below w.heap.size w w' ∧ (openE g fi bl sp = 0 → RsO X w' v (openF g fi.toNat bl.toNat sp)) ∧ (openE g fi bl sp ≠ 0 → v = zeroS) := by
  have hnm : n ≤ maxLen := Nat.le_trans hnc hcm
  have no : ∀ k : Int, openE g fi bl sp = k → k ≠ 0 → ((g.down = true ∧ k = 20) ∨ (g.down = false ∧ ((bl < 2 ∧ k = 3) ∨ (¬ bl < 2 ∧ 16 < bl ∧ k = 3) ∨ (¬ bl < 2 ∧ ¬ 16 < bl ∧ ((fi < 0 ∧ k = 10) ∨ (¬ fi < 0 ∧ (g.wear.length : Int) - bl < fi ∧ k = 10) ∨ (¬ fi < 0 ∧ ¬ (g.wear.length : Int) - bl < fi ∧ ((n < 1 ∧ k = 3) ∨ (¬ n < 1 ∧ 48 < n ∧ k = 3)))))))) →
      Calls Try.prog 65 #[x.v g, .int .i64 fi, .int .i64 bl, .slice A n c] w fun e w' => ∃ v, e = .returned (.tuple #[v, .int .i64 (openE g fi bl sp)]) ∧ Below w.heap.size w w' ∧ (openE g fi bl sp = 0 → RsO X w' v (openF g fi.toNat bl.toNat sp)) ∧ (openE g fi bl sp ≠ 0 → v = zeroS) := by
    intro k he hk hd
    refine (open_r0 h fi bl A n c hnm hb.2 k hd).mono ?_
    rintro e w' ⟨rfl, hbl⟩
    exact ⟨zeroS, by rw [he], hbl, fun h => absurd (he.symm.trans h) hk, fun _ => rfl⟩
  by_cases hd : g.down = true
  · exact no 20 (by unfold openE; rw [if_pos hd]) (by decide) (.inl ⟨hd, rfl⟩)
  have hd' : g.down = false := by simpa using hd
  by_cases h1 : bl < 2 ∨ 16 < bl
  · refine no 3 (by unfold openE; rw [if_neg hd, if_pos h1]) (by decide) (.inr ⟨hd', ?_⟩)
    by_cases h2 : bl < 2
    · exact .inl ⟨h2, rfl⟩
    · exact .inr (.inl ⟨h2, by omega, rfl⟩)
  by_cases h2 : fi < 0 ∨ (g.wear.length : Int) - bl < fi
  · refine no 10 (by unfold openE; rw [if_neg hd, if_neg h1, if_pos h2]) (by decide) (.inr ⟨hd', .inr (.inr ⟨by omega, by omega, ?_⟩)⟩)
    by_cases h3 : fi < 0
    · exact .inl ⟨h3, rfl⟩
    · exact .inr (.inl ⟨h3, by omega, rfl⟩)
  by_cases h3 : sp.length < 1 ∨ 48 < sp.length
  · refine no 3 (by unfold openE; rw [if_neg hd, if_neg h1, if_neg h2, if_pos h3]) (by decide) (.inr ⟨hd', .inr (.inr ⟨by omega, by omega, .inr (.inr ⟨by omega, by omega, ?_⟩)⟩)⟩)
    by_cases h4 : n < 1
    · exact .inl ⟨h4, rfl⟩
    · exact .inr ⟨h4, by omega, rfl⟩
  obtain ⟨f, rfl⟩ := Int.eq_ofNat_of_zero_le (a := fi) (by omega)
  obtain ⟨b, rfl⟩ := Int.eq_ofNat_of_zero_le (a := bl) (by omega)
  rw [Int.toNat_natCast, Int.toNat_natCast]
  by_cases hany : sp.any badP = true
  · exact (open_bad h hX f b A n c sp hA hsl hnc hcm hok hd' (by omega) (by omega) (by omega) (by omega) (by omega) hany).mono fun e w' ⟨v, h1, h2, h3, h4⟩ => ⟨v, h1, h2, h3, h4⟩
  have hany' : sp.any badP = false := by simpa using hany
  by_cases hpg : g.pg < pgs sp.length
  · exact (open_pg h hX f b A n c sp hA hsl hnc hcm hok hd' (by omega) (by omega) (by omega) (by omega) (by omega) hany' hpg).mono fun e w' ⟨v, h1, h2, h3, h4⟩ => ⟨v, h1, h2, h3, h4⟩
  · exact (open_ok9 h hX f b A n c sp hA hsl hnc hcm hok hd' (by omega) (by omega) (by omega) (by omega) (by omega) hany' hpg).mono fun e w' ⟨v, h1, h2, h3, h4⟩ => ⟨v, h1, h2, h3, h4⟩

theorem openStep_br (f : Fl) (s : St) (b j : Nat) : (openStep f s b j).broken = s.broken := by
  unfold openStep
  simp only
  split <;> rfl
theorem openRow_br (f : Fl) (b : Nat) (s : St) (n : Nat) : (openRow f b s n).broken = s.broken := by
  induction n with
  | zero => rfl
  | succ n ih => rw [openRow_succ, openStep_br, ih]
theorem openAll_br (f : Fl) (n : Nat) (s : St) (m : Nat) : (openAll f n s m).broken = s.broken := by
  induction m with
  | zero => rfl
  | succ m ih => rw [openAll_succ, openRow_br, ih]
theorem openF_br (f : Fl) (fi bl : Nat) (sp : List Par) : (openF f fi bl sp).broken = false := by
  unfold openF
  simp only
  rw [openAll_br]
  rfl
set_option maxRecDepth 100000 in
theorem opens_long (A : Option Addr) (n c : Nat) (a b f k : Int) (B : Option Addr) (m z : Nat) (w : World) (hn : n ≤ maxLen) (hm : m ≤ maxLen) (h : 30000 < n ∨ (¬ 30000 < n ∧ 60 < m)) :
    Calls Try.prog 18 #[.slice A n c, .agg #[.int .i64 a, .int .i64 b, .int .i64 f, .int .i64 k], .slice B m z] w fun e w' => e = .returned (.bool true) ∧ Below w.heap.size w w' := by
  unfold maxLen at hn hm
  rcases h with h | ⟨h1, h2⟩
  all_goals
    go_enter Try.func18, Try.ntmps18
    go_wp2_with (fail)
    (with_reducible refine (awake51_any _).mono ?_)
    rintro e w1 ⟨rfl, hb⟩
    have HB1 : Hid (Below w.heap.size w w1) := (below_one _ _).trans (hb.mono (below_one _ _).size)
    clear hb
    go_wp2_with (fail)
    (with_reducible refine (awake51_any w1).mono ?_)
    rintro e w2 ⟨rfl, hb⟩
    have HB2 : Hid (Below w.heap.size w w2) := HB1.out.trans (hb.mono HB1.out.size)
    clear hb
    go_wp2
    go_ret
    exact ⟨rfl, HB2.out⟩

set_option maxRecDepth 100000 in
set_option maxHeartbeats 8000000 in
theorem opens_main (A : Option Addr) (n c : Nat) (l : List Int) (a b f k : Int) (hb64 : I64 b) (hf64 : I64 f) (hk64 : I64 k) (B : Option Addr) (m z : Nat) (sp : List Par) (w : World) (hA : Rd w w.heap.size A (kcells .u8 l)) (hn : l.length = n) (hnc : n ≤ c) (hcm : c ≤ maxLen) (hl : Bytes l)
    (hB : Rd w w.heap.size B (pcells sp)) (hm : sp.length = m) (hmz : m ≤ z) (hzm : z ≤ maxLen) (hok : ∀ p ∈ sp, p.ok) (h30 : n ≤ 30000) (h60 : m ≤ 60) :
    Calls Try.prog 18 #[.slice A n c, .agg #[.int .i64 a, .int .i64 b, .int .i64 f, .int .i64 k], .slice B m z] w fun e w' => e = .returned (.bool true) ∧ Below w.heap.size w w' := by
  have g1 := ne_nil
  have g2 := ne_err
  have g3 := eqq_none
  have HA := Lib.hid hA
  have HN := Lib.hid hn
  have HL := Lib.hid hl
  have HB := Lib.hid hB
  have HM := Lib.hid hm
  have HOK := Lib.hid hok
  have HCM := Lib.hid hcm
  have HZM := Lib.hid hzm
  unfold maxLen at hcm hzm
  obtain ⟨V, hV⟩ : ∃ V, w.alloc (.cells #[.int .i64 a, .int .i64 b, .int .i64 f, .int .i64 k] 82) = V := ⟨_, rfl⟩
  have HBV : Hid (Below w.heap.size w V) := by rw [← hV]; exact (Below.refl _ _).alloc (Nat.le_refl _) _
  have HCV : Hid (four V w.heap.size (.int .i64 a) (.int .i64 b) (.int .i64 f) (.int .i64 k)) := by rw [← hV]; exact four_new _ _ _ _ _ _ _ rfl
  clear hA hn hl hB hm hok
  go_enter Try.func18, Try.ntmps18
  go_wp2_with (fail)
  try rw [hV]
  clear hV
  (with_reducible refine (awake51_any V).mono ?_)
  rintro e w1 ⟨rfl, hb⟩
  have HB1 : Hid (Below w.heap.size w w1) := HBV.out.trans (hb.mono HBV.out.size)
  have HC1 := Lib.hid (HCV.out.below hb HCV.out.lt)
  obtain ⟨d0, d1, d2, d3, _⟩ := HC1.out
  clear hb
  have HA1 := Lib.hid ((HA.out.below HB1.out (Nat.le_refl _)).more HB1.out.size)
  by_cases hE : loadE b n = 0
  rotate_left
  · have HLO := Lib.hid (load_no b A n c w1 (by omega) hE)
    have HLR := Lib.hid (fun w => loadR_no b A n c w (by omega) hE)
    have hne : (loadE b n != 0) = true := by simpa using hE
    have hnn : (loadE b n != loadE b n) = false := by simp
    generalize loadE b n = kk at *
    clear hE
    go_wp2_with (fail)
    (with_reducible refine HLO.out.mono ?_)
    rintro e w2 ⟨rfl, rfl⟩
    go_wp2_with (fail)
    (with_reducible refine (HLR.out _).mono ?_)
    rintro e w3 ⟨rfl, hb3⟩
    have HB3 : Hid (Below w.heap.size w w3) := HB1.out.trans (hb3.mono HB1.out.size)
    unfold zeroR
    clear hb3 d0 d1 d2 d3
    go_wp2_with (fail)
    (with_reducible refine (num_err _ _).mono ?_)
    rintro e w4 ⟨rfl, rfl⟩
    go_wp2_with (fail)
    (with_reducible refine (num_err _ _).mono ?_)
    rintro e w5 ⟨rfl, rfl⟩
    go_wp2
    go_ret
    exact ⟨rfl, HB3.out.alloc HB3.out.size _⟩
  · obtain ⟨q, rfl⟩ : ∃ q : Nat, b = q := by
      unfold loadE at hE
      split at hE
      · cases hE
      · rename_i h1
        exact ⟨b.toNat, by omega⟩
    have HLO := Lib.hid (load_ok q A n c l w1 HA1.out HN.out HL.out hE)
    have HEE := Lib.hid hE
    clear hE
    go_wp2_with (fail)
    clear d0 d1 d2 d3
    (with_reducible refine HLO.out.mono ?_)
    rintro e w2 ⟨L, rfl, hF⟩
    have HF2 := Lib.hid hF
    have HB2 : Hid (Below w.heap.size w w2) := HB1.out.trans (hF.below.mono HB1.out.size)
    have HA2 := Lib.hid ((HA.out.below HB2.out (Nat.le_refl _)).more HB2.out.size)
    have HC2 := Lib.hid (HC1.out.below hF.below HC1.out.lt)
    have HLR := Lib.hid (loadR_ok (X := fun _ => False) q A n c l w2 (fun _ h => h.elim) HA2.out HN.out HL.out HEE.out)
    obtain ⟨d0, d1, d2, d3, _⟩ := HC2.out
    clear hF
    go_wp2_with (fail)
    clear d0 d1 d2 d3
    (with_reducible refine HLR.out.mono ?_)
    rintro e w3 ⟨y, rfl, hy, hb3⟩
    have HY3 := Lib.hid hy
    have HF3 := Lib.hid (HF2.out.later hb3)
    have HB3 : Hid (Below w.heap.size w w3) := HB2.out.trans (hb3.mono HB2.out.size)
    have HC3 := Lib.hid (HC2.out.below hb3 HC2.out.lt)
    obtain ⟨F0, hF0⟩ : ∃ F, loadF q l = F := ⟨_, rfl⟩
    have HF0 := Lib.hid hF0
    rw [hF0] at HF3 HY3 ⊢
    clear hy hb3 hF0
    go_wp2_with (fail)
    (with_reducible refine (num_nil _).mono ?_)
    rintro e w4 ⟨rfl, rfl⟩
    obtain ⟨W4, hW4⟩ : ∃ W, w3.alloc (.cells #[.slice y.A F0.img.length y.c, .int .i64 F0.pg, .slice y.B F0.wear.length y.d, .bool F0.down, .int .i64 F0.fuse, .slice y.P F0.picks.length y.r] 60) = W := ⟨_, rfl⟩
    have hb4 : Below w3.heap.size w3 W4 := by rw [← hW4]; exact below_one _ _
    have HFC : Hid (∀ W', Below W4.heap.size W4 W' → W'.cell? ⟨w3.heap.size, 0, none⟩ = some (.slice y.A F0.img.length y.c) ∧ W'.cell? ⟨w3.heap.size, 1, none⟩ = some (.int .i64 F0.pg) ∧ W'.cell? ⟨w3.heap.size, 2, none⟩ = some (.slice y.B F0.wear.length y.d) ∧ W'.cell? ⟨w3.heap.size, 3, none⟩ = some (.bool F0.down) ∧ W'.cell? ⟨w3.heap.size, 4, none⟩ = some (.int .i64 F0.fuse) ∧ W'.cell? ⟨w3.heap.size, 5, none⟩ = some (.slice y.P F0.picks.length y.r)) := by
      have x0 : W4.cell? ⟨w3.heap.size, 0, none⟩ = some (.slice y.A F0.img.length y.c) := by rw [← hW4]; exact cell_new_at _ _ _ _ _ _ rfl rfl
      have x1 : W4.cell? ⟨w3.heap.size, 1, none⟩ = some (.int .i64 F0.pg) := by rw [← hW4]; exact cell_new_at _ _ _ _ _ _ rfl rfl
      have x2 : W4.cell? ⟨w3.heap.size, 2, none⟩ = some (.slice y.B F0.wear.length y.d) := by rw [← hW4]; exact cell_new_at _ _ _ _ _ _ rfl rfl
      have x3 : W4.cell? ⟨w3.heap.size, 3, none⟩ = some (.bool F0.down) := by rw [← hW4]; exact cell_new_at _ _ _ _ _ _ rfl rfl
      have x4 : W4.cell? ⟨w3.heap.size, 4, none⟩ = some (.int .i64 F0.fuse) := by rw [← hW4]; exact cell_new_at _ _ _ _ _ _ rfl rfl
      have x5 : W4.cell? ⟨w3.heap.size, 5, none⟩ = some (.slice y.P F0.picks.length y.r) := by rw [← hW4]; exact cell_new_at _ _ _ _ _ _ rfl rfl
      have hg := World.block_lt_of_cell? W4 _ x0
      intro W' hb
      exact ⟨(hb.cell (p := ⟨w3.heap.size, 0, none⟩) hg).trans x0, (hb.cell (p := ⟨w3.heap.size, 1, none⟩) hg).trans x1, (hb.cell (p := ⟨w3.heap.size, 2, none⟩) hg).trans x2, (hb.cell (p := ⟨w3.heap.size, 3, none⟩) hg).trans x3, (hb.cell (p := ⟨w3.heap.size, 4, none⟩) hg).trans x4, (hb.cell (p := ⟨w3.heap.size, 5, none⟩) hg).trans x5⟩
    have HF4 := Lib.hid (HF3.out.later hb4)
    have HY4 := Lib.hid (HY3.out.below hb4)
    have HC4 := Lib.hid (HC3.out.below hb4 HC3.out.lt)
    have HB4 : Hid (Below w.heap.size w W4) := HB3.out.trans (hb4.mono HB3.out.size)
    have HSP4 := Lib.hid ((HB.out.below HB4.out (Nat.le_refl _)).more HB4.out.size)
    try rw [hW4]
    clear hW4 hb4
    obtain ⟨d0, d1, d2, d3, _⟩ := HC4.out
    by_cases hoe : openE F0 f k sp = 0
    · obtain ⟨fi, rfl⟩ := Int.eq_ofNat_of_zero_le (a := f) (openE_zero hoe).2.2.2.1
      obtain ⟨bl, rfl⟩ := Int.eq_ofNat_of_zero_le (a := k) (by have := (openE_zero hoe).2.1; omega)
      have HOE := Lib.hid hoe
      go_wp2_with (fail)
      clear d0 d1 d2 d3
      (with_reducible refine (open_yes HF4.out fi bl B m z sp HSP4.out HM.out hmz HZM.out HOK.out HOE.out).mono ?_)
      rintro e w5 ⟨S, rfl, hS, hb5, _, _⟩
      have HS5 := Lib.hid hS
      have HY5 := Lib.hid (HY4.out.below hb5)
      have HC5 := Lib.hid (HC4.out.below hb5 HC4.out.lt)
      have HB5 : Hid (Below w.heap.size w w5) := HB4.out.trans (hb5.mono HB4.out.size)
      have HSP5 := Lib.hid ((HB.out.below HB5.out (Nat.le_refl _)).more HB5.out.size)
      have HREF := Lib.hid (open_r (X := fun _ => False) HY5.out (fun _ h => h.elim) (fi : Int) (bl : Int) hf64 hk64 B m z sp HSP5.out HM.out hmz HZM.out HOK.out)
      rw [HOE.out, Int.toNat_natCast, Int.toNat_natCast] at HREF
      obtain ⟨x0, x1, x2, x3, x4, x5⟩ := HFC.out w5 hb5
      obtain ⟨d0, d1, d2, d3, _⟩ := HC5.out
      clear hS hb5 hoe
      go_wp2_with (fail)
      clear d0 d1 d2 d3 x0 x1 x2 x3 x4 x5
      (with_reducible refine HREF.out.mono ?_)
      rintro e w6 ⟨v, rfl, hb6, hrs, _⟩
      obtain ⟨Q1, c1, Q2, c2, Q3, c3, rfl, r1, r11, r12, r2, r21, r22, r3, r31, r32⟩ := hrs trivial
      have hbr := openF_br F0 fi bl sp
      have hok9 := openF_ok (f := F0) HOK.out HOE.out
      obtain ⟨T, hT⟩ : ∃ T, openF F0 fi bl sp = T := ⟨_, rfl⟩
      rw [hT] at HS5 r1 r11 r2 r21 r3 r31 hbr hok9 ⊢
      have HOT := Lib.hid hok9
      have HBR := Lib.hid hbr
      have HS6 := Lib.hid (HS5.out.later hb6)
      have HB6 : Hid (Below w.heap.size w w6) := HB5.out.trans (hb6.mono HB5.out.size)
      have HR2 := Lib.hid r2
      have HR3 := Lib.hid r3
      clear hrs
      go_upto_region 9 with (fail)
      obtain ⟨W7, hW7⟩ : ∃ W, w6.alloc (.cells #[.int .i64 T.first, .int .i64 T.blocks, .slice Q1 T.spec.length c1, .slice Q2 T.staged.length c2, .slice Q3 T.saved.length c3, .int .i64 T.seq, .int .i64 T.block, .int .i64 T.slot, .slice none 0 0, .slice none 0 0, .int .i64 0, .int .i64 (-1), .int .i64 0, .int .i64 0, .bool false] 105) = W := ⟨_, rfl⟩
      have HBW7 : Hid (Below w6.heap.size w6 W7) := by rw [← hW7]; exact below_one _ _
      have HKX : Hid (∀ W', Below W7.heap.size W7 W' → W'.cell? ⟨w6.heap.size, 0, none⟩ = some (.int .i64 T.first) ∧ W'.cell? ⟨w6.heap.size, 1, none⟩ = some (.int .i64 T.blocks) ∧ W'.cell? ⟨w6.heap.size, 2, none⟩ = some (.slice Q1 T.spec.length c1) ∧ W'.cell? ⟨w6.heap.size, 3, none⟩ = some (.slice Q2 T.staged.length c2) ∧ W'.cell? ⟨w6.heap.size, 4, none⟩ = some (.slice Q3 T.saved.length c3) ∧ W'.cell? ⟨w6.heap.size, 5, none⟩ = some (.int .i64 T.seq) ∧ W'.cell? ⟨w6.heap.size, 6, none⟩ = some (.int .i64 T.block) ∧ W'.cell? ⟨w6.heap.size, 7, none⟩ = some (.int .i64 T.slot) ∧ W'.cell? ⟨w6.heap.size, 8, none⟩ = some (.slice none 0 0) ∧ W'.cell? ⟨w6.heap.size, 9, none⟩ = some (.slice none 0 0) ∧ W'.cell? ⟨w6.heap.size, 10, none⟩ = some (.int .i64 0) ∧ W'.cell? ⟨w6.heap.size, 11, none⟩ = some (.int .i64 (-1)) ∧ W'.cell? ⟨w6.heap.size, 12, none⟩ = some (.int .i64 0) ∧ W'.cell? ⟨w6.heap.size, 13, none⟩ = some (.int .i64 0) ∧ W'.cell? ⟨w6.heap.size, 14, none⟩ = some (.bool false)) := by
        have x0 : W7.cell? ⟨w6.heap.size, 0, none⟩ = some (.int .i64 T.first) := by rw [← hW7]; exact cell_new_at _ _ _ _ _ _ rfl rfl
        have x1 : W7.cell? ⟨w6.heap.size, 1, none⟩ = some (.int .i64 T.blocks) := by rw [← hW7]; exact cell_new_at _ _ _ _ _ _ rfl rfl
        have x2 : W7.cell? ⟨w6.heap.size, 2, none⟩ = some (.slice Q1 T.spec.length c1) := by rw [← hW7]; exact cell_new_at _ _ _ _ _ _ rfl rfl
        have x3 : W7.cell? ⟨w6.heap.size, 3, none⟩ = some (.slice Q2 T.staged.length c2) := by rw [← hW7]; exact cell_new_at _ _ _ _ _ _ rfl rfl
        have x4 : W7.cell? ⟨w6.heap.size, 4, none⟩ = some (.slice Q3 T.saved.length c3) := by rw [← hW7]; exact cell_new_at _ _ _ _ _ _ rfl rfl
        have x5 : W7.cell? ⟨w6.heap.size, 5, none⟩ = some (.int .i64 T.seq) := by rw [← hW7]; exact cell_new_at _ _ _ _ _ _ rfl rfl
        have x6 : W7.cell? ⟨w6.heap.size, 6, none⟩ = some (.int .i64 T.block) := by rw [← hW7]; exact cell_new_at _ _ _ _ _ _ rfl rfl
        have x7 : W7.cell? ⟨w6.heap.size, 7, none⟩ = some (.int .i64 T.slot) := by rw [← hW7]; exact cell_new_at _ _ _ _ _ _ rfl rfl
        have x8 : W7.cell? ⟨w6.heap.size, 8, none⟩ = some (.slice none 0 0) := by rw [← hW7]; exact cell_new_at _ _ _ _ _ _ rfl rfl
        have x9 : W7.cell? ⟨w6.heap.size, 9, none⟩ = some (.slice none 0 0) := by rw [← hW7]; exact cell_new_at _ _ _ _ _ _ rfl rfl
        have x10 : W7.cell? ⟨w6.heap.size, 10, none⟩ = some (.int .i64 0) := by rw [← hW7]; exact cell_new_at _ _ _ _ _ _ rfl rfl
        have x11 : W7.cell? ⟨w6.heap.size, 11, none⟩ = some (.int .i64 (-1)) := by rw [← hW7]; exact cell_new_at _ _ _ _ _ _ rfl rfl
        have x12 : W7.cell? ⟨w6.heap.size, 12, none⟩ = some (.int .i64 0) := by rw [← hW7]; exact cell_new_at _ _ _ _ _ _ rfl rfl
        have x13 : W7.cell? ⟨w6.heap.size, 13, none⟩ = some (.int .i64 0) := by rw [← hW7]; exact cell_new_at _ _ _ _ _ _ rfl rfl
        have x14 : W7.cell? ⟨w6.heap.size, 14, none⟩ = some (.bool false) := by rw [← hW7]; exact cell_new_at _ _ _ _ _ _ rfl rfl
        have hg := World.block_lt_of_cell? W7 _ x0
        intro W' hb
        exact ⟨(hb.cell (p := ⟨w6.heap.size, 0, none⟩) hg).trans x0, (hb.cell (p := ⟨w6.heap.size, 1, none⟩) hg).trans x1, (hb.cell (p := ⟨w6.heap.size, 2, none⟩) hg).trans x2, (hb.cell (p := ⟨w6.heap.size, 3, none⟩) hg).trans x3, (hb.cell (p := ⟨w6.heap.size, 4, none⟩) hg).trans x4, (hb.cell (p := ⟨w6.heap.size, 5, none⟩) hg).trans x5, (hb.cell (p := ⟨w6.heap.size, 6, none⟩) hg).trans x6, (hb.cell (p := ⟨w6.heap.size, 7, none⟩) hg).trans x7, (hb.cell (p := ⟨w6.heap.size, 8, none⟩) hg).trans x8, (hb.cell (p := ⟨w6.heap.size, 9, none⟩) hg).trans x9, (hb.cell (p := ⟨w6.heap.size, 10, none⟩) hg).trans x10, (hb.cell (p := ⟨w6.heap.size, 11, none⟩) hg).trans x11, (hb.cell (p := ⟨w6.heap.size, 12, none⟩) hg).trans x12, (hb.cell (p := ⟨w6.heap.size, 13, none⟩) hg).trans x13, (hb.cell (p := ⟨w6.heap.size, 14, none⟩) hg).trans x14⟩
      have HS7 := Lib.hid (HS6.out.later HBW7.out)
      have HB7 : Hid (Below w.heap.size w W7) := HB6.out.trans (HBW7.out.mono HB6.out.size)
      have hil : F0.img.length = n := by rw [← HF0.out]; exact HN.out
      have him : F0.img = l := by rw [← HF0.out]; rfl
      have HIW : Hid (∀ W', Below W7.heap.size W7 W' → Calls Try.prog 36 #[.pointer (some ⟨L.d, 0, none⟩)] W' fun e w' => ∃ A c, e = .returned (.slice A n c) ∧ (convert 23 9 (.slice A n c)).run Try.prog w' = .ok (.string (strOfNums l)) w' ∧ (convert 23 9 (.slice A n c)).run Try.prog w' = .ok (.string (strOfNums l)) w' ∧ Below W7.heap.size W7 w') := by
        intro W' hb'
        refine (image_any (HS7.out.later hb').fl).mono ?_
        rintro e w' ⟨v', rfl, ho, hb⟩
        rw [hil, him] at ho
        obtain ⟨A', c', rfl, h1, h2, hr⟩ := own_read ho
        exact ⟨A', c', rfl, str_of hr HN.out, str_of hr HN.out, hb'.trans (hb.mono hb'.size)⟩
      have HST : Hid (∀ W', Below W7.heap.size W7 W' → (convert 23 9 (.slice A n c)).run Try.prog W' = .ok (.string (strOfNums l)) W') := fun W' hb' => str_of ((HA.out.below (HB7.out.trans (hb'.mono HB7.out.size)) (Nat.le_refl _))) HN.out
      have k0 := HST.out W7.drew (Below.drew (Below.refl _ _))
      clear hT r1 r2 r3 hb6 hbr hok9 hil him
      try rw [hW7]
      clear hW7
      go_cut [83] (fun v wx => v = .bool false ∧ Below W7.heap.size W7 wx)
      case first =>
        go_region_held (fun w' => (convert 23 9 (.slice A n c)).run Try.prog w' = .ok (.string (strOfNums l)) w') (first | exact k0 | exact k8) (first
          | (go_at_call 44; with_reducible refine (num_nil _).mono ?_; rintro e w7 ⟨rfl, rfl⟩)
          | (go_at_call 36; with_reducible refine (HIW.out _ (Below.drew (Below.refl _ _))).mono ?_; rintro e w8 ⟨A8, c8, rfl, t7, _, hb8⟩; have k8 := HST.out w8 hb8))
        all_goals
          (try go_wp2_with fail)
          go_meet
          exact ⟨rfl, hb8⟩
      case rest =>
        obtain ⟨rfl, hb8⟩ := hcut
        obtain ⟨x0, x1, x2, x3, x4, x5, x6, x7, x8, x9, x10, x11, x12, x13, x14⟩ := HKX.out _ hb8
        have HB8 := Lib.hid hb8
        have HIS := Lib.hid (is_yes (X := fun _ => False) (HS7.out.later hb8) HOT.out (fi := .int .i64 T.first) (bl := .int .i64 T.blocks) (A := Q1) (n := T.spec.length) (c := c1) (blk := .int .i64 T.block) (slot := .int .i64 T.slot) (u8 := .slice none 0 0) (u9 := .slice none 0 0) (u10 := .int .i64 0) (u11 := .int .i64 (-1)) (u12 := .int .i64 0) (u13 := .int .i64 0) ((HR2.out.below HBW7.out).below hb8) r21 r22 ((HR3.out.below HBW7.out).below hb8) r31 r32)
        rw [HBR.out] at HIS
        clear k0 hb8
        go_wp2_with (fail)
        (with_reducible refine HIS.out.mono ?_)
        rintro e w9 ⟨rfl, hb9⟩
        have HB9 : Hid (Below w.heap.size w w9) := (HB7.out.trans (HB8.out.mono HB7.out.size)).trans (hb9.mono (Nat.le_trans HB7.out.size HB8.out.size))
        go_wp2
        go_ret
        exact ⟨rfl, HB9.out⟩
    · obtain ⟨kk, hkk⟩ : ∃ kk, openE F0 f k sp = kk := ⟨_, rfl⟩
      have HNO := Lib.hid (open_no HF4.out f k hf64 hk64 B m z sp HSP4.out HM.out hmz HZM.out HOK.out hoe)
      have HKK := Lib.hid hkk
      rw [hkk] at hoe HNO
      rw [errV_ne hoe] at HNO
      have HNE := Lib.hid hoe
      go_wp2_with (fail)
      clear d0 d1 d2 d3
      (with_reducible refine HNO.out.mono ?_)
      rintro e w5 ⟨rfl, hb5⟩
      have HF5 := Lib.hid (HF4.out.later hb5)
      have HY5 := Lib.hid (HY4.out.below hb5)
      have HC5 := Lib.hid (HC4.out.below hb5 HC4.out.lt)
      have HB5 : Hid (Below w.heap.size w w5) := HB4.out.trans (hb5.mono HB4.out.size)
      have HSP5 := Lib.hid ((HB.out.below HB5.out (Nat.le_refl _)).more HB5.out.size)
      have HREF := Lib.hid (open_r (X := fun _ => False) HY5.out (fun _ h => h.elim) f k hf64 hk64 B m z sp HSP5.out HM.out hmz HZM.out HOK.out)
      rw [HKK.out] at HREF
      obtain ⟨x0, x1, x2, x3, x4, x5⟩ := HFC.out w5 hb5
      obtain ⟨d0, d1, d2, d3, _⟩ := HC5.out
      clear hb5 hoe hkk
      go_wp2_with (fail)
      clear d0 d1 d2 d3 x0 x1 x2 x3 x4 x5
      (with_reducible refine HREF.out.mono ?_)
      rintro e w6 ⟨v, rfl, hb6, _, hz⟩
      obtain rfl := hz HNE.out
      unfold zeroS
      have HF6 := Lib.hid (HF5.out.later hb6)
      have HB6 : Hid (Below w.heap.size w w6) := HB5.out.trans (hb6.mono HB5.out.size)
      clear hb6 hz
      go_upto_region 9 with (fail)
      obtain ⟨W7, hW7⟩ : ∃ W, w6.alloc (.cells #[.int .i64 0, .int .i64 0, .slice none 0 0, .slice none 0 0, .slice none 0 0, .int .i64 0, .int .i64 0, .int .i64 0, .slice none 0 0, .slice none 0 0, .int .i64 0, .int .i64 0, .int .i64 0, .int .i64 0, .bool false] 105) = W := ⟨_, rfl⟩
      have HBW7 : Hid (Below w6.heap.size w6 W7) := by rw [← hW7]; exact below_one _ _
      have HF7 := Lib.hid (HF6.out.later HBW7.out)
      have HB7 : Hid (Below w.heap.size w W7) := HB6.out.trans (HBW7.out.mono HB6.out.size)
      have hil : F0.img.length = n := by rw [← HF0.out]; exact HN.out
      have him : F0.img = l := by rw [← HF0.out]; rfl
      have HIW : Hid (∀ W', Below W7.heap.size W7 W' → Calls Try.prog 36 #[.pointer (some ⟨L.d, 0, none⟩)] W' fun e w' => ∃ A c, e = .returned (.slice A n c) ∧ (convert 23 9 (.slice A n c)).run Try.prog w' = .ok (.string (strOfNums l)) w' ∧ Below W7.heap.size W7 w') := by
        intro W' hb'
        refine (image_any (HF7.out.later hb')).mono ?_
        rintro e w' ⟨v', rfl, ho, hb⟩
        rw [hil, him] at ho
        obtain ⟨A', c', rfl, h1, h2, hr⟩ := own_read ho
        exact ⟨A', c', rfl, str_of hr HN.out, hb'.trans (hb.mono hb'.size)⟩
      have HST : Hid (∀ W', Below W7.heap.size W7 W' → (convert 23 9 (.slice A n c)).run Try.prog W' = .ok (.string (strOfNums l)) W') := fun W' hb' => str_of ((HA.out.below (HB7.out.trans (hb'.mono HB7.out.size)) (Nat.le_refl _))) HN.out
      have k0 := HST.out W7.drew (Below.drew (Below.refl _ _))
      have hkk1 : (kk != kk) = false := by simp
      have hkk2 : (kk != 0) = true := by simpa using HNE.out
      clear hil him
      try rw [hW7]
      clear hW7
      go_cut [83] (fun v wx => v = .bool false ∧ Below W7.heap.size W7 wx)
      case first =>
        go_region_held (fun w' => (convert 23 9 (.slice A n c)).run Try.prog w' = .ok (.string (strOfNums l)) w') (first | exact k0 | exact k8) (first
          | (go_at_call 44; with_reducible refine (num_err _ _).mono ?_; rintro e w7 ⟨rfl, rfl⟩)
          | (go_at_call 36; with_reducible refine (HIW.out _ (Below.drew (Below.refl _ _))).mono ?_; rintro e w8 ⟨A8, c8, rfl, t7, hb8⟩; have k8 := HST.out w8 hb8))
        all_goals
          (try go_wp2_with fail)
          go_meet
          exact ⟨rfl, hb8⟩
      case rest =>
        obtain ⟨rfl, hb8⟩ := hcut
        have HB8 : Hid (Below w.heap.size w wc) := HB7.out.trans (hb8.mono HB7.out.size)
        clear k0 hb8
        go_wp2
        go_ret
        exact ⟨rfl, HB8.out⟩
end Go.Proofs.Ytfeceamhlphelaa
