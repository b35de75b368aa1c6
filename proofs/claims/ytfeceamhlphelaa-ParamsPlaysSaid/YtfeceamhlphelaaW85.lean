/-
  ParamsPlays.
-/
import Derived.Test.YtfeceamhlphelaaW84
import Derived.Deep.DeepCutAuto
import Derived.Deep.CutBlock
namespace Go.Proofs.Ytfeceamhlphelaa
open Go.RowKit
set_option linter.unusedVariables false
set_option linter.unusedSimpArgs false

set_option maxRecDepth 100000 in
theorem plays_long (b p f c : Int) (B : Option Addr) (m2 z2 : Nat) (A : Option Addr) (m z : Nat) (l : List Ev) (w : World) (hm2 : m2 ≤ maxLen) (hA : Rd w w.heap.size A (ecells l)) (hm : l.length = m) (hmz : m ≤ z) (hzm : z ≤ maxLen) (hok : ∀ x ∈ l, x.ok w w.heap.size) (hl : largeE l = true ∨ (largeE l = false ∧ 60 < m2)) :
    Calls Try.prog 19 #[.agg #[.int .i64 b, .int .i64 p, .int .i64 f, .int .i64 c], .slice B m2 z2, .slice A m z] w fun e w' => e = .returned (.bool true) ∧ Below w.heap.size w w' := by
  have HA := Lib.hid hA
  have HM := Lib.hid hm
  have HOK := Lib.hid hok
  obtain ⟨V, hV⟩ : ∃ V, w.alloc (.cells #[.int .i64 b, .int .i64 p, .int .i64 f, .int .i64 c] 82) = V := ⟨_, rfl⟩
  have HBV : Hid (Below w.heap.size w V) := by rw [← hV]; exact (Below.refl _ _).alloc (Nat.le_refl _) _
  have HLG := Lib.hid (fun (W : World) (hb : Below w.heap.size w W) => large51_any A m z l W ((HA.out.below hb (Nat.le_refl _)).more hb.size) HM.out hmz hzm (fun x hx => ev_more ((HOK.out x hx).below hb (Nat.le_refl _)) hb.size))
  unfold maxLen at hzm hm2
  clear hA hm hok
  rcases hl with hl | ⟨hl, h60⟩
  all_goals
    rw [hl] at HLG
    clear hl
    go_enter Try.func19, Try.ntmps19
    go_wp2_with (fail)
    try rw [hV]
    clear hV
    (with_reducible refine (awake51_any V).mono ?_)
    rintro e w1 ⟨rfl, hb⟩
    have HB1 : Hid (Below w.heap.size w w1) := HBV.out.trans (hb.mono HBV.out.size)
    clear hb
    go_wp2_with (fail)
    (with_reducible refine (HLG.out w1 HB1.out).mono ?_)
    rintro e w2 ⟨rfl, hb⟩
    have HB2 : Hid (Below w.heap.size w w2) := HB1.out.trans (hb.mono HB1.out.size)
    clear hb
    go_wp2_with (fail)
    (with_reducible refine (awake51_any w2).mono ?_)
    rintro e w3 ⟨rfl, hb⟩
    have HB3 : Hid (Below w.heap.size w w3) := HB2.out.trans (hb.mono HB2.out.size)
    clear hb
    go_wp2
    go_ret
    exact ⟨rfl, HB3.out⟩

set_option maxRecDepth 100000 in
set_option maxHeartbeats 16000000 in
theorem plays_main (b p f c : Int) (B : Option Addr) (m2 z2 : Nat) (sp : List Par) (A : Option Addr) (m z : Nat) (l : List Ev) (w : World) (hB : Rd w w.heap.size B (pcells sp)) (hm2 : sp.length = m2) (hmz2 : m2 ≤ z2) (hzm2 : z2 ≤ maxLen) (hspok : ∀ p ∈ sp, p.ok)
    (hA : Rd w w.heap.size A (ecells l)) (hm : l.length = m) (hmz : m ≤ z) (hzm : z ≤ maxLen) (hok : ∀ x ∈ l, x.ok w w.heap.size) (hl : largeE l = false) (h60 : m2 ≤ 60) :
    Calls Try.prog 19 #[.agg #[.int .i64 b, .int .i64 p, .int .i64 f, .int .i64 c], .slice B m2 z2, .slice A m z] w fun e w' => e = .returned (.bool true) ∧ Below w.heap.size w w' := by
  have g1 := ne_nil
  have g2 := ne_err
  have g3 := eq_nil
  have g4 := eq_err
  have h200 : m ≤ 200 := by
    unfold largeE at hl
    rw [decide_eq_false_iff_not] at hl
    omega
  have HA := Lib.hid hA
  have HM := Lib.hid hm
  have HOK := Lib.hid hok
  have HL := Lib.hid hl
  have HSP := Lib.hid hB
  have HSPL := Lib.hid hm2
  have HZM2 := Lib.hid hzm2
  have HSPO := Lib.hid hspok
  obtain ⟨P, hP⟩ : ∃ K : Nat, clipI p 1 8 = K := ⟨(clipI p 1 8).toNat, by unfold clipI; omega⟩
  obtain ⟨BB, hBB⟩ : ∃ K : Nat, clipI b 2 6 = K := ⟨(clipI b 2 6).toNat, by unfold clipI; omega⟩
  obtain ⟨F, hF⟩ : ∃ K : Nat, clipI f 0 ((BB : Int) - 2) = K := ⟨(clipI f 0 ((BB : Int) - 2)).toNat, by unfold clipI; unfold clipI at hBB; omega⟩
  obtain ⟨C, hC⟩ : ∃ K : Nat, clipI c 2 ((BB : Int) - (F : Int)) = K := ⟨(clipI c 2 ((BB : Int) - (F : Int))).toNat, by unfold clipI; unfold clipI at hBB hF; omega⟩
  have hB26 : 2 ≤ BB ∧ BB ≤ 6 := by unfold clipI at hBB; omega
  have hP18 : 1 ≤ P ∧ P ≤ 8 := by unfold clipI at hP; omega
  have hFC : 2 ≤ C ∧ F + C ≤ BB := by unfold clipI at hF hC; omega
  have HP := Lib.hid hP
  have HBB := Lib.hid hBB
  have HF := Lib.hid hF
  have HC := Lib.hid hC
  obtain ⟨V, hV⟩ : ∃ V, w.alloc (.cells #[.int .i64 b, .int .i64 p, .int .i64 f, .int .i64 c] 82) = V := ⟨_, rfl⟩
  have HBV : Hid (Below w.heap.size w V) := by rw [← hV]; exact (Below.refl _ _).alloc (Nat.le_refl _) _
  have HCV : Hid (four V w.heap.size (.int .i64 b) (.int .i64 p) (.int .i64 f) (.int .i64 c)) := by rw [← hV]; exact four_new _ _ _ _ _ _ _ rfl
  have hgV : w.heap.size < V.heap.size := HCV.out.lt
  clear hA hm hok hl hP hBB hF hC hB hm2 hspok hzm2
  have hzm' := hzm
  have hz2b : z2 ≤ maxLen := HZM2.out
  unfold maxLen at hzm hz2b
  go_enter Try.func19, Try.ntmps19
  go_wp2_with (fail)
  try rw [hV]
  clear hV
  (with_reducible refine (awake51_any V).mono ?_)
  rintro e w1 ⟨rfl, hb⟩
  have HB1 : Hid (Below w.heap.size w w1) := HBV.out.trans (hb.mono HBV.out.size)
  have HC1 := Lib.hid (HCV.out.below hb hgV)
  have hg1 := HC1.out.lt
  clear hb hgV
  go_wp2_with (fail)
  (with_reducible refine (large51_any A m z l w1 ((HA.out.below HB1.out (Nat.le_refl _)).more HB1.out.size) HM.out hmz hzm' (fun x hx => ev_more ((HOK.out x hx).below HB1.out (Nat.le_refl _)) HB1.out.size)).mono ?_)
  rintro e w2 ⟨rfl, hb⟩
  rw [HL.out]
  have HB2 : Hid (Below w.heap.size w w2) := HB1.out.trans (hb.mono HB1.out.size)
  have HC2 := Lib.hid (HC1.out.below hb hg1)
  have hg2 := HC2.out.lt
  obtain ⟨d0, d1, d2, d3, dz⟩ := HC2.out
  clear dz
  clear hb hg1
  go_wp2_with (fail)
  clear d0 d1 d2 d3
  (with_reducible refine (fit_any b p f c BB P F C HP.out HBB.out HF.out HC.out w2).mono ?_)
  rintro e w3 ⟨rfl, hb⟩
  have HB3 : Hid (Below w.heap.size w w3) := HB2.out.trans (hb.mono HB2.out.size)
  have HC3 := Lib.hid (HC2.out.below hb hg2)
  have hg3 := HC3.out.lt
  obtain ⟨V3, hV3⟩ : ∃ V, put4 w3 w.heap.size (.int .i64 BB) (.int .i64 P) (.int .i64 F) (.int .i64 C) = V := ⟨_, rfl⟩
  have HBV3 : Hid (Below w.heap.size w V3) := by rw [← hV3]; exact below_put4 HB3.out (Nat.le_refl _) _ _ _ _
  have HCV3 : Hid (four V3 w.heap.size (.int .i64 BB) (.int .i64 P) (.int .i64 F) (.int .i64 C)) := by rw [← hV3]; exact HC3.out.put _ _ _ _
  have hgV3 := HCV3.out.lt
  unfold put4 at hV3
  obtain ⟨d0, d1, d2, d3, dz⟩ := HC3.out
  have e0 := dz 0
  have e1 := dz 1
  have e2 := dz 2
  have e3 := dz 3
  clear hb hg2 dz
  go_upto_region 4 with (fail)
  clear d0 d1 d2 d3 e0 e1 e2 e3
  try rw [hV3]
  clear hV3
  obtain ⟨d0, d1, d2, d3, dz⟩ := HCV3.out
  clear dz
  go_wp2_with (fail)
  clear d0 d1 d2 d3
  (with_reducible refine (new_ok BB P V3 (by omega) (by omega) (by omega) (by omega)).mono ?_)
  rintro e w5 ⟨L, rfl, hF⟩
  have HFL := Lib.hid hF
  have HBL5 : Hid (Below w.heap.size w w5) := HBV3.out.trans (hF.below.mono HBV3.out.size)
  have HC5 := Lib.hid (HCV3.out.below hF.below hgV3)
  obtain ⟨d0, d1, d2, d3, dz⟩ := HC5.out
  clear dz
  have HNR := Lib.hid (newR_any (X := fun b => b < w5.heap.size) BB P w5 (fun _ h => h) (by omega) (by omega) (by omega) (by omega))
  obtain ⟨F0, hF0⟩ : ∃ F0, newF BB P = F0 := ⟨_, rfl⟩
  have HF0 := Lib.hid hF0
  rw [hF0] at HFL HNR
  clear hF hF0
  go_wp2_with (fail)
  clear d0 d1 d2 d3
  (with_reducible refine HNR.out.mono ?_)
  rintro e w6 ⟨y0, rfl, hy6, hb6⟩
  obtain ⟨W7, hW7⟩ : ∃ W, w6.alloc (.cells #[Value.slice y0.A F0.img.length y0.c, .int .i64 F0.pg, .slice y0.B F0.wear.length y0.d, .bool F0.down, .int .i64 F0.fuse, .slice y0.P F0.picks.length y0.r] 60) = W := ⟨_, rfl⟩
  have HB67 : Hid (Below w6.heap.size w6 W7) := by rw [← hW7]; exact below_one _ _
  have H79 : Hid (W7.heap[w6.heap.size]? = some (.cells #[Value.slice y0.A F0.img.length y0.c, .int .i64 F0.pg, .slice y0.B F0.wear.length y0.d, .bool F0.down, .int .i64 F0.fuse, .slice y0.P F0.picks.length y0.r] 60 (0, 0))) := by rw [← hW7]; exact heap_alloc_new _ _
  have HB7 : Hid (Below w5.heap.size w5 W7) := hb6.trans (HB67.out.mono hb6.size)
  have HY7 : Hid (RAt (fun b => b < w5.heap.size ∨ w6.heap.size ≤ b) W7 y0 F0) := (hy6.newX (Y := fun b => b < w5.heap.size ∨ w6.heap.size ≤ b) (fun b h1 h2 => by omega)).below HB67.out
  have HBL7 : Hid (Below w.heap.size w W7) := HBL5.out.trans (HB7.out.mono HBL5.out.size)
  have hs67 : w5.heap.size ≤ w6.heap.size := hb6.size
  have hlt7 : w6.heap.size < W7.heap.size := (Array.getElem?_eq_some_iff.1 H79.out).1
  obtain ⟨B9, hB9⟩ : ∃ B9, w6.heap.size = B9 := ⟨_, rfl⟩
  have HC7 := Lib.hid (HC5.out.below HB7.out HC5.out.lt)
  have HFT : Hid (FlAt V3 W7 { L with E := fun b => b = B9 } F0) := (HFL.out.later HB7.out).tag _ (fun b h => by rw [h, ← hB9]; exact hlt7)
  have HB9L : Hid (w5.heap.size ≤ B9 ∧ B9 < W7.heap.size) := by rw [← hB9]; exact ⟨hs67, hlt7⟩
  clear hy6 hb6 hs67 hlt7
  go_upto_region 8 with (fail)
  try rw [hW7]
  rw [hB9] at H79 HY7
  try rw [hB9]
  clear hW7 hB9
  obtain ⟨d0, d1, d2, d3, dz⟩ := HC7.out
  clear dz
  have HSP7 := Lib.hid ((HSP.out.below HBL7.out (Nat.le_refl _)).more HBL7.out.size)
  by_cases hoe : openE F0 F C sp = 0
  · have HOE := Lib.hid hoe
    obtain ⟨hbad, hbr⟩ : sp.any badP = false ∧ F0.ok := ⟨(openE_zero hoe).2.2.2.2.2.2.2.1, by rw [← HF0.out]; exact newF_ok (by omega) (by omega) (by omega) (by omega)⟩
    have HBAD := Lib.hid hbad
    obtain ⟨hsq, hbusy, hspc, hfst, hblk⟩ := SurQ.first (f := F0) (fi := F) (bl := C) (sp := sp) hbr (fun x hx => by rw [← HF0.out]; exact newF_blank (by rw [← HF0.out] at hx; simpa [newF] using hx)) HSPO.out hoe
    have hbrk := openF_br F0 F C sp
    have HPN : Hid (RdX (fun b => b = B9) W7 L.Ap (kcells .u8 F0.picks)) := by
      have e : F0.picks = [] := by rw [← HF0.out]; rfl
      rw [e]
      exact RdX.nil
    have HOP := Lib.hid (open_yes HFT.out F C B m2 z2 sp HSP7.out HSPL.out hmz2 HZM2.out HSPO.out HOE.out HPN.out)
    have HEF : Hid (Sim F0 F0) := Sim.refl F0
    obtain ⟨T, hT⟩ : ∃ T, openF F0 F C sp = T := ⟨_, rfl⟩
    have HT := Lib.hid hT
    rw [hT] at hsq hbusy hspc hfst hblk hbrk HOP
    have HPU := Lib.hid (And.intro hsq (And.intro hspc (And.intro hfst hblk)))
    have HBU := Lib.hid (And.intro hbrk hbusy)
    clear hoe hbad hbr hsq hbusy hspc hfst hblk hbrk hT
    go_wp2_with (fail)
    clear d0 d1 d2 d3
    (with_reducible refine HOP.out.mono ?_)
    rintro e w8 ⟨S, rfl, hS, hb8, hD8, hG8⟩
    have HS8 := Lib.hid hS
    have HDG := Lib.hid (And.intro hD8 hG8)
    have HB8 : Hid (Below W7.heap.size W7 w8) := hb8
    have HC8 := Lib.hid (HC7.out.below hb8 HC7.out.lt)
    obtain ⟨d0, d1, d2, d3, dz⟩ := HC8.out
    clear dz
    have HR8 := Lib.hid ((hb8.block B9 HB9L.out.2).trans H79.out)
    have f0 : w8.cell? ⟨B9, 0, none⟩ = some (.slice y0.A F0.img.length y0.c) := cell_of_row w8 B9 0 _ 60 (0, 0) HR8.out
    have f1 : w8.cell? ⟨B9, 1, none⟩ = some (.int .i64 F0.pg) := cell_of_row w8 B9 1 _ 60 (0, 0) HR8.out
    have f2 : w8.cell? ⟨B9, 2, none⟩ = some (.slice y0.B F0.wear.length y0.d) := cell_of_row w8 B9 2 _ 60 (0, 0) HR8.out
    have f3 : w8.cell? ⟨B9, 3, none⟩ = some (.bool F0.down) := cell_of_row w8 B9 3 _ 60 (0, 0) HR8.out
    have f4 : w8.cell? ⟨B9, 4, none⟩ = some (.int .i64 F0.fuse) := cell_of_row w8 B9 4 _ 60 (0, 0) HR8.out
    have f5 : w8.cell? ⟨B9, 5, none⟩ = some (.slice y0.P F0.picks.length y0.r) := cell_of_row w8 B9 5 _ 60 (0, 0) HR8.out
    have HY8 : Hid (RAt (Own { L with E := fun b => b = B9 } S) w8 y0 F0) := (HY7.out.newX (fun b h1 h2 => by
      have l1 := HFL.out.ld
      have l2 := HFL.out.bi.2
      have l3 := HFL.out.bw.2
      have l4 := HDG.out.1
      have l5 := HDG.out.2
      rcases h2 with (e | e | e | e | e) | e
      · left; rw [e]; exact l1
      · left; rw [e]; exact l2
      · left; rw [e]; exact l3
      · omega
      · omega
      · right; exact Nat.le_of_eq e.symm)).below hb8
    have HOR := Lib.hid (open_r HY8.out HS8.out.own_lt (F : Int) (C : Int) (by unfold I64; omega) (by unfold I64; omega) B m2 z2 sp ((HSP7.out.below hb8 (Nat.le_refl _)).more hb8.size) HSPL.out hmz2 HZM2.out HSPO.out)
    rw [HOE.out, Int.toNat_natCast, Int.toNat_natCast, HT.out] at HOR
    clear hS hb8 hD8 hG8
    go_wp2_with (fail)
    clear d0 d1 d2 d3 f0 f1 f2 f3 f4 f5
    (with_reducible refine HOR.out.mono ?_)
    rintro e w9 ⟨v, rfl, hb9, hrs, _⟩
    obtain ⟨q0, rfl, hq⟩ := (hrs trivial).rv (p := F0.pg) HBU.out.1 HBU.out.2
    have HQ9 := Lib.hid hq
    have HB9 : Hid (Below w8.heap.size w8 w9) := hb9
    clear hrs hq hb9
    unfold Qv.v
    go_upto_region 10 with (fail)
    obtain ⟨W10, hW10⟩ : ∃ W, w9.alloc (.cells #[Value.int .i64 T.first, .int .i64 T.blocks, .slice q0.Q1 T.spec.length q0.c1, .slice q0.Q2 T.staged.length q0.c2, .slice q0.Q3 T.saved.length q0.c3, .int .i64 T.seq, .int .i64 T.block, .int .i64 T.slot, .slice q0.Q4 q0.n4 q0.c4, .slice q0.Q5 q0.n5 q0.c5, .int .i64 q0.pg, .int .i64 q0.er, .int .i64 q0.nb, .int .i64 q0.ns, .bool T.broken] 105) = W := ⟨_, rfl⟩
    have HBA : Hid (Below w9.heap.size w9 W10) := by rw [← hW10]; exact below_one _ _
    have HRA : Hid (W10.heap[w9.heap.size]? = some (.cells #[Value.int .i64 T.first, .int .i64 T.blocks, .slice q0.Q1 T.spec.length q0.c1, .slice q0.Q2 T.staged.length q0.c2, .slice q0.Q3 T.saved.length q0.c3, .int .i64 T.seq, .int .i64 T.block, .int .i64 T.slot, .slice q0.Q4 q0.n4 q0.c4, .slice q0.Q5 q0.n5 q0.c5, .int .i64 q0.pg, .int .i64 q0.er, .int .i64 q0.nb, .int .i64 q0.ns, .bool T.broken] 105 (0, 0))) := by rw [← hW10]; exact heap_alloc_new _ _
    try rw [hW10]
    clear hW10
    obtain ⟨B12, hB12⟩ : ∃ B12, w9.heap.size = B12 := ⟨_, rfl⟩
    have HB12 := Lib.hid hB12
    rw [hB12] at HRA
    try rw [hB12]
    clear hB12
    obtain ⟨E2, hE2⟩ : ∃ E2 : Nat → Prop, (fun b => b = B9 ∨ b = B12) = E2 := ⟨_, rfl⟩
    have HLT12 : Hid (B12 < W10.heap.size) := (Array.getElem?_eq_some_iff.1 HRA.out).1
    have HLT9 : Hid (B9 < w8.heap.size) := Nat.lt_of_lt_of_le HB9L.out.2 HB8.out.size
    have hY : ∀ b, b < w9.heap.size → Own { L with E := E2 } S b → Own { L with E := fun b => b = B9 } S b := fun b h1 h2 => by
      rcases h2 with h5 | h2
      · exact .inl h5
      · have h2' : b = B9 ∨ b = B12 := by rw [← hE2] at h2; exact h2
        rcases h2' with e | e
        · exact .inr e
        · have := HB12.out
          omega
    have HI : Hid (PlI V3 W10 { L with E := E2 } B9 B12 sp F C 0 S F0 T q0 y0 F0) := by
      have hn9 : ¬ Own5 { L with E := E2 } S B9 := fun h5 => by
        have l1 := HFL.out.ld
        have l2 := HFL.out.bi.2
        have l3 := HFL.out.bw.2
        have l4 := HDG.out.1
        have l5 := HDG.out.2
        have l6 := HB9L.out
        rcases h5 with e | e | e | e | e
        · have e' : B9 = L.d := e; omega
        · have e' : B9 = L.gi := e; omega
        · have e' : B9 = L.gw := e; omega
        · omega
        · omega
      have hn12 : ¬ Own5 { L with E := E2 } S B12 := fun h5 => by
        have := HS8.out.own_lt B12 (.inl h5)
        have l1 := HB12.out
        have l2 := HB9.out.size
        omega
      have hs10 : StAt V3 W10 { L with E := E2 } S F0 T := (HS8.out.later HB9.out).tag (L := { L with E := fun b => b = B9 }) HBA.out E2 (fun b h => by
        rw [← hE2] at h
        rcases h with e | e
        · have := HLT9.out; have := HB9.out.size; have := HBA.out.size; omega
        · rw [e]; exact HLT12.out) (fun b h1 h2 => by
        rw [← hE2] at h2
        rcases h2 with e | e
        · exact e
        · have := HB12.out; omega)
      refine ⟨⟨hs10, (HBA.out.block B9 (by have := HLT9.out; have := HB9.out.size; omega)).trans ((HB9.out.block B9 HLT9.out).trans HR8.out), HRA.out, (HQ9.out.newX hY).below HBA.out, ((HY8.out.below HB9.out).newX hY).below HBA.out, hn9, hn12, by rw [← hE2]; exact .inl rfl, by rw [← hE2]; exact .inr rfl, ?_, ?_, ?_⟩, HPU.out.1, HEF.out, HPU.out.2.1, HPU.out.2.2.1, HPU.out.2.2.2⟩
      · exact Nat.le_trans HFL.out.below.size HB9L.out.1
      · have l1 := HFL.out.below.size
        have l2 := HB9L.out
        have l3 := HLT9.out
        have l4 := HB9.out.size
        have l5 := HB12.out
        omega
      · have l3 := HLT9.out
        have l4 := HB9.out.size
        have l5 := HB12.out
        omega
    clear hY
    obtain ⟨L2, hL2⟩ : ∃ L2 : Lc, { L with E := E2 } = L2 := ⟨_, rfl⟩
    have HLD : Hid (L2.d = L.d) := by rw [← hL2]; exact rfl
    rw [hL2] at HI
    have hld : L.d = L2.d := HLD.out.symm
    rw [hld]
    clear hL2 hE2 hld
    have hc0 : ((0 : Int) != 0) = false := by decide
    go_wp2_with (fail)
    (with_reducible refine (num_nil _).mono ?_)
    rintro e wA ⟨rfl, rfl⟩
    go_wp2
    go_loopw [11, 94] (fun p9 i wr => ∃ k : Nat, k ≤ m ∧ i = .int .i64 k ∧ PlE V3 wr L2 B9 B12 sp F C k p9) (fun _ i _ => m - (intOf i).toNat)
    case atStart => exact ⟨0, by omega, rfl, L2.Ap, L2.cp, S, F0, T, q0, y0, F0, rfl, HI.out⟩
    case round =>
      clear HI HLD HLT9 HLT12 HRA HBA HQ9 HB12 HB9 HOR HY8 HR8 HC8 HB8 HDG HS8 HOP HBU HPU HT HEF HPN HOE HSP7 HFT HC7 HB9L HY7 H79 HBL7 HB7 HB67 HNR HF0 HC5 HBL5 HFL HC3 HB3 HC2 HB2 HC1 HB1 HL HP HBB HF HC HCV HBV hc0
      obtain ⟨k, hk, rfl, Ap, cp, S8, f8, s8, q8, y8, g8, rfl, hI⟩ := hrel
      have HP8 := Lib.hid hI
      have HBr : Hid (Below V3.heap.size V3 wr) := hI.w.st.fl.below
      have HBw : Hid (Below w.heap.size w wr) := HBV3.out.trans (HBr.out.mono HBV3.out.size)
      clear hI
      by_cases hlt : k < m
      · obtain ⟨x, hx⟩ := getElem?_of_lt (l := l) (k := k) (by rw [HM.out]; exact hlt)
        have HXO := Lib.hid (HOK.out x (List.mem_of_getElem? hx))
        obtain ⟨ba, off, rfl, hbl', c0, c1, c2, c3⟩ := (HA.out.below HBw.out (Nat.le_refl _)).ev hx
        obtain ⟨W, hW⟩ : ∃ V, wr.alloc (.cells #[.int .u8 x.k, .int .i64 x.a, .int .i64 x.b, .slice x.P x.q x.r] 92) = V := ⟨_, rfl⟩
        have HBW : Hid (Below wr.heap.size wr W) := by rw [← hW]; exact (Below.refl _ _).alloc (Nat.le_refl _) _
        have HCW : Hid (four W wr.heap.size (.int .u8 x.k) (.int .i64 x.a) (.int .i64 x.b) (.slice x.P x.q x.r)) := by rw [← hW]; exact four_new _ _ _ _ _ _ _ rfl
        have hgW := HCW.out.lt
        have HPW := Lib.hid (HP8.out.later HBW.out)
        have HNA9 : Hid (¬ Own5 { L2 with Ap := Ap, cp := cp } S8 wr.heap.size) := fun h5 => by have := HP8.out.w.st.own_lt _ (.inl h5); omega
        obtain ⟨DA, hDA⟩ : ∃ DA, wr.heap.size = DA := ⟨_, rfl⟩
        have hk0 := HXO.out.k0
        have hk1 := HXO.out.k1
        obtain ⟨M, hM0⟩ : ∃ M, x.k % 12 = M := ⟨_, rfl⟩
        have hM1 : x.k.tmod 12 = M := by rw [Int.tmod_eq_emod_of_nonneg hk0]; exact hM0
        have hM : M = 0 ∨ M = 1 ∨ M = 2 ∨ M = 3 ∨ M = 4 ∨ M = 5 ∨ M = 6 ∨ M = 7 ∨ M = 8 ∨ M = 9 ∨ M = 10 ∨ M = 11 := by omega
        have HMM := Lib.hid hM
        clear hx hM
        go_upto_region 17 with (fail)
        try rw [hW]
        rw [hDA] at HCW HNA9
        try rw [hDA]
        have HDA : Hid (DA < W.heap.size ∧ V3.heap.size ≤ DA) := by
          rw [← hDA]
          exact ⟨hgW, HBr.out.size⟩
        clear hW c0 c1 c2 c3 hgW hDA HP8
        have d0 := HCW.out.1
        go_upto_block 2 with (fail)
        clear d0
        go_cut [11, 16, 17, 18, 19] (fun p9 e9 c9 d9 n9 wx => ∃ (code : Int) (dn : Bool), e9 = errV code ∧ c9 = .int .i64 code ∧ d9 = .bool dn ∧ n9 = .bool dn ∧ PlE V3 wx L2 B9 B12 sp F C (k + 1) p9)
        case first =>
          rename_i hJJ hKK
          have HJJ := Lib.hid hJJ
          clear hJJ
          have HW4 : Hid (Below V3.heap.size V3 W) := HPW.out.w.st.fl.below
          have HXO4 : Hid (x.ok W W.heap.size) := ev_more (HXO.out.below (HBV3.out.trans (HW4.out.mono HBV3.out.size)) (Nat.le_refl _)) (HBV3.out.trans (HW4.out.mono HBV3.out.size)).size
          have HNA0 : Hid (¬ Own5 { L2 with Ap := Ap, cp := cp } S8 DA) := HNA9.out
          have HKB : Hid (k < m) := hlt
          obtain ⟨d0, d1, d2, d3, dz⟩ := HCW.out
          clear dz
          by_cases hM4 : M < 4
          · focus
              as_aux_lemma =>
                have HSET := Lib.hid (set_any HPW.out.w.st HPW.out.sq.ok x.a x.b)
                have HSQ := Lib.hid ((HPW.out.sq.set (i := x.a) HXO.out.b0).more (show (k : Int) ≤ (k : Int) + 1 by omega))
                have hsm := setF_same s8 x.a x.b
                have HM4 : Hid (M = 0 ∨ M = 1 ∨ M = 2 ∨ M = 3) := by have := HMM.out; rw [Hid]; omega
                have HSR := Lib.hid (fun (w' : World) (S' : Sc) (h : PlW V3 w' { L2 with Ap := Ap, cp := cp } B9 B12 S' f8 (setF s8 x.a x.b) (y8.l g8).toArray (q8.l s8).toArray q8 s8 g8.pg y8 g8) => set_r h.rv HPW.out.okg h.st.own_lt x.a x.b)
                obtain ⟨sN, hsN⟩ : ∃ r, setF s8 x.a x.b = r := ⟨_, rfl⟩
                obtain ⟨cN, hcN⟩ : ∃ r, setE s8 x.a x.b = r := ⟨_, rfl⟩
                unfold SetR at HSET
                rw [hsN, hcN] at HSET
                rw [hsN] at HSQ hsm
                rw [hsN, hcN] at HSR
                have HSM := Lib.hid hsm
                clear hM4 hsN hcN hsm
                go_upto_if 140 with (fail)
                go_cut [140] from 141 to 144 (fun v wx => v = .bool true ∧ wx = W)
                case first =>
                  rcases HM4.out with rfl | rfl | rfl | rfl
                  all_goals
                    go_wp2_with (fail)
                    go_meet
                    exact ⟨rfl, rfl⟩
                case rest =>
                  obtain ⟨rfl, hwc⟩ := hcut
                  subst hwc
                  go_wp2_with (fail)
                  (with_reducible refine HSET.out.mono ?_)
                  rintro e w9 ⟨rfl, hs9, ho9⟩
                  have HP9 := Lib.hid (HPW.out.w.prog hs9 rfl rfl ho9)
                  have HC9 := Lib.hid (HCW.out.onlyX ho9 HNA0.out)
                  clear d0 d1 d2 d3 hs9 ho9
                  obtain ⟨d0, d1, d2, d3, dz⟩ := HC9.out
                  clear dz
                  go_upto_region 33 with (fail)
                  refine wp_region_list ?_
                  refine wpList_load_row rfl 105 _ rfl B12 rfl 105 #[Value.int .i64 s8.first, .int .i64 s8.blocks, .slice q8.Q1 s8.spec.length q8.c1, .slice q8.Q2 s8.staged.length q8.c2, .slice q8.Q3 s8.saved.length q8.c3, .int .i64 s8.seq, .int .i64 s8.block, .int .i64 s8.slot, .slice q8.Q4 q8.n4 q8.c4, .slice q8.Q5 q8.n5 q8.c5, .int .i64 q8.pg, .int .i64 q8.er, .int .i64 q8.nb, .int .i64 q8.ns, .bool s8.broken] (0, 0) _ HP9.out.h12 Try.underlying105 rfl size105 ?_
                  simp only [Act.put, List.setIfInBounds_toArray, List.set_cons_zero, List.set_cons_succ]
                  refine wpList_value (v := .pointer (some ⟨DA, 1, none⟩)) rfl (by rfl) ?_
                  simp only [Act.put, List.setIfInBounds_toArray, List.set_cons_zero, List.set_cons_succ]
                  refine wpList_value (v := .int .i64 x.a) rfl (by go_simp) ?_
                  simp only [Act.put, List.setIfInBounds_toArray, List.set_cons_zero, List.set_cons_succ]
                  refine wpList_value (v := .pointer (some ⟨DA, 2, none⟩)) rfl (by rfl) ?_
                  simp only [Act.put, List.setIfInBounds_toArray, List.set_cons_zero, List.set_cons_succ]
                  refine wpList_value (v := .int .i64 x.b) rfl (by go_simp) ?_
                  simp only [Act.put, List.setIfInBounds_toArray, List.set_cons_zero, List.set_cons_succ]
                  refine wpList_call9 (n := 67) (al := [.agg #[Value.int .i64 s8.first, .int .i64 s8.blocks, .slice q8.Q1 s8.spec.length q8.c1, .slice q8.Q2 s8.staged.length q8.c2, .slice q8.Q3 s8.saved.length q8.c3, .int .i64 s8.seq, .int .i64 s8.block, .int .i64 s8.slot, .slice q8.Q4 q8.n4 q8.c4, .slice q8.Q5 q8.n5 q8.c5, .int .i64 q8.pg, .int .i64 q8.er, .int .i64 q8.nb, .int .i64 q8.ns, .bool s8.broken], .int .i64 x.a, .int .i64 x.b]) rfl _ _ rfl (by rfl) enter67 ?_
                  (with_reducible refine (HSR.out w9 S8 HP9.out).mono ?_)
                  rintro e w10 ⟨qN, rfl, hv10, hb10⟩
                  refine ⟨_, rfl, ?_⟩
                  simp only [Act.put, List.setIfInBounds_toArray, List.set_cons_zero, List.set_cons_succ]
                  have HP10 := Lib.hid ((HP9.out.later hb10).rv' hv10)
                  clear d0 d1 d2 d3 hv10 hb10
                  refine wpList_value (v := .tuple #[.agg #[Value.int .i64 sN.first, .int .i64 sN.blocks, .slice qN.Q1 sN.spec.length qN.c1, .slice qN.Q2 sN.staged.length qN.c2, .slice qN.Q3 sN.saved.length qN.c3, .int .i64 sN.seq, .int .i64 sN.block, .int .i64 sN.slot, .slice qN.Q4 qN.n4 qN.c4, .slice qN.Q5 qN.n5 qN.c5, .int .i64 qN.pg, .int .i64 qN.er, .int .i64 qN.nb, .int .i64 qN.ns, .bool sN.broken], .int .i64 cN]) rfl (by rfl) ?_
                  simp only [Act.put, List.setIfInBounds_toArray, List.set_cons_zero, List.set_cons_succ]
                  refine wpList_value (v := .agg #[Value.int .i64 sN.first, .int .i64 sN.blocks, .slice qN.Q1 sN.spec.length qN.c1, .slice qN.Q2 sN.staged.length qN.c2, .slice qN.Q3 sN.saved.length qN.c3, .int .i64 sN.seq, .int .i64 sN.block, .int .i64 sN.slot, .slice qN.Q4 qN.n4 qN.c4, .slice qN.Q5 qN.n5 qN.c5, .int .i64 qN.pg, .int .i64 qN.er, .int .i64 qN.nb, .int .i64 qN.ns, .bool sN.broken]) rfl (by rfl) ?_
                  simp only [Act.put, List.setIfInBounds_toArray, List.set_cons_zero, List.set_cons_succ]
                  refine wpList_value (v := .int .i64 cN) rfl (by rfl) ?_
                  simp only [Act.put, List.setIfInBounds_toArray, List.set_cons_zero, List.set_cons_succ]
                  refine wpList_store_row rfl 105 _ _ rfl B12 #[Value.int .i64 sN.first, .int .i64 sN.blocks, .slice qN.Q1 sN.spec.length qN.c1, .slice qN.Q2 sN.staged.length qN.c2, .slice qN.Q3 sN.saved.length qN.c3, .int .i64 sN.seq, .int .i64 sN.block, .int .i64 sN.slot, .slice qN.Q4 qN.n4 qN.c4, .slice qN.Q5 qN.n5 qN.c5, .int .i64 qN.pg, .int .i64 qN.er, .int .i64 qN.nb, .int .i64 qN.ns, .bool sN.broken] rfl rfl 105 #[Value.int .i64 s8.first, .int .i64 s8.blocks, .slice q8.Q1 s8.spec.length q8.c1, .slice q8.Q2 s8.staged.length q8.c2, .slice q8.Q3 s8.saved.length q8.c3, .int .i64 s8.seq, .int .i64 s8.block, .int .i64 s8.slot, .slice q8.Q4 q8.n4 q8.c4, .slice q8.Q5 q8.n5 q8.c5, .int .i64 q8.pg, .int .i64 q8.er, .int .i64 q8.nb, .int .i64 q8.ns, .bool s8.broken] HP10.out.h12 size105 rfl (one15 ..) ?_
                  have HP11 := Lib.hid (HP10.out.put12 #[Value.int .i64 sN.first, .int .i64 sN.blocks, .slice qN.Q1 sN.spec.length qN.c1, .slice qN.Q2 sN.staged.length qN.c2, .slice qN.Q3 sN.saved.length qN.c3, .int .i64 sN.seq, .int .i64 sN.block, .int .i64 sN.slot, .slice qN.Q4 qN.n4 qN.c4, .slice qN.Q5 qN.n5 qN.c5, .int .i64 qN.pg, .int .i64 qN.er, .int .i64 qN.nb, .int .i64 qN.ns, .bool sN.broken])
                  go_wp2_with (fail)
                  refine Met.intro ?_
                  refine HJJ.out _ _ ?_
                  (repeat apply Exists.intro)
                  refine ⟨?_, rfl⟩
                  exact ⟨cN, false, rfl, rfl, rfl, rfl, Ap, cp, S8, f8, sN, qN, y8, g8, rfl, HP11.out, HSQ.out, HPW.out.sim, HSM.out.spec.trans HPW.out.spec, HSM.out.first.trans HPW.out.first, HSM.out.blocks.trans HPW.out.blocks⟩
          rcases (show M = 4 ∨ M = 5 ∨ M = 6 ∨ M = 7 ∨ M = 8 ∨ M = 9 ∨ M = 10 ∨ M = 11 by have := HMM.out; omega) with rfl | rfl | rfl | rfl | rfl | rfl | rfl | rfl
          all_goals clear hM4
          focus
            as_aux_lemma =>
              have HBEG := Lib.hid (begin_any HPW.out.w.st HPW.out.sq.ok)
              have HSQ := Lib.hid (HPW.out.sq.begin.more (show (k : Int) ≤ (k : Int) + 1 by omega))
              have hsm := beginS_same s8 f8
              have HBR := Lib.hid (fun (w' : World) (S' : Sc) (f' : Fl) (s' : St) (h : PlW V3 w' { L2 with Ap := Ap, cp := cp } B9 B12 S' f' s' (y8.l g8).toArray (q8.l s8).toArray q8 s8 g8.pg y8 g8) => begin_r h.rv h.rf HPW.out.okg h.st.own_lt (by rw [HPW.out.sq.br, HPW.out.sim.down]) (fun _ => HPW.out.sq.enc (by have := HKB.out; omega)))
              rw [HPW.out.sim.beginS, HPW.out.sim.beginE] at HBR
              obtain ⟨sN, hsN⟩ : ∃ r, beginS s8 f8 = r := ⟨_, rfl⟩
              obtain ⟨cN, hcN⟩ : ∃ r, beginE s8 f8 = r := ⟨_, rfl⟩
              unfold BeginR at HBEG
              rw [hsN, hcN] at HBEG HBR
              rw [hsN] at HSQ hsm
              have HSM := Lib.hid hsm
              clear hsN hcN hsm
              go_wp2_with (fail)
              (with_reducible refine HBEG.out.mono ?_)
              rintro e w9 ⟨rfl, ⟨S9, hd, hg, hs9⟩, ho9⟩
              have HP9 := Lib.hid (HPW.out.w.prog hs9 hd hg ho9)
              have HD := Lib.hid hd
              clear d0 d1 d2 d3 hs9 ho9 hd hg
              go_upto_region 36 with (fail)
              refine wp_region_list ?_
              refine wpList_load_row rfl 105 _ rfl B12 rfl 105 #[Value.int .i64 s8.first, .int .i64 s8.blocks, .slice q8.Q1 s8.spec.length q8.c1, .slice q8.Q2 s8.staged.length q8.c2, .slice q8.Q3 s8.saved.length q8.c3, .int .i64 s8.seq, .int .i64 s8.block, .int .i64 s8.slot, .slice q8.Q4 q8.n4 q8.c4, .slice q8.Q5 q8.n5 q8.c5, .int .i64 q8.pg, .int .i64 q8.er, .int .i64 q8.nb, .int .i64 q8.ns, .bool s8.broken] (0, 0) _ HP9.out.h12 Try.underlying105 rfl size105 ?_
              simp only [Act.put, List.setIfInBounds_toArray, List.set_cons_zero, List.set_cons_succ]
              refine wpList_load_row rfl 60 _ rfl B9 rfl 60 #[Value.slice y8.A g8.img.length y8.c, .int .i64 g8.pg, .slice y8.B g8.wear.length y8.d, .bool g8.down, .int .i64 g8.fuse, .slice y8.P g8.picks.length y8.r] (0, 0) _ HP9.out.h9 Try.underlying60 rfl size60 ?_
              simp only [Act.put, List.setIfInBounds_toArray, List.set_cons_zero, List.set_cons_succ]
              refine wpList_call9 (n := 68) (al := [.agg #[Value.int .i64 s8.first, .int .i64 s8.blocks, .slice q8.Q1 s8.spec.length q8.c1, .slice q8.Q2 s8.staged.length q8.c2, .slice q8.Q3 s8.saved.length q8.c3, .int .i64 s8.seq, .int .i64 s8.block, .int .i64 s8.slot, .slice q8.Q4 q8.n4 q8.c4, .slice q8.Q5 q8.n5 q8.c5, .int .i64 q8.pg, .int .i64 q8.er, .int .i64 q8.nb, .int .i64 q8.ns, .bool s8.broken], .agg #[Value.slice y8.A g8.img.length y8.c, .int .i64 g8.pg, .slice y8.B g8.wear.length y8.d, .bool g8.down, .int .i64 g8.fuse, .slice y8.P g8.picks.length y8.r]]) rfl _ _ rfl (by rfl) enter68 ?_
              (with_reducible refine (HBR.out w9 S9 f8 sN HP9.out).mono ?_)
              rintro e w10 ⟨qN, rfl, hv10, hb10⟩
              refine ⟨_, rfl, ?_⟩
              simp only [Act.put, List.setIfInBounds_toArray, List.set_cons_zero, List.set_cons_succ]
              have HP10 := Lib.hid ((HP9.out.later hb10).rv' hv10)
              clear hv10 hb10
              refine wpList_value (v := .tuple #[.agg #[Value.int .i64 sN.first, .int .i64 sN.blocks, .slice qN.Q1 sN.spec.length qN.c1, .slice qN.Q2 sN.staged.length qN.c2, .slice qN.Q3 sN.saved.length qN.c3, .int .i64 sN.seq, .int .i64 sN.block, .int .i64 sN.slot, .slice qN.Q4 qN.n4 qN.c4, .slice qN.Q5 qN.n5 qN.c5, .int .i64 qN.pg, .int .i64 qN.er, .int .i64 qN.nb, .int .i64 qN.ns, .bool sN.broken], .int .i64 cN]) rfl (by rfl) ?_
              simp only [Act.put, List.setIfInBounds_toArray, List.set_cons_zero, List.set_cons_succ]
              refine wpList_value (v := .agg #[Value.int .i64 sN.first, .int .i64 sN.blocks, .slice qN.Q1 sN.spec.length qN.c1, .slice qN.Q2 sN.staged.length qN.c2, .slice qN.Q3 sN.saved.length qN.c3, .int .i64 sN.seq, .int .i64 sN.block, .int .i64 sN.slot, .slice qN.Q4 qN.n4 qN.c4, .slice qN.Q5 qN.n5 qN.c5, .int .i64 qN.pg, .int .i64 qN.er, .int .i64 qN.nb, .int .i64 qN.ns, .bool sN.broken]) rfl (by rfl) ?_
              simp only [Act.put, List.setIfInBounds_toArray, List.set_cons_zero, List.set_cons_succ]
              refine wpList_value (v := .int .i64 cN) rfl (by rfl) ?_
              simp only [Act.put, List.setIfInBounds_toArray, List.set_cons_zero, List.set_cons_succ]
              refine wpList_store_row rfl 105 _ _ rfl B12 #[Value.int .i64 sN.first, .int .i64 sN.blocks, .slice qN.Q1 sN.spec.length qN.c1, .slice qN.Q2 sN.staged.length qN.c2, .slice qN.Q3 sN.saved.length qN.c3, .int .i64 sN.seq, .int .i64 sN.block, .int .i64 sN.slot, .slice qN.Q4 qN.n4 qN.c4, .slice qN.Q5 qN.n5 qN.c5, .int .i64 qN.pg, .int .i64 qN.er, .int .i64 qN.nb, .int .i64 qN.ns, .bool sN.broken] rfl rfl 105 #[Value.int .i64 s8.first, .int .i64 s8.blocks, .slice q8.Q1 s8.spec.length q8.c1, .slice q8.Q2 s8.staged.length q8.c2, .slice q8.Q3 s8.saved.length q8.c3, .int .i64 s8.seq, .int .i64 s8.block, .int .i64 s8.slot, .slice q8.Q4 q8.n4 q8.c4, .slice q8.Q5 q8.n5 q8.c5, .int .i64 q8.pg, .int .i64 q8.er, .int .i64 q8.nb, .int .i64 q8.ns, .bool s8.broken] HP10.out.h12 size105 rfl (one15 ..) ?_
              have HP11 := Lib.hid (HP10.out.put12 #[Value.int .i64 sN.first, .int .i64 sN.blocks, .slice qN.Q1 sN.spec.length qN.c1, .slice qN.Q2 sN.staged.length qN.c2, .slice qN.Q3 sN.saved.length qN.c3, .int .i64 sN.seq, .int .i64 sN.block, .int .i64 sN.slot, .slice qN.Q4 qN.n4 qN.c4, .slice qN.Q5 qN.n5 qN.c5, .int .i64 qN.pg, .int .i64 qN.er, .int .i64 qN.nb, .int .i64 qN.ns, .bool sN.broken])
              go_wp2_with (fail)
              refine Met.intro ?_
              refine HJJ.out _ _ ?_
              (repeat apply Exists.intro)
              refine ⟨?_, rfl⟩
              exact ⟨cN, false, rfl, rfl, rfl, rfl, Ap, cp, S9, f8, sN, qN, y8, g8, by rw [HD.out], HP11.out, HSQ.out, HPW.out.sim, HSM.out.spec.trans HPW.out.spec, HSM.out.first.trans HPW.out.first, HSM.out.blocks.trans HPW.out.blocks⟩
          iterate 3
            focus
              as_aux_lemma =>
                have HSTE := Lib.hid (step_any HPW.out.w.st HPW.out.sq.ok)
                have hsq := HPW.out.sq.step
                have hsm := stepS_same s8 f8
                obtain ⟨m1, m2', m3⟩ := HPW.out.sim.step s8
                have HSR := Lib.hid (fun (w' : World) (S' : Sc) (f' : Fl) (s' : St) (h : PlW V3 w' { L2 with Ap := Ap, cp := cp } B9 B12 S' f' s' (y8.l g8).toArray (q8.l s8).toArray q8 s8 g8.pg y8 g8) => step_r h.rv h.rf HPW.out.okg h.st.own_lt)
                have hpg := step_pg s8 g8
                obtain ⟨⟨sN, fN, dn, er⟩, hq⟩ : ∃ r, stepS s8 f8 = r := ⟨_, rfl⟩
                obtain ⟨gN, hgN⟩ : ∃ r, (stepS s8 g8).2.1 = r := ⟨_, rfl⟩
                rw [hq] at HSTE hsq hsm m1 m2' m3
                simp only at hsq hsm m1 m2' m3
                rw [hgN] at m3 hpg
                rw [m1, m2', hgN] at HSR
                have HSQ := Lib.hid hsq
                have HSM := Lib.hid hsm
                have HSI := Lib.hid m3
                have HPG := Lib.hid hpg
                clear hq hgN hsq hsm m1 m2' m3 hpg
                unfold StepR at HSTE
                simp only at HSTE
                go_wp2_with (fail)
                (with_reducible refine HSTE.out.mono ?_)
                rintro e w9 ⟨rfl, ⟨S9, hd, hg, hs9⟩, ho9⟩
                have HP9 := Lib.hid (HPW.out.w.prog hs9 hd hg ho9)
                have HD := Lib.hid hd
                clear d0 d1 d2 d3 hs9 ho9 hd hg
                go_upto_region 41 with (fail)
                refine wp_region_list ?_
                refine wpList_load_row rfl 105 _ rfl B12 rfl 105 #[Value.int .i64 s8.first, .int .i64 s8.blocks, .slice q8.Q1 s8.spec.length q8.c1, .slice q8.Q2 s8.staged.length q8.c2, .slice q8.Q3 s8.saved.length q8.c3, .int .i64 s8.seq, .int .i64 s8.block, .int .i64 s8.slot, .slice q8.Q4 q8.n4 q8.c4, .slice q8.Q5 q8.n5 q8.c5, .int .i64 q8.pg, .int .i64 q8.er, .int .i64 q8.nb, .int .i64 q8.ns, .bool s8.broken] (0, 0) _ HP9.out.h12 Try.underlying105 rfl size105 ?_
                simp only [Act.put, List.setIfInBounds_toArray, List.set_cons_zero, List.set_cons_succ]
                refine wpList_load_row rfl 60 _ rfl B9 rfl 60 #[Value.slice y8.A g8.img.length y8.c, .int .i64 g8.pg, .slice y8.B g8.wear.length y8.d, .bool g8.down, .int .i64 g8.fuse, .slice y8.P g8.picks.length y8.r] (0, 0) _ HP9.out.h9 Try.underlying60 rfl size60 ?_
                simp only [Act.put, List.setIfInBounds_toArray, List.set_cons_zero, List.set_cons_succ]
                refine wpList_call9 (n := 69) (al := [.agg #[Value.int .i64 s8.first, .int .i64 s8.blocks, .slice q8.Q1 s8.spec.length q8.c1, .slice q8.Q2 s8.staged.length q8.c2, .slice q8.Q3 s8.saved.length q8.c3, .int .i64 s8.seq, .int .i64 s8.block, .int .i64 s8.slot, .slice q8.Q4 q8.n4 q8.c4, .slice q8.Q5 q8.n5 q8.c5, .int .i64 q8.pg, .int .i64 q8.er, .int .i64 q8.nb, .int .i64 q8.ns, .bool s8.broken], .agg #[Value.slice y8.A g8.img.length y8.c, .int .i64 g8.pg, .slice y8.B g8.wear.length y8.d, .bool g8.down, .int .i64 g8.fuse, .slice y8.P g8.picks.length y8.r]]) rfl _ _ rfl (by rfl) enter69 ?_
                (with_reducible refine (HSR.out w9 S9 fN sN HP9.out).mono ?_)
                rintro e w10 ⟨qN, yN, rfl, hv10, hr10, hb10⟩
                refine ⟨_, rfl, ?_⟩
                simp only [Act.put, List.setIfInBounds_toArray, List.set_cons_zero, List.set_cons_succ]
                have HP10 := Lib.hid (((HP9.out.later hb10).rv' hv10).rf' hr10)
                clear hv10 hr10 hb10
                refine wpList_value (v := .tuple #[.agg #[Value.int .i64 sN.first, .int .i64 sN.blocks, .slice qN.Q1 sN.spec.length qN.c1, .slice qN.Q2 sN.staged.length qN.c2, .slice qN.Q3 sN.saved.length qN.c3, .int .i64 sN.seq, .int .i64 sN.block, .int .i64 sN.slot, .slice qN.Q4 qN.n4 qN.c4, .slice qN.Q5 qN.n5 qN.c5, .int .i64 qN.pg, .int .i64 qN.er, .int .i64 qN.nb, .int .i64 qN.ns, .bool sN.broken], .agg #[Value.slice yN.A gN.img.length yN.c, .int .i64 gN.pg, .slice yN.B gN.wear.length yN.d, .bool gN.down, .int .i64 gN.fuse, .slice yN.P gN.picks.length yN.r], .bool dn, .int .i64 er]) rfl (by rfl) ?_
                simp only [Act.put, List.setIfInBounds_toArray, List.set_cons_zero, List.set_cons_succ]
                refine wpList_value (v := .agg #[Value.int .i64 sN.first, .int .i64 sN.blocks, .slice qN.Q1 sN.spec.length qN.c1, .slice qN.Q2 sN.staged.length qN.c2, .slice qN.Q3 sN.saved.length qN.c3, .int .i64 sN.seq, .int .i64 sN.block, .int .i64 sN.slot, .slice qN.Q4 qN.n4 qN.c4, .slice qN.Q5 qN.n5 qN.c5, .int .i64 qN.pg, .int .i64 qN.er, .int .i64 qN.nb, .int .i64 qN.ns, .bool sN.broken]) rfl (by rfl) ?_
                simp only [Act.put, List.setIfInBounds_toArray, List.set_cons_zero, List.set_cons_succ]
                refine wpList_value (v := .agg #[Value.slice yN.A gN.img.length yN.c, .int .i64 gN.pg, .slice yN.B gN.wear.length yN.d, .bool gN.down, .int .i64 gN.fuse, .slice yN.P gN.picks.length yN.r]) rfl (by rfl) ?_
                simp only [Act.put, List.setIfInBounds_toArray, List.set_cons_zero, List.set_cons_succ]
                refine wpList_value (v := .bool dn) rfl (by rfl) ?_
                simp only [Act.put, List.setIfInBounds_toArray, List.set_cons_zero, List.set_cons_succ]
                refine wpList_value (v := .int .i64 er) rfl (by rfl) ?_
                simp only [Act.put, List.setIfInBounds_toArray, List.set_cons_zero, List.set_cons_succ]
                refine wpList_store_row rfl 105 _ _ rfl B12 #[Value.int .i64 sN.first, .int .i64 sN.blocks, .slice qN.Q1 sN.spec.length qN.c1, .slice qN.Q2 sN.staged.length qN.c2, .slice qN.Q3 sN.saved.length qN.c3, .int .i64 sN.seq, .int .i64 sN.block, .int .i64 sN.slot, .slice qN.Q4 qN.n4 qN.c4, .slice qN.Q5 qN.n5 qN.c5, .int .i64 qN.pg, .int .i64 qN.er, .int .i64 qN.nb, .int .i64 qN.ns, .bool sN.broken] rfl rfl 105 #[Value.int .i64 s8.first, .int .i64 s8.blocks, .slice q8.Q1 s8.spec.length q8.c1, .slice q8.Q2 s8.staged.length q8.c2, .slice q8.Q3 s8.saved.length q8.c3, .int .i64 s8.seq, .int .i64 s8.block, .int .i64 s8.slot, .slice q8.Q4 q8.n4 q8.c4, .slice q8.Q5 q8.n5 q8.c5, .int .i64 q8.pg, .int .i64 q8.er, .int .i64 q8.nb, .int .i64 q8.ns, .bool s8.broken] HP10.out.h12 size105 rfl (one15 ..) ?_
                have HP11 := Lib.hid (HP10.out.put12 #[Value.int .i64 sN.first, .int .i64 sN.blocks, .slice qN.Q1 sN.spec.length qN.c1, .slice qN.Q2 sN.staged.length qN.c2, .slice qN.Q3 sN.saved.length qN.c3, .int .i64 sN.seq, .int .i64 sN.block, .int .i64 sN.slot, .slice qN.Q4 qN.n4 qN.c4, .slice qN.Q5 qN.n5 qN.c5, .int .i64 qN.pg, .int .i64 qN.er, .int .i64 qN.nb, .int .i64 qN.ns, .bool sN.broken])
                refine wpList_store_row rfl 60 _ _ rfl B9 #[Value.slice yN.A gN.img.length yN.c, .int .i64 gN.pg, .slice yN.B gN.wear.length yN.d, .bool gN.down, .int .i64 gN.fuse, .slice yN.P gN.picks.length yN.r] rfl rfl 60 #[Value.slice y8.A g8.img.length y8.c, .int .i64 g8.pg, .slice y8.B g8.wear.length y8.d, .bool g8.down, .int .i64 g8.fuse, .slice y8.P g8.picks.length y8.r] HP11.out.h9 size60 rfl (one6 ..) ?_
                have HP12 := Lib.hid (HP11.out.put9 #[Value.slice yN.A gN.img.length yN.c, .int .i64 gN.pg, .slice yN.B gN.wear.length yN.d, .bool gN.down, .int .i64 gN.fuse, .slice yN.P gN.picks.length yN.r])
                go_wp2_with (fail)
                refine Met.intro ?_
                refine HJJ.out _ _ ?_
                (repeat apply Exists.intro)
                refine ⟨?_, rfl⟩
                exact ⟨er, dn, rfl, rfl, rfl, rfl, Ap, cp, S9, fN, sN, qN, yN, gN, by rw [HD.out], HP12.out.cast HPG.out.symm, HSQ.out, HSI.out, HSM.out.spec.trans HPW.out.spec, HSM.out.first.trans HPW.out.first, HSM.out.blocks.trans HPW.out.blocks⟩
          focus
            as_aux_lemma =>
              have HCO := Lib.hid (commit_any HPW.out.w.st HPW.out.sq.ok)
              have hsq := HPW.out.sq.commit
              have hsm := commitS_same s8 f8
              obtain ⟨m1, m2', m3⟩ := HPW.out.sim.commit s8
              have HSR := Lib.hid (fun (w' : World) (S' : Sc) (f' : Fl) (s' : St) (h : PlW V3 w' { L2 with Ap := Ap, cp := cp } B9 B12 S' f' s' (y8.l g8).toArray (q8.l s8).toArray q8 s8 g8.pg y8 g8) => commit_r h.rv h.rf HPW.out.okg h.st.own_lt (by rw [HPW.out.sq.br, HPW.out.sim.down]) (fun _ => HPW.out.sq.enc (by have := HKB.out; omega)))
              have hpg := commit_pg s8 g8
              obtain ⟨⟨sN, fN, er⟩, hq⟩ : ∃ r, commitS s8 f8 = r := ⟨_, rfl⟩
              obtain ⟨gN, hgN⟩ : ∃ r, (commitS s8 g8).2.1 = r := ⟨_, rfl⟩
              rw [hq] at HCO hsq hsm m1 m2' m3
              simp only at hsq hsm m1 m2' m3
              rw [hgN] at m3 hpg
              rw [m1, m2', hgN] at HSR
              have HSQ := Lib.hid hsq
              have HSM := Lib.hid hsm
              have HSI := Lib.hid m3
              have HPG := Lib.hid hpg
              clear hq hgN hsq hsm m1 m2' m3 hpg
              unfold CommitR at HCO
              simp only at HCO
              go_wp2_with (fail)
              (with_reducible refine HCO.out.mono ?_)
              rintro e w9 ⟨rfl, ⟨S9, hd, hg, hs9⟩, ho9⟩
              have HP9 := Lib.hid (HPW.out.w.prog hs9 hd hg ho9)
              have HD := Lib.hid hd
              clear d0 d1 d2 d3 hs9 ho9 hd hg
              go_upto_region 44 with (fail)
              refine wp_region_list ?_
              refine wpList_load_row rfl 105 _ rfl B12 rfl 105 #[Value.int .i64 s8.first, .int .i64 s8.blocks, .slice q8.Q1 s8.spec.length q8.c1, .slice q8.Q2 s8.staged.length q8.c2, .slice q8.Q3 s8.saved.length q8.c3, .int .i64 s8.seq, .int .i64 s8.block, .int .i64 s8.slot, .slice q8.Q4 q8.n4 q8.c4, .slice q8.Q5 q8.n5 q8.c5, .int .i64 q8.pg, .int .i64 q8.er, .int .i64 q8.nb, .int .i64 q8.ns, .bool s8.broken] (0, 0) _ HP9.out.h12 Try.underlying105 rfl size105 ?_
              simp only [Act.put, List.setIfInBounds_toArray, List.set_cons_zero, List.set_cons_succ]
              refine wpList_load_row rfl 60 _ rfl B9 rfl 60 #[Value.slice y8.A g8.img.length y8.c, .int .i64 g8.pg, .slice y8.B g8.wear.length y8.d, .bool g8.down, .int .i64 g8.fuse, .slice y8.P g8.picks.length y8.r] (0, 0) _ HP9.out.h9 Try.underlying60 rfl size60 ?_
              simp only [Act.put, List.setIfInBounds_toArray, List.set_cons_zero, List.set_cons_succ]
              refine wpList_call9 (n := 70) (al := [.agg #[Value.int .i64 s8.first, .int .i64 s8.blocks, .slice q8.Q1 s8.spec.length q8.c1, .slice q8.Q2 s8.staged.length q8.c2, .slice q8.Q3 s8.saved.length q8.c3, .int .i64 s8.seq, .int .i64 s8.block, .int .i64 s8.slot, .slice q8.Q4 q8.n4 q8.c4, .slice q8.Q5 q8.n5 q8.c5, .int .i64 q8.pg, .int .i64 q8.er, .int .i64 q8.nb, .int .i64 q8.ns, .bool s8.broken], .agg #[Value.slice y8.A g8.img.length y8.c, .int .i64 g8.pg, .slice y8.B g8.wear.length y8.d, .bool g8.down, .int .i64 g8.fuse, .slice y8.P g8.picks.length y8.r]]) rfl _ _ rfl (by rfl) enter70 ?_
              (with_reducible refine (HSR.out w9 S9 fN sN HP9.out).mono ?_)
              rintro e w10 ⟨qN, yN, rfl, hv10, hr10, hb10⟩
              refine ⟨_, rfl, ?_⟩
              simp only [Act.put, List.setIfInBounds_toArray, List.set_cons_zero, List.set_cons_succ]
              have HP10 := Lib.hid (((HP9.out.later hb10).rv' hv10).rf' hr10)
              clear hv10 hr10 hb10
              refine wpList_value (v := .tuple #[.agg #[Value.int .i64 sN.first, .int .i64 sN.blocks, .slice qN.Q1 sN.spec.length qN.c1, .slice qN.Q2 sN.staged.length qN.c2, .slice qN.Q3 sN.saved.length qN.c3, .int .i64 sN.seq, .int .i64 sN.block, .int .i64 sN.slot, .slice qN.Q4 qN.n4 qN.c4, .slice qN.Q5 qN.n5 qN.c5, .int .i64 qN.pg, .int .i64 qN.er, .int .i64 qN.nb, .int .i64 qN.ns, .bool sN.broken], .agg #[Value.slice yN.A gN.img.length yN.c, .int .i64 gN.pg, .slice yN.B gN.wear.length yN.d, .bool gN.down, .int .i64 gN.fuse, .slice yN.P gN.picks.length yN.r], .int .i64 er]) rfl (by rfl) ?_
              simp only [Act.put, List.setIfInBounds_toArray, List.set_cons_zero, List.set_cons_succ]
              refine wpList_value (v := .agg #[Value.int .i64 sN.first, .int .i64 sN.blocks, .slice qN.Q1 sN.spec.length qN.c1, .slice qN.Q2 sN.staged.length qN.c2, .slice qN.Q3 sN.saved.length qN.c3, .int .i64 sN.seq, .int .i64 sN.block, .int .i64 sN.slot, .slice qN.Q4 qN.n4 qN.c4, .slice qN.Q5 qN.n5 qN.c5, .int .i64 qN.pg, .int .i64 qN.er, .int .i64 qN.nb, .int .i64 qN.ns, .bool sN.broken]) rfl (by rfl) ?_
              simp only [Act.put, List.setIfInBounds_toArray, List.set_cons_zero, List.set_cons_succ]
              refine wpList_value (v := .agg #[Value.slice yN.A gN.img.length yN.c, .int .i64 gN.pg, .slice yN.B gN.wear.length yN.d, .bool gN.down, .int .i64 gN.fuse, .slice yN.P gN.picks.length yN.r]) rfl (by rfl) ?_
              simp only [Act.put, List.setIfInBounds_toArray, List.set_cons_zero, List.set_cons_succ]
              refine wpList_value (v := .int .i64 er) rfl (by rfl) ?_
              simp only [Act.put, List.setIfInBounds_toArray, List.set_cons_zero, List.set_cons_succ]
              refine wpList_store_row rfl 105 _ _ rfl B12 #[Value.int .i64 sN.first, .int .i64 sN.blocks, .slice qN.Q1 sN.spec.length qN.c1, .slice qN.Q2 sN.staged.length qN.c2, .slice qN.Q3 sN.saved.length qN.c3, .int .i64 sN.seq, .int .i64 sN.block, .int .i64 sN.slot, .slice qN.Q4 qN.n4 qN.c4, .slice qN.Q5 qN.n5 qN.c5, .int .i64 qN.pg, .int .i64 qN.er, .int .i64 qN.nb, .int .i64 qN.ns, .bool sN.broken] rfl rfl 105 #[Value.int .i64 s8.first, .int .i64 s8.blocks, .slice q8.Q1 s8.spec.length q8.c1, .slice q8.Q2 s8.staged.length q8.c2, .slice q8.Q3 s8.saved.length q8.c3, .int .i64 s8.seq, .int .i64 s8.block, .int .i64 s8.slot, .slice q8.Q4 q8.n4 q8.c4, .slice q8.Q5 q8.n5 q8.c5, .int .i64 q8.pg, .int .i64 q8.er, .int .i64 q8.nb, .int .i64 q8.ns, .bool s8.broken] HP10.out.h12 size105 rfl (one15 ..) ?_
              have HP11 := Lib.hid (HP10.out.put12 #[Value.int .i64 sN.first, .int .i64 sN.blocks, .slice qN.Q1 sN.spec.length qN.c1, .slice qN.Q2 sN.staged.length qN.c2, .slice qN.Q3 sN.saved.length qN.c3, .int .i64 sN.seq, .int .i64 sN.block, .int .i64 sN.slot, .slice qN.Q4 qN.n4 qN.c4, .slice qN.Q5 qN.n5 qN.c5, .int .i64 qN.pg, .int .i64 qN.er, .int .i64 qN.nb, .int .i64 qN.ns, .bool sN.broken])
              refine wpList_store_row rfl 60 _ _ rfl B9 #[Value.slice yN.A gN.img.length yN.c, .int .i64 gN.pg, .slice yN.B gN.wear.length yN.d, .bool gN.down, .int .i64 gN.fuse, .slice yN.P gN.picks.length yN.r] rfl rfl 60 #[Value.slice y8.A g8.img.length y8.c, .int .i64 g8.pg, .slice y8.B g8.wear.length y8.d, .bool g8.down, .int .i64 g8.fuse, .slice y8.P g8.picks.length y8.r] HP11.out.h9 size60 rfl (one6 ..) ?_
              have HP12 := Lib.hid (HP11.out.put9 #[Value.slice yN.A gN.img.length yN.c, .int .i64 gN.pg, .slice yN.B gN.wear.length yN.d, .bool gN.down, .int .i64 gN.fuse, .slice yN.P gN.picks.length yN.r])
              go_wp2_with (fail)
              refine Met.intro ?_
              refine HJJ.out _ _ ?_
              (repeat apply Exists.intro)
              refine ⟨?_, rfl⟩
              exact ⟨er, false, rfl, rfl, rfl, rfl, Ap, cp, S9, fN, sN, qN, yN, gN, by rw [HD.out], HP12.out.cast HPG.out.symm, HSQ.out, HSI.out, HSM.out.spec.trans HPW.out.spec, HSM.out.first.trans HPW.out.first, HSM.out.blocks.trans HPW.out.blocks⟩
          focus
            as_aux_lemma =>
              have HFU := Lib.hid (fuseS_any HPW.out.w.st x.a HXO.out.a0 x.P x.q x.r x.p HXO4.out.rp HXO.out.lp HXO.out.sq HXO.out.bp)
              have HSQ := Lib.hid ((HPW.out.sq.fuse (k := x.a) HXO.out.bp HXO.out.a0.2).more (show (k : Int) ≤ (k : Int) + 1 by omega))
              have HSI := Lib.hid (HPW.out.sim.fu x.a x.p)
              obtain ⟨fN, hfN⟩ : ∃ r, fuseF f8 x.a x.p = r := ⟨_, rfl⟩
              obtain ⟨gN, hgN⟩ : ∃ r, fuseF g8 x.a x.p = r := ⟨_, rfl⟩
              have HPG : Hid (gN.pg = g8.pg) := by rw [← hgN]; rfl
              have HGN := Lib.hid hgN
              rw [hfN] at HFU HSQ HSI
              rw [hgN] at HSI
              clear hfN hgN
              go_wp2_with (fail)
              (with_reducible refine HFU.out.mono ?_)
              rintro e w9 ⟨rfl, ⟨Ap9, cp9, hs9⟩, ho9⟩
              have HP9 : Hid (PlW V3 w9 { L2 with Ap := Ap9, cp := cp9 } B9 B12 S8 fN s8 (y8.l g8).toArray (q8.l s8).toArray q8 s8 g8.pg y8 g8) := HPW.out.w.prog2 hs9 ho9
              have HC9 := Lib.hid (HCW.out.onlyX ho9 HNA0.out)
              have HXO9 : Hid (x.ok w9 w9.heap.size) := ev_more (HXO.out.below (HBV3.out.trans (HP9.out.st.fl.below.mono HBV3.out.size)) (Nat.le_refl _)) (HBV3.out.trans (HP9.out.st.fl.below.mono HBV3.out.size)).size
              have HFR := Lib.hid (fuseR_any HP9.out.rf HP9.out.st.own_lt x.a HXO.out.a0.1 HXO.out.a0.2 x.P x.q x.r x.p HXO9.out.rp HXO.out.lp HXO.out.sq HXO.out.bp)
              rw [HGN.out] at HFR
              clear d0 d1 d2 d3 hs9 ho9
              obtain ⟨d0, d1, d2, d3, dz⟩ := HC9.out
              clear dz
              go_upto_region 47 with (fail)
              refine wp_region_list ?_
              refine wpList_load_row rfl 60 _ rfl B9 rfl 60 #[Value.slice y8.A g8.img.length y8.c, .int .i64 g8.pg, .slice y8.B g8.wear.length y8.d, .bool g8.down, .int .i64 g8.fuse, .slice y8.P g8.picks.length y8.r] (0, 0) _ HP9.out.h9 Try.underlying60 rfl size60 ?_
              simp only [Act.put, List.setIfInBounds_toArray, List.set_cons_zero, List.set_cons_succ]
              refine wpList_value (v := .pointer (some ⟨DA, 1, none⟩)) rfl (by rfl) ?_
              simp only [Act.put, List.setIfInBounds_toArray, List.set_cons_zero, List.set_cons_succ]
              refine wpList_value (v := .int .i64 x.a) rfl (by go_simp) ?_
              simp only [Act.put, List.setIfInBounds_toArray, List.set_cons_zero, List.set_cons_succ]
              refine wpList_value (v := .pointer (some ⟨DA, 3, none⟩)) rfl (by rfl) ?_
              simp only [Act.put, List.setIfInBounds_toArray, List.set_cons_zero, List.set_cons_succ]
              refine wpList_value (v := .slice x.P x.q x.r) rfl (by go_simp) ?_
              simp only [Act.put, List.setIfInBounds_toArray, List.set_cons_zero, List.set_cons_succ]
              refine wpList_call9 (n := 71) (al := [.agg #[Value.slice y8.A g8.img.length y8.c, .int .i64 g8.pg, .slice y8.B g8.wear.length y8.d, .bool g8.down, .int .i64 g8.fuse, .slice y8.P g8.picks.length y8.r], .int .i64 x.a, .slice x.P x.q x.r]) rfl _ _ rfl (by rfl) enter71 ?_
              (with_reducible refine HFR.out.mono ?_)
              rintro e w10 ⟨yN, rfl, hr10, hb10⟩
              refine ⟨_, rfl, ?_⟩
              simp only [Act.put, List.setIfInBounds_toArray, List.set_cons_zero, List.set_cons_succ]
              have HP10 := Lib.hid ((HP9.out.later hb10).rf' hr10)
              clear d0 d1 d2 d3 hr10 hb10
              refine wpList_store_row rfl 60 _ _ rfl B9 #[Value.slice yN.A gN.img.length yN.c, .int .i64 gN.pg, .slice yN.B gN.wear.length yN.d, .bool gN.down, .int .i64 gN.fuse, .slice yN.P gN.picks.length yN.r] rfl rfl 60 #[Value.slice y8.A g8.img.length y8.c, .int .i64 g8.pg, .slice y8.B g8.wear.length y8.d, .bool g8.down, .int .i64 g8.fuse, .slice y8.P g8.picks.length y8.r] HP10.out.h9 size60 rfl (one6 ..) ?_
              have HP12 := Lib.hid (HP10.out.put9 #[Value.slice yN.A gN.img.length yN.c, .int .i64 gN.pg, .slice yN.B gN.wear.length yN.d, .bool gN.down, .int .i64 gN.fuse, .slice yN.P gN.picks.length yN.r])
              go_wp2_with (fail)
              refine Met.intro ?_
              refine HJJ.out _ _ ?_
              (repeat apply Exists.intro)
              refine ⟨?_, rfl⟩
              exact ⟨0, false, rfl, rfl, rfl, rfl, Ap9, cp9, S8, fN, s8, q8, yN, gN, rfl, HP12.out.cast HPG.out.symm, HSQ.out, HSI.out, HPW.out.spec, HPW.out.first, HPW.out.blocks⟩
          focus
            as_aux_lemma =>
              have hag := HPW.out.sq.again (by rw [HPW.out.spec]; exact HBAD.out)
              rw [HPW.out.spec, HPW.out.first, HPW.out.blocks] at hag
              obtain ⟨oe, hsv, hsm⟩ := hag
              have HSS := Lib.hid (startS_any HPW.out.w.st)
              have HSI := Lib.hid HPW.out.sim.start
              obtain ⟨fN, hfN⟩ : ∃ r, startF f8 = r := ⟨_, rfl⟩
              obtain ⟨gN, hgN⟩ : ∃ r, startR g8 = r := ⟨_, rfl⟩
              have HPG : Hid (gN.pg = g8.pg) := by rw [← hgN]; unfold startR; split <;> rfl
              have HGN := Lib.hid hgN
              rw [hfN] at HSS HSI oe hsv hsm
              rw [hgN] at HSI
              have HOE := Lib.hid oe
              have HSQ := Lib.hid hsv
              have HSM := Lib.hid hsm
              clear hfN hgN oe hsv hsm
              go_wp2_with (fail)
              (with_reducible refine HSS.out.mono ?_)
              rintro e w9 ⟨rfl, ⟨Ap9, cp9, hs9⟩, ho9⟩
              have HP9 : Hid (PlW V3 w9 { L2 with Ap := Ap9, cp := cp9 } B9 B12 S8 fN s8 (y8.l g8).toArray (q8.l s8).toArray q8 s8 g8.pg y8 g8) := HPW.out.w.prog2 hs9 ho9
              have HSR := Lib.hid (startR_any HP9.out.rf)
              have HRR := Lib.hid HP9.out.rf.startR
              rw [HGN.out] at HSR HRR
              clear d0 d1 d2 d3 hs9 ho9
              go_upto_region 20 with (fail)
              refine wp_region_list ?_
              refine wpList_load_row rfl 60 _ rfl B9 rfl 60 #[Value.slice y8.A g8.img.length y8.c, .int .i64 g8.pg, .slice y8.B g8.wear.length y8.d, .bool g8.down, .int .i64 g8.fuse, .slice y8.P g8.picks.length y8.r] (0, 0) _ HP9.out.h9 Try.underlying60 rfl size60 ?_
              simp only [Act.put, List.setIfInBounds_toArray, List.set_cons_zero, List.set_cons_succ]
              refine wpList_call9 (n := 72) (al := [.agg #[Value.slice y8.A g8.img.length y8.c, .int .i64 g8.pg, .slice y8.B g8.wear.length y8.d, .bool g8.down, .int .i64 g8.fuse, .slice y8.P g8.picks.length y8.r]]) rfl _ _ rfl (by rfl) enter72 ?_
              (with_reducible refine HSR.out.mono ?_)
              rintro e wB ⟨rfl, hbB⟩
              refine ⟨_, rfl, ?_⟩
              simp only [Act.put, List.setIfInBounds_toArray, List.set_cons_zero, List.set_cons_succ]
              have HPB := Lib.hid ((HP9.out.rf' HRR.out).later hbB)
              clear hbB
              refine wpList_store_row rfl 60 _ _ rfl B9 #[Value.slice y8.A gN.img.length y8.c, .int .i64 gN.pg, .slice y8.B gN.wear.length y8.d, .bool gN.down, .int .i64 gN.fuse, .slice y8.P gN.picks.length y8.r] rfl rfl 60 #[Value.slice y8.A g8.img.length y8.c, .int .i64 g8.pg, .slice y8.B g8.wear.length y8.d, .bool g8.down, .int .i64 g8.fuse, .slice y8.P g8.picks.length y8.r] HPB.out.h9 size60 rfl (one6 ..) ?_
              have HPS := Lib.hid (HPB.out.put9 #[Value.slice y8.A gN.img.length y8.c, .int .i64 gN.pg, .slice y8.B gN.wear.length y8.d, .bool gN.down, .int .i64 gN.fuse, .slice y8.P gN.picks.length y8.r])
              obtain ⟨wS, hwS⟩ : ∃ wS, wB.setRow B9 #[Value.slice y8.A gN.img.length y8.c, .int .i64 gN.pg, .slice y8.B gN.wear.length y8.d, .bool gN.down, .int .i64 gN.fuse, .slice y8.P gN.picks.length y8.r] = wS := ⟨_, rfl⟩
              rw [hwS] at HPS
              rw [hwS]
              clear hwS
              have d0 : True := trivial
              have d1 := d0
              have d2 := d0
              have d3 := d0
              have HCS := Lib.hid (HCV3.out.below HPS.out.st.fl.below hgV3)
              have HSPS := Lib.hid ((HSP.out.below (HBV3.out.trans (HPS.out.st.fl.below.mono HBV3.out.size)) (Nat.le_refl _)).more (HBV3.out.trans (HPS.out.st.fl.below.mono HBV3.out.size)).size)
              have HPE : Hid (RdX L2.E wS Ap9 (kcells .u8 fN.picks)) := HPS.out.st.pk.newX (fun _ _ h => .inr h)
              have HOP := Lib.hid (open_yes HPS.out.st.fl F C B m2 z2 sp HSPS.out HSPL.out hmz2 HZM2.out HSPO.out HOE.out HPE.out)
              obtain ⟨sN, hsN⟩ : ∃ r, openF fN F C sp = r := ⟨_, rfl⟩
              have HSN := Lib.hid hsN
              rw [hsN] at HOP HSQ HSM
              have HOE2 : Hid (openE gN F C sp = 0) := by rw [Hid, HSI.out.openE]; exact HOE.out
              have HOF2 : Hid (openF gN F C sp = sN) := by rw [Hid, HSI.out.openF]; exact hsN
              have HBB2 : Hid (sN.broken = false ∧ sN.busy = false) := by rw [Hid, ← hsN]; exact ⟨openF_br _ _ _ _, openF_bu _ _ _ _⟩
              clear hsN d0 d1 d2 d3
              obtain ⟨d0, d1, d2, d3, dz⟩ := HCS.out
              clear dz
              go_wp2_with (fail)
              clear d0 d1 d2 d3
              (with_reducible refine HOP.out.mono ?_)
              rintro e w10 ⟨S10, rfl, hS, hb10, hD10, hG10⟩
              have HP10 := Lib.hid (HPS.out.again hS hb10 hD10 hG10)
              have HC10 := Lib.hid (HCS.out.below hb10 HCS.out.lt)
              have HOR := Lib.hid (open_r HP10.out.rf HP10.out.st.own_lt (F : Int) (C : Int) (by unfold I64; omega) (by unfold I64; omega) B m2 z2 sp ((HSPS.out.below hb10 (Nat.le_refl _)).more hb10.size) HSPL.out hmz2 HZM2.out HSPO.out)
              rw [HOE2.out, Int.toNat_natCast, Int.toNat_natCast, HOF2.out] at HOR
              obtain ⟨d0, d1, d2, d3, dz⟩ := HC10.out
              clear dz
              have f0 : w10.cell? ⟨B9, 0, none⟩ = some (.slice y8.A gN.img.length y8.c) := cell_of_row w10 B9 0 _ 60 (0, 0) HP10.out.h9
              have f1 : w10.cell? ⟨B9, 1, none⟩ = some (.int .i64 gN.pg) := cell_of_row w10 B9 1 _ 60 (0, 0) HP10.out.h9
              have f2 : w10.cell? ⟨B9, 2, none⟩ = some (.slice y8.B gN.wear.length y8.d) := cell_of_row w10 B9 2 _ 60 (0, 0) HP10.out.h9
              have f3 : w10.cell? ⟨B9, 3, none⟩ = some (.bool gN.down) := cell_of_row w10 B9 3 _ 60 (0, 0) HP10.out.h9
              have f4 : w10.cell? ⟨B9, 4, none⟩ = some (.int .i64 gN.fuse) := cell_of_row w10 B9 4 _ 60 (0, 0) HP10.out.h9
              have f5 : w10.cell? ⟨B9, 5, none⟩ = some (.slice y8.P gN.picks.length y8.r) := cell_of_row w10 B9 5 _ 60 (0, 0) HP10.out.h9
              clear hS hb10 hD10 hG10
              go_wp2_with (fail)
              clear d0 d1 d2 d3 f0 f1 f2 f3 f4 f5
              (with_reducible refine HOR.out.mono ?_)
              rintro e w11 ⟨v, rfl, hb11, hrs, _⟩
              obtain ⟨qN, rfl, hq⟩ := (hrs trivial).rv (p := g8.pg) HBB2.out.1 HBB2.out.2
              have HP11 := Lib.hid ((HP10.out.later hb11).rv' hq)
              clear hrs hq hb11
              unfold Qv.v
              go_upto_region 23 with (fail)
              obtain ⟨W12, hW12⟩ : ∃ W, w11.alloc (.cells #[Value.int .i64 sN.first, .int .i64 sN.blocks, .slice qN.Q1 sN.spec.length qN.c1, .slice qN.Q2 sN.staged.length qN.c2, .slice qN.Q3 sN.saved.length qN.c3, .int .i64 sN.seq, .int .i64 sN.block, .int .i64 sN.slot, .slice qN.Q4 qN.n4 qN.c4, .slice qN.Q5 qN.n5 qN.c5, .int .i64 qN.pg, .int .i64 qN.er, .int .i64 qN.nb, .int .i64 qN.ns, .bool sN.broken] 105) = W := ⟨_, rfl⟩
              have HB12' : Hid (Below w11.heap.size w11 W12) := by rw [← hW12]; exact below_one _ _
              have HR22 : Hid (W12.heap[w11.heap.size]? = some (.cells #[Value.int .i64 sN.first, .int .i64 sN.blocks, .slice qN.Q1 sN.spec.length qN.c1, .slice qN.Q2 sN.staged.length qN.c2, .slice qN.Q3 sN.saved.length qN.c3, .int .i64 sN.seq, .int .i64 sN.block, .int .i64 sN.slot, .slice qN.Q4 qN.n4 qN.c4, .slice qN.Q5 qN.n5 qN.c5, .int .i64 qN.pg, .int .i64 qN.er, .int .i64 qN.nb, .int .i64 qN.ns, .bool sN.broken] 105 (0, 0))) := by rw [← hW12]; exact heap_alloc_new _ _
              have HP12 := Lib.hid (HP11.out.later HB12'.out)
              try rw [hW12]
              clear hW12
              obtain ⟨B22, hB22⟩ : ∃ B22, w11.heap.size = B22 := ⟨_, rfl⟩
              have HNB : Hid (B22 ≠ B12) := by have := HP11.out.lt.2; rw [Hid]; omega
              rw [hB22] at HR22
              try rw [hB22]
              clear hB22
              have g6 := neq_some S10.D
              go_upto_region 25 with (fail)
              have HPD := Lib.hid (HP12.out.later (Below.drew (Below.refl _ _)))
              have HRD : Hid (W12.drew.heap[B22]? = some (.cells #[Value.int .i64 sN.first, .int .i64 sN.blocks, .slice qN.Q1 sN.spec.length qN.c1, .slice qN.Q2 sN.staged.length qN.c2, .slice qN.Q3 sN.saved.length qN.c3, .int .i64 sN.seq, .int .i64 sN.block, .int .i64 sN.slot, .slice qN.Q4 qN.n4 qN.c4, .slice qN.Q5 qN.n5 qN.c5, .int .i64 qN.pg, .int .i64 qN.er, .int .i64 qN.nb, .int .i64 qN.ns, .bool sN.broken] 105 (0, 0))) := HR22.out
              refine wp_region_held (S := fun w' => w'.heap[B22]? = some (.cells #[Value.int .i64 sN.first, .int .i64 sN.blocks, .slice qN.Q1 sN.spec.length qN.c1, .slice qN.Q2 sN.staged.length qN.c2, .slice qN.Q3 sN.saved.length qN.c3, .int .i64 sN.seq, .int .i64 sN.block, .int .i64 sN.slot, .slice qN.Q4 qN.n4 qN.c4, .slice qN.Q5 qN.n5 qN.c5, .int .i64 qN.pg, .int .i64 qN.er, .int .i64 qN.nb, .int .i64 qN.ns, .bool sN.broken] 105 (0, 0))) (by kernel_rfl) ?_
              change wpAnyH _ _ _ _ _ _ _ _ (World.drew _)
              refine wpAnyH_take (i := 0) (v := .pointer (some ⟨S10.D, 0, none⟩)) rfl (by kernel_rfl) (by kernel_rfl) (by kernel_rfl) (fun _ _ _ h => h) ?_ HRD.out ?_
              · refine yieldsIf_move (x := .tmp 20) ?_ rfl
                rfl
              change wpAnyH _ _ _ _ _ _ _ (Act.put _ (some 133) _) _
              simp only [Act.put, List.setIfInBounds_toArray, List.set_cons_zero, List.set_cons_succ]
              refine wpAnyH_take (i := 1) (v := .agg #[Value.int .i64 sN.first, .int .i64 sN.blocks, .slice qN.Q1 sN.spec.length qN.c1, .slice qN.Q2 sN.staged.length qN.c2, .slice qN.Q3 sN.saved.length qN.c3, .int .i64 sN.seq, .int .i64 sN.block, .int .i64 sN.slot, .slice qN.Q4 qN.n4 qN.c4, .slice qN.Q5 qN.n5 qN.c5, .int .i64 qN.pg, .int .i64 qN.er, .int .i64 qN.nb, .int .i64 qN.ns, .bool sN.broken]) rfl (by kernel_rfl) (by kernel_rfl) (by kernel_rfl) (fun _ _ _ h => h) ?_ HRD.out ?_
              · refine yieldsIf_load_row ?_ 105 _ rfl B22 rfl 105 _ (0, 0) _ (fun _ h => h) Try.underlying105 rfl size105
                rfl
              change wpAnyH _ _ _ _ _ _ _ (Act.put _ (some 134) _) _
              simp only [Act.put, List.setIfInBounds_toArray, List.set_cons_zero, List.set_cons_succ]
              refine wpAnyH_take (i := 2) (v := .pointer (some ⟨S10.D, 0, none⟩)) rfl (by kernel_rfl) (by kernel_rfl) (by kernel_rfl) (fun _ _ _ h => h) ?_ HRD.out ?_
              · refine yieldsIf_assign (x := .tmp 133) ?_ rfl
                rfl
              change wpAnyH _ _ _ _ _ _ _ (Act.put _ (some 11) _) _
              simp only [Act.put, List.setIfInBounds_toArray, List.set_cons_zero, List.set_cons_succ]
              refine wpAnyH_store (i := 3) (by kernel_rfl) rfl (by rfl) rfl 105 _ _ rfl B12 #[Value.int .i64 sN.first, .int .i64 sN.blocks, .slice qN.Q1 sN.spec.length qN.c1, .slice qN.Q2 sN.staged.length qN.c2, .slice qN.Q3 sN.saved.length qN.c3, .int .i64 sN.seq, .int .i64 sN.block, .int .i64 sN.slot, .slice qN.Q4 qN.n4 qN.c4, .slice qN.Q5 qN.n5 qN.c5, .int .i64 qN.pg, .int .i64 qN.er, .int .i64 qN.nb, .int .i64 qN.ns, .bool sN.broken] #[Value.int .i64 s8.first, .int .i64 s8.blocks, .slice q8.Q1 s8.spec.length q8.c1, .slice q8.Q2 s8.staged.length q8.c2, .slice q8.Q3 s8.saved.length q8.c3, .int .i64 s8.seq, .int .i64 s8.block, .int .i64 s8.slot, .slice q8.Q4 q8.n4 q8.c4, .slice q8.Q5 q8.n5 q8.c5, .int .i64 q8.pg, .int .i64 q8.er, .int .i64 q8.nb, .int .i64 q8.ns, .bool s8.broken] rfl rfl 105 HPD.out.h12 size105 rfl (one15 ..) ((setRow_other _ _ _ _ HNB.out).trans HRD.out) ?_
              have HPZ := Lib.hid (HPD.out.put12 #[Value.int .i64 sN.first, .int .i64 sN.blocks, .slice qN.Q1 sN.spec.length qN.c1, .slice qN.Q2 sN.staged.length qN.c2, .slice qN.Q3 sN.saved.length qN.c3, .int .i64 sN.seq, .int .i64 sN.block, .int .i64 sN.slot, .slice qN.Q4 qN.n4 qN.c4, .slice qN.Q5 qN.n5 qN.c5, .int .i64 qN.pg, .int .i64 qN.er, .int .i64 qN.nb, .int .i64 qN.ns, .bool sN.broken])
              refine wpAnyH_done (by kernel_rfl) ?_ _
              go_wp2_with (fail)
              refine Met.intro ?_
              refine HJJ.out _ _ ?_
              (repeat apply Exists.intro)
              refine ⟨?_, rfl⟩
              exact ⟨0, false, rfl, rfl, rfl, rfl, Ap9, cp9, S10, fN, sN, qN, y8, gN, rfl, HPZ.out.cast HPG.out.symm, HSQ.out, HSI.out, HSM.out.spec.trans HPW.out.spec, HSM.out.first.trans HPW.out.first, HSM.out.blocks.trans HPW.out.blocks⟩
          focus
            cases hdn : f8.down
            · as_aux_lemma =>
                have hag := HPW.out.sq.again (by rw [HPW.out.spec]; exact HBAD.out)
                rw [HPW.out.spec, HPW.out.first, HPW.out.blocks] at hag
                obtain ⟨oe, hsv, hsm⟩ := hag
                rw [startF_up hdn] at oe hsv hsm
                have HSI := Lib.hid HPW.out.sim
                have HOE := Lib.hid oe
                have HSQ := Lib.hid hsv
                have HSM := Lib.hid hsm
                have HPS := Lib.hid HPW.out.w
                clear oe hsv hsm hdn
                go_upto_region 21 with (fail)
                have HCS := Lib.hid (HCV3.out.below HPS.out.st.fl.below hgV3)
                have HSPS := Lib.hid ((HSP.out.below (HBV3.out.trans (HPS.out.st.fl.below.mono HBV3.out.size)) (Nat.le_refl _)).more (HBV3.out.trans (HPS.out.st.fl.below.mono HBV3.out.size)).size)
                have HPE : Hid (RdX L2.E W Ap (kcells .u8 f8.picks)) := HPS.out.st.pk.newX (fun _ _ h => .inr h)
                have HOP := Lib.hid (open_yes HPS.out.st.fl F C B m2 z2 sp HSPS.out HSPL.out hmz2 HZM2.out HSPO.out HOE.out HPE.out)
                obtain ⟨sN, hsN⟩ : ∃ r, openF f8 F C sp = r := ⟨_, rfl⟩
                have HSN := Lib.hid hsN
                rw [hsN] at HOP HSQ HSM
                have HOE2 : Hid (openE g8 F C sp = 0) := by rw [Hid, HSI.out.openE]; exact HOE.out
                have HOF2 : Hid (openF g8 F C sp = sN) := by rw [Hid, HSI.out.openF]; exact hsN
                have HBB2 : Hid (sN.broken = false ∧ sN.busy = false) := by rw [Hid, ← hsN]; exact ⟨openF_br _ _ _ _, openF_bu _ _ _ _⟩
                clear hsN d0 d1 d2 d3
                obtain ⟨d0, d1, d2, d3, dz⟩ := HCS.out
                clear dz
                go_wp2_with (fail)
                clear d0 d1 d2 d3
                (with_reducible refine HOP.out.mono ?_)
                rintro e w10 ⟨S10, rfl, hS, hb10, hD10, hG10⟩
                have HP10 := Lib.hid (HPS.out.again hS hb10 hD10 hG10)
                have HC10 := Lib.hid (HCS.out.below hb10 HCS.out.lt)
                have HOR := Lib.hid (open_r HP10.out.rf HP10.out.st.own_lt (F : Int) (C : Int) (by unfold I64; omega) (by unfold I64; omega) B m2 z2 sp ((HSPS.out.below hb10 (Nat.le_refl _)).more hb10.size) HSPL.out hmz2 HZM2.out HSPO.out)
                rw [HOE2.out, Int.toNat_natCast, Int.toNat_natCast, HOF2.out] at HOR
                obtain ⟨d0, d1, d2, d3, dz⟩ := HC10.out
                clear dz
                have f0 : w10.cell? ⟨B9, 0, none⟩ = some (.slice y8.A g8.img.length y8.c) := cell_of_row w10 B9 0 _ 60 (0, 0) HP10.out.h9
                have f1 : w10.cell? ⟨B9, 1, none⟩ = some (.int .i64 g8.pg) := cell_of_row w10 B9 1 _ 60 (0, 0) HP10.out.h9
                have f2 : w10.cell? ⟨B9, 2, none⟩ = some (.slice y8.B g8.wear.length y8.d) := cell_of_row w10 B9 2 _ 60 (0, 0) HP10.out.h9
                have f3 : w10.cell? ⟨B9, 3, none⟩ = some (.bool g8.down) := cell_of_row w10 B9 3 _ 60 (0, 0) HP10.out.h9
                have f4 : w10.cell? ⟨B9, 4, none⟩ = some (.int .i64 g8.fuse) := cell_of_row w10 B9 4 _ 60 (0, 0) HP10.out.h9
                have f5 : w10.cell? ⟨B9, 5, none⟩ = some (.slice y8.P g8.picks.length y8.r) := cell_of_row w10 B9 5 _ 60 (0, 0) HP10.out.h9
                clear hS hb10 hD10 hG10
                go_wp2_with (fail)
                clear d0 d1 d2 d3 f0 f1 f2 f3 f4 f5
                (with_reducible refine HOR.out.mono ?_)
                rintro e w11 ⟨v, rfl, hb11, hrs, _⟩
                obtain ⟨qN, rfl, hq⟩ := (hrs trivial).rv (p := g8.pg) HBB2.out.1 HBB2.out.2
                have HP11 := Lib.hid ((HP10.out.later hb11).rv' hq)
                clear hrs hq hb11
                unfold Qv.v
                go_upto_region 23 with (fail)
                obtain ⟨W12, hW12⟩ : ∃ W, w11.alloc (.cells #[Value.int .i64 sN.first, .int .i64 sN.blocks, .slice qN.Q1 sN.spec.length qN.c1, .slice qN.Q2 sN.staged.length qN.c2, .slice qN.Q3 sN.saved.length qN.c3, .int .i64 sN.seq, .int .i64 sN.block, .int .i64 sN.slot, .slice qN.Q4 qN.n4 qN.c4, .slice qN.Q5 qN.n5 qN.c5, .int .i64 qN.pg, .int .i64 qN.er, .int .i64 qN.nb, .int .i64 qN.ns, .bool sN.broken] 105) = W := ⟨_, rfl⟩
                have HB12' : Hid (Below w11.heap.size w11 W12) := by rw [← hW12]; exact below_one _ _
                have HR22 : Hid (W12.heap[w11.heap.size]? = some (.cells #[Value.int .i64 sN.first, .int .i64 sN.blocks, .slice qN.Q1 sN.spec.length qN.c1, .slice qN.Q2 sN.staged.length qN.c2, .slice qN.Q3 sN.saved.length qN.c3, .int .i64 sN.seq, .int .i64 sN.block, .int .i64 sN.slot, .slice qN.Q4 qN.n4 qN.c4, .slice qN.Q5 qN.n5 qN.c5, .int .i64 qN.pg, .int .i64 qN.er, .int .i64 qN.nb, .int .i64 qN.ns, .bool sN.broken] 105 (0, 0))) := by rw [← hW12]; exact heap_alloc_new _ _
                have HP12 := Lib.hid (HP11.out.later HB12'.out)
                try rw [hW12]
                clear hW12
                obtain ⟨B22, hB22⟩ : ∃ B22, w11.heap.size = B22 := ⟨_, rfl⟩
                have HNB : Hid (B22 ≠ B12) := by have := HP11.out.lt.2; rw [Hid]; omega
                rw [hB22] at HR22
                try rw [hB22]
                clear hB22
                have g6 := neq_some S10.D
                go_upto_region 25 with (fail)
                have HPD := Lib.hid (HP12.out.later (Below.drew (Below.refl _ _)))
                have HRD : Hid (W12.drew.heap[B22]? = some (.cells #[Value.int .i64 sN.first, .int .i64 sN.blocks, .slice qN.Q1 sN.spec.length qN.c1, .slice qN.Q2 sN.staged.length qN.c2, .slice qN.Q3 sN.saved.length qN.c3, .int .i64 sN.seq, .int .i64 sN.block, .int .i64 sN.slot, .slice qN.Q4 qN.n4 qN.c4, .slice qN.Q5 qN.n5 qN.c5, .int .i64 qN.pg, .int .i64 qN.er, .int .i64 qN.nb, .int .i64 qN.ns, .bool sN.broken] 105 (0, 0))) := HR22.out
                refine wp_region_held (S := fun w' => w'.heap[B22]? = some (.cells #[Value.int .i64 sN.first, .int .i64 sN.blocks, .slice qN.Q1 sN.spec.length qN.c1, .slice qN.Q2 sN.staged.length qN.c2, .slice qN.Q3 sN.saved.length qN.c3, .int .i64 sN.seq, .int .i64 sN.block, .int .i64 sN.slot, .slice qN.Q4 qN.n4 qN.c4, .slice qN.Q5 qN.n5 qN.c5, .int .i64 qN.pg, .int .i64 qN.er, .int .i64 qN.nb, .int .i64 qN.ns, .bool sN.broken] 105 (0, 0))) (by kernel_rfl) ?_
                change wpAnyH _ _ _ _ _ _ _ _ (World.drew _)
                refine wpAnyH_take (i := 0) (v := .pointer (some ⟨S10.D, 0, none⟩)) rfl (by kernel_rfl) (by kernel_rfl) (by kernel_rfl) (fun _ _ _ h => h) ?_ HRD.out ?_
                · refine yieldsIf_move (x := .tmp 20) ?_ rfl
                  rfl
                change wpAnyH _ _ _ _ _ _ _ (Act.put _ (some 133) _) _
                simp only [Act.put, List.setIfInBounds_toArray, List.set_cons_zero, List.set_cons_succ]
                refine wpAnyH_take (i := 1) (v := .agg #[Value.int .i64 sN.first, .int .i64 sN.blocks, .slice qN.Q1 sN.spec.length qN.c1, .slice qN.Q2 sN.staged.length qN.c2, .slice qN.Q3 sN.saved.length qN.c3, .int .i64 sN.seq, .int .i64 sN.block, .int .i64 sN.slot, .slice qN.Q4 qN.n4 qN.c4, .slice qN.Q5 qN.n5 qN.c5, .int .i64 qN.pg, .int .i64 qN.er, .int .i64 qN.nb, .int .i64 qN.ns, .bool sN.broken]) rfl (by kernel_rfl) (by kernel_rfl) (by kernel_rfl) (fun _ _ _ h => h) ?_ HRD.out ?_
                · refine yieldsIf_load_row ?_ 105 _ rfl B22 rfl 105 _ (0, 0) _ (fun _ h => h) Try.underlying105 rfl size105
                  rfl
                change wpAnyH _ _ _ _ _ _ _ (Act.put _ (some 134) _) _
                simp only [Act.put, List.setIfInBounds_toArray, List.set_cons_zero, List.set_cons_succ]
                refine wpAnyH_take (i := 2) (v := .pointer (some ⟨S10.D, 0, none⟩)) rfl (by kernel_rfl) (by kernel_rfl) (by kernel_rfl) (fun _ _ _ h => h) ?_ HRD.out ?_
                · refine yieldsIf_assign (x := .tmp 133) ?_ rfl
                  rfl
                change wpAnyH _ _ _ _ _ _ _ (Act.put _ (some 11) _) _
                simp only [Act.put, List.setIfInBounds_toArray, List.set_cons_zero, List.set_cons_succ]
                refine wpAnyH_store (i := 3) (by kernel_rfl) rfl (by rfl) rfl 105 _ _ rfl B12 #[Value.int .i64 sN.first, .int .i64 sN.blocks, .slice qN.Q1 sN.spec.length qN.c1, .slice qN.Q2 sN.staged.length qN.c2, .slice qN.Q3 sN.saved.length qN.c3, .int .i64 sN.seq, .int .i64 sN.block, .int .i64 sN.slot, .slice qN.Q4 qN.n4 qN.c4, .slice qN.Q5 qN.n5 qN.c5, .int .i64 qN.pg, .int .i64 qN.er, .int .i64 qN.nb, .int .i64 qN.ns, .bool sN.broken] #[Value.int .i64 s8.first, .int .i64 s8.blocks, .slice q8.Q1 s8.spec.length q8.c1, .slice q8.Q2 s8.staged.length q8.c2, .slice q8.Q3 s8.saved.length q8.c3, .int .i64 s8.seq, .int .i64 s8.block, .int .i64 s8.slot, .slice q8.Q4 q8.n4 q8.c4, .slice q8.Q5 q8.n5 q8.c5, .int .i64 q8.pg, .int .i64 q8.er, .int .i64 q8.nb, .int .i64 q8.ns, .bool s8.broken] rfl rfl 105 HPD.out.h12 size105 rfl (one15 ..) ((setRow_other _ _ _ _ HNB.out).trans HRD.out) ?_
                have HPZ := Lib.hid (HPD.out.put12 #[Value.int .i64 sN.first, .int .i64 sN.blocks, .slice qN.Q1 sN.spec.length qN.c1, .slice qN.Q2 sN.staged.length qN.c2, .slice qN.Q3 sN.saved.length qN.c3, .int .i64 sN.seq, .int .i64 sN.block, .int .i64 sN.slot, .slice qN.Q4 qN.n4 qN.c4, .slice qN.Q5 qN.n5 qN.c5, .int .i64 qN.pg, .int .i64 qN.er, .int .i64 qN.nb, .int .i64 qN.ns, .bool sN.broken])
                refine wpAnyH_done (by kernel_rfl) ?_ _
                go_wp2_with (fail)
                refine Met.intro ?_
                refine HJJ.out _ _ ?_
                (repeat apply Exists.intro)
                refine ⟨?_, rfl⟩
                exact ⟨0, false, rfl, rfl, rfl, rfl, Ap, cp, S10, f8, sN, qN, y8, g8, rfl, HPZ.out, HSQ.out, HSI.out, HSM.out.spec.trans HPW.out.spec, HSM.out.first.trans HPW.out.first, HSM.out.blocks.trans HPW.out.blocks⟩
            · as_aux_lemma =>
                have hoe20 : openE f8 F C sp = 20 := by unfold openE; rw [if_pos hdn]
                have HO2 : Hid (openE g8 F C sp = 20) := by rw [Hid, HPW.out.sim.openE]; exact hoe20
                have HCS := Lib.hid (HCV3.out.below HPW.out.w.st.fl.below hgV3)
                have HSPS := Lib.hid ((HSP.out.below (HBV3.out.trans (HPW.out.w.st.fl.below.mono HBV3.out.size)) (Nat.le_refl _)).more (HBV3.out.trans (HPW.out.w.st.fl.below.mono HBV3.out.size)).size)
                have HNO := Lib.hid (open_no HPW.out.w.st.fl F C (by unfold I64; omega) (by unfold I64; omega) B m2 z2 sp HSPS.out HSPL.out hmz2 HZM2.out HSPO.out (by rw [hoe20]; decide))
                rw [hoe20, errV_ne (by decide)] at HNO
                have g5 := neqq_none
                clear hoe20 hdn
                go_upto_region 21 with (fail)
                clear d0 d1 d2 d3
                obtain ⟨d0, d1, d2, d3, dz⟩ := HCS.out
                clear dz
                go_wp2_with (fail)
                clear d0 d1 d2 d3
                (with_reducible refine HNO.out.mono ?_)
                rintro e w10 ⟨rfl, hb10⟩
                have HP10 := Lib.hid (HPW.out.later hb10)
                have HC10 := Lib.hid (HCS.out.below hb10 HCS.out.lt)
                have HOR := Lib.hid (open_r HP10.out.w.rf HP10.out.w.st.own_lt (F : Int) (C : Int) (by unfold I64; omega) (by unfold I64; omega) B m2 z2 sp ((HSPS.out.below hb10 (Nat.le_refl _)).more hb10.size) HSPL.out hmz2 HZM2.out HSPO.out)
                rw [HO2.out] at HOR
                obtain ⟨d0, d1, d2, d3, dz⟩ := HC10.out
                clear dz
                have f0 : w10.cell? ⟨B9, 0, none⟩ = some (.slice y8.A g8.img.length y8.c) := cell_of_row w10 B9 0 _ 60 (0, 0) HP10.out.w.h9
                have f1 : w10.cell? ⟨B9, 1, none⟩ = some (.int .i64 g8.pg) := cell_of_row w10 B9 1 _ 60 (0, 0) HP10.out.w.h9
                have f2 : w10.cell? ⟨B9, 2, none⟩ = some (.slice y8.B g8.wear.length y8.d) := cell_of_row w10 B9 2 _ 60 (0, 0) HP10.out.w.h9
                have f3 : w10.cell? ⟨B9, 3, none⟩ = some (.bool g8.down) := cell_of_row w10 B9 3 _ 60 (0, 0) HP10.out.w.h9
                have f4 : w10.cell? ⟨B9, 4, none⟩ = some (.int .i64 g8.fuse) := cell_of_row w10 B9 4 _ 60 (0, 0) HP10.out.w.h9
                have f5 : w10.cell? ⟨B9, 5, none⟩ = some (.slice y8.P g8.picks.length y8.r) := cell_of_row w10 B9 5 _ 60 (0, 0) HP10.out.w.h9
                clear hb10
                go_wp2_with (fail)
                clear d0 d1 d2 d3 f0 f1 f2 f3 f4 f5
                (with_reducible refine HOR.out.mono ?_)
                rintro e w11 ⟨v, rfl, hb11, _, hz⟩
                obtain rfl := hz (by decide)
                unfold zeroS
                have HP11 := Lib.hid (HP10.out.later hb11)
                clear hb11 hz
                go_upto_region 23 with (fail)
                obtain ⟨W12, hW12⟩ : ∃ W, w11.alloc (.cells #[.int .i64 0, .int .i64 0, .slice none 0 0, .slice none 0 0, .slice none 0 0, .int .i64 0, .int .i64 0, .int .i64 0, .slice none 0 0, .slice none 0 0, .int .i64 0, .int .i64 0, .int .i64 0, .int .i64 0, .bool false] 105) = W := ⟨_, rfl⟩
                have HB12' : Hid (Below w11.heap.size w11 W12) := by rw [← hW12]; exact below_one _ _
                have HP12 := Lib.hid (HP11.out.later HB12'.out)
                try rw [hW12]
                clear hW12
                go_wp2_with (fail)
                refine Met.intro ?_
                refine HJJ.out _ _ ?_
                (repeat apply Exists.intro)
                refine ⟨?_, rfl⟩
                exact ⟨20, false, rfl, rfl, rfl, rfl, Ap, cp, S8, f8, s8, q8, y8, g8, rfl, HP12.out.w, HP12.out.sq.more (by omega), HP12.out.sim, HP12.out.spec, HP12.out.first, HP12.out.blocks⟩
        case rest =>
          as_aux_lemma =>
            obtain ⟨code, dn, rfl, rfl, rfl, rfl, Ap9, cp9, S9, f9, s9, q9, y9, g9, rfl, hI⟩ := hcut
            have HP9 := Lib.hid hI
            have hcc : (code != code) = false := by simp
            have hdd : (dn != dn) = false := by simp
            obtain ⟨NI, hNI⟩ : ∃ n, g9.img.length = n := ⟨_, rfl⟩
            obtain ⟨NW, hNW⟩ : ∃ n, g9.wear.length = n := ⟨_, rfl⟩
            obtain ⟨str, hstr⟩ : ∃ r, strOfNums g9.img = r := ⟨_, rfl⟩
            have HNW := Lib.hid hNW
            have hw64 : NW ≤ 64 := by rw [← hNW]; exact hI.w.rf.ok.b2
            have HNUM : Hid (∀ W', Below wc.heap.size wc W' → Calls Try.prog 44 #[errV code] W' fun e w' => e = .returned (.int .i64 code) ∧ W' = w') := fun W' _ => num_any code W'
            have HIS : Hid (∀ W', Below wc.heap.size wc W' → Calls Try.prog 66 #[.pointer (some ⟨S9.D, 0, none⟩), .agg #[Value.int .i64 s9.first, .int .i64 s9.blocks, .slice q9.Q1 s9.spec.length q9.c1, .slice q9.Q2 s9.staged.length q9.c2, .slice q9.Q3 s9.saved.length q9.c3, .int .i64 s9.seq, .int .i64 s9.block, .int .i64 s9.slot, .slice q9.Q4 q9.n4 q9.c4, .slice q9.Q5 q9.n5 q9.c5, .int .i64 q9.pg, .int .i64 q9.er, .int .i64 q9.nb, .int .i64 q9.ns, .bool s9.broken]] W' fun e w' => e = .returned (.bool true) ∧ Below wc.heap.size wc w') := by
              intro W' hb
              have hv := hI.w.rv.below hb
              refine (is_yes (hI.w.st.later hb) hI.sq.ok hv.b hv.b1 hv.b2 hv.c hv.cc1 hv.cc2).mono ?_
              rintro e w' ⟨rfl, hb'⟩
              exact ⟨rfl, hb.trans (hb'.mono hb.size)⟩
            have HIM : Hid (∀ W', Below wc.heap.size wc W' → Calls Try.prog 36 #[.pointer (some ⟨L2.d, 0, none⟩)] W' fun e w' => ∃ A c, e = .returned (.slice A NI c) ∧ (convert 23 9 (.slice A NI c)).run Try.prog w' = .ok (.string str) w' ∧ Below wc.heap.size wc w') := by
              intro W' hb
              refine (image_any (hI.w.st.later hb).fl).mono ?_
              rintro e w' ⟨v', rfl, ho, hb'⟩
              rw [← hI.sim.img, hNI] at ho
              obtain ⟨A', c', rfl, h1, h2, hr⟩ := own_read ho
              refine ⟨A', c', rfl, ?_, hb.trans (hb'.mono hb.size)⟩
              rw [← hstr]
              exact str_of hr hNI
            have HWE : Hid (∀ W', Below wc.heap.size wc W' → Calls Try.prog 31 #[.pointer (some ⟨L2.d, 0, none⟩)] W' fun e w' => ∃ A c, e = .returned (.slice A NW c) ∧ Rd w' w'.heap.size A (icells g9.wear) ∧ Below wc.heap.size wc w') := by
              intro W' hb
              refine (wear_any (hI.w.st.later hb).fl).mono ?_
              rintro e w' ⟨v', rfl, ho, hb'⟩
              rw [← hI.sim.wear, hNW] at ho
              obtain ⟨A', c', rfl, h1, h2, hr⟩ := own_read ho
              exact ⟨A', c', rfl, hr, hb.trans (hb'.mono hb.size)⟩
            have HIN : Hid (∀ W' A' c', Below wc.heap.size wc W' → Rd W' W'.heap.size A' (icells g9.wear) → Calls Try.prog 51 #[.slice A' NW c', .slice y9.B NW y9.d] W' fun e w' => e = .returned (.bool true) ∧ ∃ k, W'.drewN k = w') := by
              intro W' A' c' hb hr
              have h := ints_any A' y9.B NW NW c' y9.d g9.wear g9.wear W' hr (hI.w.rf.below hb).b.rd hNW hNW (by unfold maxLen; omega) (by unfold maxLen; omega)
              rw [decide_eq_true rfl] at h
              exact h
            have HK : Hid (∀ W', Below wc.heap.size wc W' → W'.cell? ⟨B12, 0, none⟩ = some (.int .i64 s9.first) ∧ W'.cell? ⟨B12, 1, none⟩ = some (.int .i64 s9.blocks) ∧ W'.cell? ⟨B12, 2, none⟩ = some (.slice q9.Q1 s9.spec.length q9.c1) ∧ W'.cell? ⟨B12, 3, none⟩ = some (.slice q9.Q2 s9.staged.length q9.c2) ∧ W'.cell? ⟨B12, 4, none⟩ = some (.slice q9.Q3 s9.saved.length q9.c3) ∧ W'.cell? ⟨B12, 5, none⟩ = some (.int .i64 s9.seq) ∧ W'.cell? ⟨B12, 6, none⟩ = some (.int .i64 s9.block) ∧ W'.cell? ⟨B12, 7, none⟩ = some (.int .i64 s9.slot) ∧ W'.cell? ⟨B12, 8, none⟩ = some (.slice q9.Q4 q9.n4 q9.c4) ∧ W'.cell? ⟨B12, 9, none⟩ = some (.slice q9.Q5 q9.n5 q9.c5) ∧ W'.cell? ⟨B12, 10, none⟩ = some (.int .i64 q9.pg) ∧ W'.cell? ⟨B12, 11, none⟩ = some (.int .i64 q9.er) ∧ W'.cell? ⟨B12, 12, none⟩ = some (.int .i64 q9.nb) ∧ W'.cell? ⟨B12, 13, none⟩ = some (.int .i64 q9.ns) ∧ W'.cell? ⟨B12, 14, none⟩ = some (.bool s9.broken) ∧ W'.cell? ⟨B9, 0, none⟩ = some (.slice y9.A NI y9.c) ∧ W'.cell? ⟨B9, 2, none⟩ = some (.slice y9.B NW y9.d) ∧ (convert 23 9 (.slice y9.A NI y9.c)).run Try.prog W' = .ok (.string str) W') := by
              intro W' hb
              have r12 := (hI.w.later hb).h12
              have r9 := (hI.w.later hb).h9
              have hc := fun j => cell_of_row W' B12 j _ 105 (0, 0) r12
              have hd := fun j => cell_of_row W' B9 j _ 60 (0, 0) r9
              refine ⟨hc 0, hc 1, hc 2, hc 3, hc 4, hc 5, hc 6, hc 7, hc 8, hc 9, hc 10, hc 11, hc 12, hc 13, hc 14, ?_, ?_, ?_⟩
              · rw [← hNI]; exact hd 0
              · rw [← hNW]; exact hd 2
              · rw [← hstr]
                exact str_of (hI.w.rf.below hb).a.rd hNI
            have k0 := HK.out wc.drew (Below.drew (Below.refl _ _))
            clear hI hNI hNW hstr hM0 hM1 hk0 hk1 HMM HCW HPW HNA9 HBW HXO HDA
            go_upto_region 48 with (fail)
            go_region_held (fun W' => W'.cell? ⟨B12, 0, none⟩ = some (.int .i64 s9.first) ∧ W'.cell? ⟨B12, 1, none⟩ = some (.int .i64 s9.blocks) ∧ W'.cell? ⟨B12, 2, none⟩ = some (.slice q9.Q1 s9.spec.length q9.c1) ∧ W'.cell? ⟨B12, 3, none⟩ = some (.slice q9.Q2 s9.staged.length q9.c2) ∧ W'.cell? ⟨B12, 4, none⟩ = some (.slice q9.Q3 s9.saved.length q9.c3) ∧ W'.cell? ⟨B12, 5, none⟩ = some (.int .i64 s9.seq) ∧ W'.cell? ⟨B12, 6, none⟩ = some (.int .i64 s9.block) ∧ W'.cell? ⟨B12, 7, none⟩ = some (.int .i64 s9.slot) ∧ W'.cell? ⟨B12, 8, none⟩ = some (.slice q9.Q4 q9.n4 q9.c4) ∧ W'.cell? ⟨B12, 9, none⟩ = some (.slice q9.Q5 q9.n5 q9.c5) ∧ W'.cell? ⟨B12, 10, none⟩ = some (.int .i64 q9.pg) ∧ W'.cell? ⟨B12, 11, none⟩ = some (.int .i64 q9.er) ∧ W'.cell? ⟨B12, 12, none⟩ = some (.int .i64 q9.nb) ∧ W'.cell? ⟨B12, 13, none⟩ = some (.int .i64 q9.ns) ∧ W'.cell? ⟨B12, 14, none⟩ = some (.bool s9.broken) ∧ W'.cell? ⟨B9, 0, none⟩ = some (.slice y9.A NI y9.c) ∧ W'.cell? ⟨B9, 2, none⟩ = some (.slice y9.B NW y9.d) ∧ (convert 23 9 (.slice y9.A NI y9.c)).run Try.prog W' = .ok (.string str) W') (first | exact k0 | exact k8 | exact k7 | exact k6 | exact HK.out _ (Below.drewN hb6 _)) (first
              | (go_at_call 44; with_reducible refine (HNUM.out _ (Below.drew (Below.refl _ _))).mono ?_; rintro e w5 ⟨rfl, rfl⟩)
              | (go_at_call 66; with_reducible refine (HIS.out _ (Below.drew (Below.refl _ _))).mono ?_; rintro e w8 ⟨rfl, hb8⟩; have k8 := HK.out w8 hb8)
              | (go_at_call 36; with_reducible refine (HIM.out _ hb8).mono ?_; rintro e w7 ⟨A7, c7, rfl, t7, hb7⟩; have k7 := HK.out w7 hb7)
              | (go_at_call 31; with_reducible refine (HWE.out _ hb7).mono ?_; rintro e w6 ⟨A6, c6, rfl, hr6, hb6⟩; have k6 := HK.out w6 hb6)
              | (go_at_call 51; with_reducible refine (HIN.out _ _ _ hb6 hr6).mono ?_; rintro e w4 ⟨rfl, q4, rfl⟩))
            go_wp2
            go_roundw
            case rel =>
              refine ⟨k + 1, by omega, by go_num, Ap9, cp9, S9, f9, s9, q9, y9, g9, rfl, ?_⟩
              rw [show ((k + 1 : Nat) : Int) = (k : Int) + 1 by push_cast; rfl]
              exact HP9.out.later (Below.drewN hb6 _)
            case measure => simp [intOf]; omega
      · go_wp2
        go_ret
        exact ⟨rfl, HBw.out⟩
  · as_aux_lemma =>
      have HOR := Lib.hid (fun (W' : World) (hb : Below W7.heap.size W7 W') => open_r (X := fun _ => False) ((HY7.out.below hb).newX (fun _ _ h => h.elim)) (fun _ h => h.elim) (F : Int) (C : Int) (by unfold I64; omega) (by unfold I64; omega) B m2 z2 sp ((HSP7.out.below hb (Nat.le_refl _)).more hb.size) HSPL.out hmz2 HZM2.out HSPO.out)
      have HNO := Lib.hid (open_no HFT.out F C (by unfold I64; omega) (by unfold I64; omega) B m2 z2 sp HSP7.out HSPL.out hmz2 HZM2.out HSPO.out hoe)
      obtain ⟨kk, hkk⟩ : ∃ kk, openE F0 F C sp = kk := ⟨_, rfl⟩
      rw [hkk] at hoe HNO HOR
      rw [errV_ne hoe] at HNO
      have HNE := Lib.hid hoe
      have hkk1 : (kk != kk) = false := by simp
      have hkk2 : (kk != 0) = true := by simpa using hoe
      have hkk3 : (kk == kk) = true := by simp
      have g5 := eqq_none
      clear hoe hkk
      go_wp2_with (fail)
      clear d0 d1 d2 d3
      (with_reducible refine HNO.out.mono ?_)
      rintro e w8 ⟨rfl, hb8⟩
      have HB8 : Hid (Below W7.heap.size W7 w8) := hb8
      have HC8 := Lib.hid (HC7.out.below hb8 HC7.out.lt)
      obtain ⟨d0, d1, d2, d3, dz⟩ := HC8.out
      clear dz
      have HR8 := Lib.hid ((hb8.block B9 HB9L.out.2).trans H79.out)
      have f0 : w8.cell? ⟨B9, 0, none⟩ = some (.slice y0.A F0.img.length y0.c) := cell_of_row w8 B9 0 _ 60 (0, 0) HR8.out
      have f1 : w8.cell? ⟨B9, 1, none⟩ = some (.int .i64 F0.pg) := cell_of_row w8 B9 1 _ 60 (0, 0) HR8.out
      have f2 : w8.cell? ⟨B9, 2, none⟩ = some (.slice y0.B F0.wear.length y0.d) := cell_of_row w8 B9 2 _ 60 (0, 0) HR8.out
      have f3 : w8.cell? ⟨B9, 3, none⟩ = some (.bool F0.down) := cell_of_row w8 B9 3 _ 60 (0, 0) HR8.out
      have f4 : w8.cell? ⟨B9, 4, none⟩ = some (.int .i64 F0.fuse) := cell_of_row w8 B9 4 _ 60 (0, 0) HR8.out
      have f5 : w8.cell? ⟨B9, 5, none⟩ = some (.slice y0.P F0.picks.length y0.r) := cell_of_row w8 B9 5 _ 60 (0, 0) HR8.out
      clear hb8
      go_wp2_with (fail)
      clear d0 d1 d2 d3 f0 f1 f2 f3 f4 f5
      (with_reducible refine (HOR.out w8 HB8.out).mono ?_)
      rintro e w9 ⟨v, rfl, hb9, _, hz⟩
      obtain rfl := hz HNE.out
      unfold zeroS
      have HB9 : Hid (Below w.heap.size w w9) := HBL7.out.trans ((HB8.out.trans (hb9.mono HB8.out.size)).mono HBL7.out.size)
      clear hb9 hz
      go_wp2_with (fail)
      (with_reducible refine (num_err _ _).mono ?_)
      rintro e wA ⟨rfl, rfl⟩
      go_wp2_with (fail)
      (with_reducible refine (num_err _ _).mono ?_)
      rintro e wB ⟨rfl, rfl⟩
      go_wp2
      go_ret
      exact ⟨rfl, HB9.out.alloc HB9.out.size _⟩

theorem plays_any (b p f c : Int) (B : Option Addr) (m2 z2 : Nat) (sp : List Par) (A : Option Addr) (m z : Nat) (l : List Ev) (w : World) (hB : Rd w w.heap.size B (pcells sp)) (hm2 : sp.length = m2) (hmz2 : m2 ≤ z2) (hzm2 : z2 ≤ maxLen) (hspok : ∀ p ∈ sp, p.ok)
    (hA : Rd w w.heap.size A (ecells l)) (hm : l.length = m) (hmz : m ≤ z) (hzm : z ≤ maxLen) (hok : ∀ x ∈ l, x.ok w w.heap.size) :
    Calls Try.prog 19 #[.agg #[.int .i64 b, .int .i64 p, .int .i64 f, .int .i64 c], .slice B m2 z2, .slice A m z] w fun e w' => e = .returned (.bool true) ∧ Below w.heap.size w w' := by
  cases hL : largeE l with
  | true => exact plays_long b p f c B m2 z2 A m z l w (Nat.le_trans hmz2 hzm2) hA hm hmz hzm hok (.inl hL)
  | false =>
    by_cases h60 : 60 < m2
    · exact plays_long b p f c B m2 z2 A m z l w (Nat.le_trans hmz2 hzm2) hA hm hmz hzm hok (.inr ⟨hL, h60⟩)
    · exact plays_main b p f c B m2 z2 sp A m z l w hB hm2 hmz2 hzm2 hspok hA hm hmz hzm hok hL (Nat.le_of_not_lt h60)

end Go.Proofs.Ytfeceamhlphelaa
