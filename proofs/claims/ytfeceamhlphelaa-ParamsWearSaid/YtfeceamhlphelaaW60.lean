/-
  ParamsWear: over any events the wear of two blocks of the region differs by at most 1 plus the number of power failures; other blocks have none.
-/
import Derived.Test.YtfeceamhlphelaaW56
import Derived.Test.YtfeceamhlphelaaPlainL
import Derived.Deep.DeepCutAuto
import Derived.Deep.CutBlock
namespace Go.Proofs.Ytfeceamhlphelaa
open Go.RowKit
set_option linter.unusedVariables false
set_option linter.unusedSimpArgs false

theorem four.onlyX {X : Nat → Prop} {w w' : World} {B : Nat} {a b c d : Value} (h : four w B a b c d) (k : OnlyX X w w') (hX : ¬ X B) : four w' B a b c d := by
  have e := k.block B h.lt hX
  obtain ⟨h0, h1, h2, h3, hf⟩ := h
  refine ⟨(cell_of_block e).trans h0, (cell_of_block e).trans h1, (cell_of_block e).trans h2, (cell_of_block e).trans h3, fun j => ?_⟩
  rw [← hf j]
  unfold World.frozen?
  simp only [e]
/-- What the walk keeps of a store. -/
def WrI (w0 w : World) (L0 : Lc) (F C N B G k : Nat) (p : Value) (dn : Bool) : Prop :=
  ∃ Ap cp S f s, p = .pointer (some ⟨S.D, 0, none⟩) ∧ StAt w0 w { L0 with Ap := Ap, cp := cp } S f s ∧ WearS f s G k ∧ s.spec = sureP N ∧ s.first = F ∧ s.blocks = C ∧ f.wear.length = B ∧ f.down = dn
theorem WrI.later {w0 w w' : World} {L0 : Lc} {F C N B G k : Nat} {p : Value} {dn : Bool} (h : WrI w0 w L0 F C N B G k p dn) (hb : Below w.heap.size w w') : WrI w0 w' L0 F C N B G k p dn := by
  obtain ⟨Ap, cp, S, f, s, h1, h2, h3⟩ := h
  exact ⟨Ap, cp, S, f, s, h1, h2.later hb, h3⟩
set_option maxRecDepth 100000 in
theorem wearp_long (b p f c n : Int) (A : Option Addr) (m z : Nat) (l : List Ev) (w : World) (hA : Rd w w.heap.size A (ecells l)) (hm : l.length = m) (hmz : m ≤ z) (hzm : z ≤ maxLen) (hok : ∀ x ∈ l, x.ok w w.heap.size) (hl : largeE l = true) :
    Calls Try.prog 16 #[.agg #[.int .i64 b, .int .i64 p, .int .i64 f, .int .i64 c], .int .i64 n, .slice A m z] w fun e w' => e = .returned (.bool true) ∧ Below w.heap.size w w' := by
  have HA := Lib.hid hA
  have HM := Lib.hid hm
  have HOK := Lib.hid hok
  have HL := Lib.hid hl
  obtain ⟨V, hV⟩ : ∃ V, w.alloc (.cells #[.int .i64 b, .int .i64 p, .int .i64 f, .int .i64 c] 82) = V := ⟨_, rfl⟩
  have HBV : Hid (Below w.heap.size w V) := by rw [← hV]; exact (Below.refl _ _).alloc (Nat.le_refl _) _
  clear hA hm hok hl
  have hzm' := hzm
  unfold maxLen at hzm
  go_enter Try.func16, Try.ntmps16
  go_wp2_with (fail)
  try rw [hV]
  clear hV
  (with_reducible refine (awake51_any V).mono ?_)
  rintro e w1 ⟨rfl, hb⟩
  have HB1 : Hid (Below w.heap.size w w1) := HBV.out.trans (hb.mono HBV.out.size)
  clear hb
  go_wp2_with (fail)
  (with_reducible refine (large51_any A m z l w1 ((HA.out.below HB1.out (Nat.le_refl _)).more HB1.out.size) HM.out hmz hzm' (fun x hx => ev_more ((HOK.out x hx).below HB1.out (Nat.le_refl _)) HB1.out.size)).mono ?_)
  rintro e w2 ⟨rfl, hb⟩
  rw [HL.out]
  have HB2 : Hid (Below w.heap.size w w2) := HB1.out.trans (hb.mono HB1.out.size)
  clear hb
  go_wp2_with (fail)
  (with_reducible refine (awake51_any w2).mono ?_)
  rintro e w3 ⟨rfl, hb⟩
  have HB3 : Hid (Below w.heap.size w w3) := HB2.out.trans (hb.mono HB2.out.size)
  clear hb
  go_wp2
  go_ret
  exact ⟨rfl, HB3.out⟩

set_option maxRecDepth 100000 in
set_option maxHeartbeats 16000000 in
theorem wearp_main (b p f c n : Int) (A : Option Addr) (m z : Nat) (l : List Ev) (w : World) (hA : Rd w w.heap.size A (ecells l)) (hm : l.length = m) (hmz : m ≤ z) (hzm : z ≤ maxLen) (hok : ∀ x ∈ l, x.ok w w.heap.size) (hl : largeE l = false) :
    Calls Try.prog 16 #[.agg #[.int .i64 b, .int .i64 p, .int .i64 f, .int .i64 c], .int .i64 n, .slice A m z] w fun e w' => e = .returned (.bool true) ∧ Below w.heap.size w w' := by
  have g1 := ne_nil
  have g2 := ne_err
  have g3 := eq_nil
  have g4 := eq_err
  have h200 : m ≤ 200 := by
    unfold largeE at hl
    rw [decide_eq_false_iff_not] at hl
    omega
  have HA := Lib.hid hA
  have HM := Lib.hid hm
  have HOK := Lib.hid hok
  have HL := Lib.hid hl
  obtain ⟨P, hP⟩ : ∃ K : Nat, clipI p 1 8 = K := ⟨(clipI p 1 8).toNat, by unfold clipI; omega⟩
  obtain ⟨B, hB⟩ : ∃ K : Nat, clipI b 2 6 = K := ⟨(clipI b 2 6).toNat, by unfold clipI; omega⟩
  obtain ⟨F, hF⟩ : ∃ K : Nat, clipI f 0 ((B : Int) - 2) = K := ⟨(clipI f 0 ((B : Int) - 2)).toNat, by unfold clipI; unfold clipI at hB; omega⟩
  obtain ⟨C, hC⟩ : ∃ K : Nat, clipI c 2 ((B : Int) - (F : Int)) = K := ⟨(clipI c 2 ((B : Int) - (F : Int))).toNat, by unfold clipI; unfold clipI at hB hF; omega⟩
  obtain ⟨N, hN⟩ : ∃ K : Nat, clipI n 1 20 = K := ⟨(clipI n 1 20).toNat, by unfold clipI; omega⟩
  have hB26 : 2 ≤ B ∧ B ≤ 6 := by unfold clipI at hB; omega
  have hP18 : 1 ≤ P ∧ P ≤ 8 := by unfold clipI at hP; omega
  have hFC : 2 ≤ C ∧ F + C ≤ B := by unfold clipI at hF hC; omega
  have hN20 : 1 ≤ N ∧ N ≤ 20 := by unfold clipI at hN; omega
  have HP := Lib.hid hP
  have HBB := Lib.hid hB
  have HF := Lib.hid hF
  have HC := Lib.hid hC
  have HN := Lib.hid hN
  obtain ⟨V, hV⟩ : ∃ V, w.alloc (.cells #[.int .i64 b, .int .i64 p, .int .i64 f, .int .i64 c] 82) = V := ⟨_, rfl⟩
  have HBV : Hid (Below w.heap.size w V) := by rw [← hV]; exact (Below.refl _ _).alloc (Nat.le_refl _) _
  have HCV : Hid (four V w.heap.size (.int .i64 b) (.int .i64 p) (.int .i64 f) (.int .i64 c)) := by rw [← hV]; exact four_new _ _ _ _ _ _ _ rfl
  have hgV : w.heap.size < V.heap.size := HCV.out.lt
  clear hA hm hok hl hP hB hF hC hN
  have hzm' := hzm
  unfold maxLen at hzm
  go_enter Try.func16, Try.ntmps16
  go_wp2_with (fail)
  try rw [hV]
  clear hV
  (with_reducible refine (awake51_any V).mono ?_)
  rintro e w1 ⟨rfl, hb⟩
  have HB1 : Hid (Below w.heap.size w w1) := HBV.out.trans (hb.mono HBV.out.size)
  have HC1 := Lib.hid (HCV.out.below hb hgV)
  have hg1 := HC1.out.lt
  clear hb hgV
  go_wp2_with (fail)
  (with_reducible refine (large51_any A m z l w1 ((HA.out.below HB1.out (Nat.le_refl _)).more HB1.out.size) HM.out hmz hzm' (fun x hx => ev_more ((HOK.out x hx).below HB1.out (Nat.le_refl _)) HB1.out.size)).mono ?_)
  rintro e w2 ⟨rfl, hb⟩
  rw [HL.out]
  have HB2 : Hid (Below w.heap.size w w2) := HB1.out.trans (hb.mono HB1.out.size)
  have HC2 := Lib.hid (HC1.out.below hb hg1)
  have hg2 := HC2.out.lt
  obtain ⟨d0, d1, d2, d3, _⟩ := HC2.out
  clear hb hg1
  go_wp2_with (fail)
  clear d0 d1 d2 d3
  (with_reducible refine (fit_any b p f c B P F C HP.out HBB.out HF.out HC.out w2).mono ?_)
  rintro e w3 ⟨rfl, hb⟩
  have HB3 : Hid (Below w.heap.size w w3) := HB2.out.trans (hb.mono HB2.out.size)
  have HC3 := Lib.hid (HC2.out.below hb hg2)
  have hg3 := HC3.out.lt
  obtain ⟨V3, hV3⟩ : ∃ V, put4 w3 w.heap.size (.int .i64 B) (.int .i64 P) (.int .i64 F) (.int .i64 C) = V := ⟨_, rfl⟩
  have HBV3 : Hid (Below w.heap.size w V3) := by rw [← hV3]; exact below_put4 HB3.out (Nat.le_refl _) _ _ _ _
  have HCV3 : Hid (four V3 w.heap.size (.int .i64 B) (.int .i64 P) (.int .i64 F) (.int .i64 C)) := by rw [← hV3]; exact HC3.out.put _ _ _ _
  have hgV3 := HCV3.out.lt
  unfold put4 at hV3
  obtain ⟨d0, d1, d2, d3, dz⟩ := HC3.out
  have e0 := dz 0
  have e1 := dz 1
  have e2 := dz 2
  have e3 := dz 3
  clear hb hg2 dz
  go_wp2_with (fail)
  clear d0 d1 d2 d3 e0 e1 e2 e3
  try rw [hV3]
  clear hV3
  (with_reducible refine (sure_any n N HN.out V3).mono ?_)
  rintro e w4 ⟨A4, c4, rfl, ho, hb⟩
  have HB4 : Hid (Below w.heap.size w w4) := HBV3.out.trans (hb.mono HBV3.out.size)
  have HC4 := Lib.hid (HCV3.out.below hb hgV3)
  have hg4 := HC4.out.lt
  have HSP : Hid (Rd w4 w4.heap.size A4 (pcells (sureP N)) ∧ N ≤ c4 ∧ c4 ≤ maxLen) := by
    obtain ⟨A', c', e, h1, h2, h3⟩ := own_read ho
    injection e with e1 e2 e3
    subst e1
    subst e3
    exact ⟨h3, h1, h2⟩
  have hspm : c4 ≤ 9223372036854775807 := by have := HSP.out.2.2; unfold maxLen at this; omega
  have hspn : N ≤ c4 := HSP.out.2.1
  obtain ⟨d0, d1, d2, d3, _⟩ := HC4.out
  clear hb hgV3 ho
  go_wp2_with (fail)
  clear d0 d1 d2 d3
  (with_reducible refine (new_ok B P w4 (by omega) (by omega) (by omega) (by omega)).mono ?_)
  rintro e w5 ⟨L, rfl, hF⟩
  have HFL := Lib.hid hF
  have HBL5 : Hid (Below w.heap.size w w5) := HB4.out.trans (hF.below.mono HB4.out.size)
  have hLD : w4.heap.size ≤ L.d := hF.bd
  have HC5 := Lib.hid (HC4.out.below hF.below hg4)
  obtain ⟨d0, d1, d2, d3, _⟩ := HC5.out
  have HSPL : Hid ((sureP N).length = N) := by unfold sureP; simp [Hid]
  clear hF
  by_cases hoe : openE (newF B P) F C (sureP N) = 0
  · go_wp2_with (fail)
    clear d0 d1 d2 d3
    (with_reducible refine (open_yes HFL.out F C A4 N c4 (sureP N) ((HSP.out.1.below HFL.out.below (Nat.le_refl _)).more HFL.out.below.size) HSPL.out HSP.out.2.1 HSP.out.2.2 (sureP_ok N) hoe).mono ?_)
    rintro e w6 ⟨S, rfl, hS, hb6, hD6, hG6⟩
    obtain ⟨hsv, _, hsd, _, _, _, _, hs1, hs2, hs3⟩ := Surv.first (f := newF B P) (fi := F) (bl := C) (sp := sureP N) (newF_ok (by omega) (by omega) (by omega) (by omega)) (fun x hx => newF_blank (by simpa [newF] using hx)) (sureP_ok N) hoe
    have HS6 := Lib.hid hS
    have HO6 := Lib.hid hsv.ok
    have HSV6 := Lib.hid hsv
    have HSE6 := Lib.hid (And.intro hs1 (And.intro hs2 hs3))
    have HW6 : Hid (WearS (newF B P) (openF (newF B P) F C (sureP N)) (0 : Nat) (0 : Nat)) := WearS.first (newF_ok (by omega) (by omega) (by omega) (by omega)) (sureP_ok N) hoe
    clear hS hb6 hD6 hG6 hsv hsd hs1 hs2 hs3
    go_wp2
    go_loopw [9, 10, 11, 12, 57] (fun _ p fl was i wr => ∃ k G : Nat, ∃ dn : Bool, k ≤ m ∧ i = .int .i64 k ∧ fl = .int .i64 G ∧ was = .bool dn ∧ G ≤ k ∧ WrI w4 wr L F C N B G k p dn) (fun _ _ _ _ i _ => m - (intOf i).toNat)
    case atStart => exact ⟨0, 0, false, by omega, rfl, rfl, rfl, by omega, L.Ap, L.cp, S, _, _, rfl, HS6.out, HW6.out, HSE6.out.1, HSE6.out.2.1, HSE6.out.2.2, by unfold newF; simp, rfl⟩
    case round =>
      obtain ⟨k, G, dn, hk, rfl, rfl, rfl, hG, Ap, cp, S8, f8, s8, rfl, hS, hW, hsp, hfi, hbl, hwl, hdn⟩ := hrel
      obtain ⟨wa, hwa⟩ : ∃ wa, wa = wr := ⟨_, rfl⟩
      subst hwa
      have HS8 := Lib.hid hS
      have HW8 := Lib.hid hW
      have HSE8 := Lib.hid (And.intro hsp (And.intro hfi (And.intro hbl (And.intro hwl hdn))))
      have HBr : Hid (Below w4.heap.size w4 wa) := hS.fl.below
      have HBw : Hid (Below w.heap.size w wa) := HB4.out.trans (HBr.out.mono HB4.out.size)
      clear hS hW hsp hfi hbl hwl hdn
      by_cases hlt : k < m
      · obtain ⟨x, hx⟩ := getElem?_of_lt (l := l) (k := k) (by rw [HM.out]; exact hlt)
        have HXO := Lib.hid (HOK.out x (List.mem_of_getElem? hx))
        obtain ⟨ba, off, rfl, hbl', c0, c1, c2, c3⟩ := (HA.out.below HBw.out (Nat.le_refl _)).ev hx
        obtain ⟨W, hW⟩ : ∃ V, wa.alloc (.cells #[.int .u8 x.k, .int .i64 x.a, .int .i64 x.b, .slice x.P x.q x.r] 92) = V := ⟨_, rfl⟩
        have HBW : Hid (Below wa.heap.size wa W) := by rw [← hW]; exact (Below.refl _ _).alloc (Nat.le_refl _) _
        have HCW : Hid (four W wa.heap.size (.int .u8 x.k) (.int .i64 x.a) (.int .i64 x.b) (.slice x.P x.q x.r)) := by rw [← hW]; exact four_new _ _ _ _ _ _ _ rfl
        have HSW := Lib.hid (HS8.out.later HBW.out)
        have HNX : Hid (∀ Ap cp, ¬ Own { L with Ap := Ap, cp := cp } S8 wa.heap.size) := fun Ap' cp' hx => Nat.lt_irrefl _ (HS8.out.own_lt _ hx)
        have HXO4 : Hid (x.ok W W.heap.size) := ev_more (HXO.out.below (HB4.out.trans (HSW.out.fl.below.mono HB4.out.size)) (Nat.le_refl _)) (HB4.out.trans (HSW.out.fl.below.mono HB4.out.size)).size
        have hk0 := HXO.out.k0
        obtain ⟨M, hM0⟩ : ∃ M, x.k % 12 = M := ⟨_, rfl⟩
        have hM1 : x.k.tmod 12 = M := by rw [Int.tmod_eq_emod_of_nonneg hk0]; exact hM0
        obtain ⟨d0, d1, d2, d3, _⟩ := HCW.out
        clear hx
        go_upto_if 65 with (fail)
        try rw [hW]
        clear hW c0 c1 c2 c3
        go_cut [] (fun wx => ∃ Ap9 cp9 f9, StAt w4 wx { L with Ap := Ap9, cp := cp9 } S8 f9 s8 ∧ WearS f9 s8 G k ∧ f9.wear.length = B ∧ f9.down = dn ∧ four wx wa.heap.size (.int .u8 x.k) (.int .i64 x.a) (.int .i64 x.b) (.slice x.P x.q x.r))
        case first =>
          by_cases hM9 : M = 9
          · have hM9' : (M == 9) = true := by simpa using hM9
            have HFU := Lib.hid (fuseS_any HSW.out x.a HXO.out.a0 x.P x.q x.r x.p HXO4.out.rp HXO.out.lp HXO.out.sq HXO.out.bp)
            go_wp2_with (fail)
            (with_reducible refine HFU.out.mono ?_)
            rintro e w9 ⟨rfl, ⟨Ap9, cp9, hs9⟩, ho9⟩
            have HS9 : Hid (StAt w4 w9 { L with Ap := Ap9, cp := cp9 } S8 (fuseF f8 x.a x.p) s8) := hs9
            have HC9 := Lib.hid (HCW.out.onlyX ho9 (HNX.out _ _))
            clear hs9 ho9
            go_wp2_with (fail)
            go_meet
            exact ⟨Ap9, cp9, _, HS9.out, HW8.out.fuse HXO.out.bp HXO.out.a0.2, HSE8.out.2.2.2.1, HSE8.out.2.2.2.2, HC9.out⟩
          · have hM9' : (M == 9) = false := by simpa using hM9
            go_wp2_with (fail)
            go_meet
            exact ⟨Ap, cp, f8, HSW.out, HW8.out, HSE8.out.2.2.2.1, HSE8.out.2.2.2.2, HCW.out⟩
        case rest =>
          obtain ⟨Ap9, cp9, f9, hS9, hW9, hwl9, hdn9, hC9⟩ := hcut
          have HS9 := Lib.hid hS9
          have HW9 := Lib.hid hW9
          have HSE9 := Lib.hid (And.intro hwl9 hdn9)
          have HC9 := Lib.hid hC9
          have HDW := Lib.hid (down_any hS9.fl)
          rw [hdn9] at HDW
          have HGW : Hid (wc.heap.size > wa.heap.size) := hC9.lt
          clear hS9 hW9 hwl9 hdn9 hC9 d0 d1 d2 d3 hM0 hM1 hk0
          go_wp2_with (fail)
          (with_reducible refine HDW.out.mono ?_)
          rintro e w9 ⟨rfl, rfl⟩
          go_upto_if 73 with (fail)
          go_cut [9, 10, 12] (fun _ p was wx => was = .bool false ∧ WrI w4 wx L F C N B G k p false ∧ four wx wa.heap.size (.int .u8 x.k) (.int .i64 x.a) (.int .i64 x.b) (.slice x.P x.q x.r))
          case first =>
            cases dn
            · go_wp2_with (fail)
              go_meet
              exact ⟨rfl, ⟨Ap9, cp9, S8, f9, s8, rfl, HS9.out, HW9.out, HSE8.out.1, HSE8.out.2.1, HSE8.out.2.2.1, HSE9.out.1, HSE9.out.2⟩, HC9.out⟩
            · have HSS := Lib.hid (startS_any HS9.out)
              have hag := HW9.out.again (by rw [HSE8.out.1]; exact sureP_bad N)
              rw [HSE8.out.1, HSE8.out.2.1, HSE8.out.2.2.1] at hag
              obtain ⟨oe, hsv, hsm⟩ := hag
              have HSM : Hid ((openF (startF f9) F C (sureP N)).spec = sureP N ∧ (openF (startF f9) F C (sureP N)).first = F ∧ (openF (startF f9) F C (sureP N)).blocks = C) := ⟨hsm.spec.trans HSE8.out.1, hsm.first.trans HSE8.out.2.1, hsm.blocks.trans HSE8.out.2.2.1⟩
              have HSV := Lib.hid hsv
              have HOE := Lib.hid oe
              have HSF : Hid ((startF f9).wear.length = B ∧ (startF f9).down = false) := ⟨by rw [(startF_same f9).2.2.1]; exact HSE9.out.1, (startF_same f9).2.2.2⟩
              clear hsv hsm oe
              go_wp2_with (fail)
              (with_reducible refine HSS.out.mono ?_)
              rintro e w10 ⟨rfl, ⟨Ap10, cp10, hs10⟩, ho10⟩
              have HF10 : Hid (FlAt w4 w10 { L with Ap := Ap10, cp := cp10 } (startF f9)) := hs10.fl
              have HCE := Lib.hid (HC9.out.onlyX ho10 (HNX.out _ _))
              have HCR := Lib.hid (HC4.out.below hs10.fl.below hg4)
              have hgE := HCE.out.lt
              clear hs10 ho10
              obtain ⟨d0, d1, d2, d3, _⟩ := HCR.out
              go_wp2_with (fail)
              clear d0 d1 d2 d3
              (with_reducible refine (open_yes HF10.out F C A4 N c4 (sureP N) ((HSP.out.1.below HF10.out.below (Nat.le_refl _)).more HF10.out.below.size) HSPL.out HSP.out.2.1 HSP.out.2.2 (sureP_ok N) HOE.out).mono ?_)
              rintro e w11 ⟨S11, rfl, hS, hb11, hD11, hG11⟩
              have HS11 := Lib.hid hS
              have HCF := Lib.hid (HCE.out.below hb11 hgE)
              clear hS hb11 hD11 hG11
              go_wp2_with (fail)
              go_meet
              exact ⟨rfl, ⟨Ap10, cp10, S11, _, _, rfl, HS11.out, HSV.out, HSM.out.1, HSM.out.2.1, HSM.out.2.2, HSF.out.1, HSF.out.2⟩, HCF.out⟩
          case rest =>
            obtain ⟨rfl, ⟨ApA, cpA, SA, fA, sA, rfl, hSA, hWA, hspA, hfiA, hblA, hwlA, hdnA⟩, hCA⟩ := hcut
            have HSA := Lib.hid hSA
            have HWA := Lib.hid hWA
            have HSEA := Lib.hid (And.intro hspA (And.intro hfiA (And.intro hblA (And.intro hwlA hdnA))))
            obtain ⟨d0, d1, d2, d3, _⟩ := hCA
            obtain ⟨y, hy⟩ : ∃ y, wrap64 (x.b + (k : Int)) = y := ⟨_, rfl⟩
            have hyi : I64 y := by rw [← hy]; unfold I64 wrap64; omega
            have HYI := Lib.hid hyi
            have HSET := Lib.hid (set_any (hSA.later (Below.drew (Below.refl _ _))) hWA.ok (clipI x.a 0 ((N : Int) - 1)) y)
            have HCL := Lib.hid (fun w => clip_any x.a 0 ((N : Int) - 1) w)
            have hNI : (1 : Int) ≤ N := by omega
            have hN1 : 1 ≤ N := hN20.1
            have hN2 : N ≤ 20 := hN20.2
            have hNW : IntKind.i64.wrap ((N : Int) - 1) = (N : Int) - 1 := wrap_i64_small _ (by omega) (by omega)
            have hYW : IntKind.i64.wrap (x.b + (k : Int)) = y := by rw [← hy, IntKind.wrap_i64]; unfold wrap64; rfl
            clear hy hyi hSA hWA hspA hfiA hblA hwlA hdnA
            go_upto_region 23 with (fail)
            go_cut [] (fun wx => ∃ s, StAt w4 wx { L with Ap := ApA, cp := cpA } SA fA s ∧ WearS fA s G k ∧ s.spec = sureP N ∧ s.first = F ∧ s.blocks = C)
            case first =>
              go_region_with (first
                | (go_at_call 24; with_reducible refine (HCL.out _).mono ?_; rintro e w5 ⟨rfl, rfl⟩)
                | (go_at_call 57; refine HSET.out.mono ?_; rintro e w9 ⟨rfl, hs9, ho9⟩))
              all_goals
                (try go_wp2_with fail)
                go_meet
                exact ⟨_, hs9, HWA.out.set HYI.out, (setF_same sA _ _).spec.trans HSEA.out.1, (setF_same sA _ _).first.trans HSEA.out.2.1, (setF_same sA _ _).blocks.trans HSEA.out.2.2.1⟩
            case rest =>
              obtain ⟨sB, hSB, hWB, hspB, hfiB, hblB⟩ := hcut
              have HCO := Lib.hid (commit_any hSB hWB.ok)
              have hsm := commitS_same sB fA
              have hwc := hWB.commit HSEA.out.2.2.2.2 (by omega)
              have hsh := commitS_shape sB fA
              have HSM := Lib.hid (And.intro (hsm.spec.trans hspB) (And.intro (hsm.first.trans hfiB) (hsm.blocks.trans hblB)))
              obtain ⟨⟨sC, fC, er⟩, hq⟩ : ∃ q, commitS sB fA = q := ⟨_, rfl⟩
              rw [hq] at HCO hwc hsh HSM
              simp only at hwc hsh HSM
              have HWLC : Hid (fC.wear.length = B) := hsh.w.trans HSEA.out.2.2.2.1
              have HWC := Lib.hid hwc
              clear hq hwc hsh hsm hSB hWB hspB hfiB hblB d0 d1 d2 d3 hNW hYW
              go_wp2_with (fail)
              (with_reducible refine HCO.out.mono ?_)
              rintro e wC ⟨rfl, ⟨SC, hdC, hgC, hsC⟩, hoC⟩
              have HSC : Hid (StAt w4 wC { L with Ap := ApA, cp := cpA } SC fC sC) := hsC
              have HDD : Hid (SC.D = SA.D) := hdC
              have HDW2 := Lib.hid (down_any HSC.out.fl)
              obtain ⟨dd, hdd⟩ : ∃ d, fC.down = d := ⟨_, rfl⟩
              rw [hdd] at HDW2 HWC
              have HDN := Lib.hid hdd
              clear hsC hoC hdC hgC hdd
              go_wp2_with (fail)
              (with_reducible refine HDW2.out.mono ?_)
              rintro e wD ⟨rfl, rfl⟩
              rcases (show dd = true ∨ dd = false by cases dd <;> simp) with rfl | rfl
              · obtain ⟨GG, hGG⟩ : ∃ GG, G + 1 = GG := ⟨_, rfl⟩
                have hGK : GG ≤ k + 1 := by omega
                have HWN : Hid (WearS fC sC (GG : Int) ((k + 1 : Nat) : Int)) := by rw [← hGG]; exact HWC.out
                have hgw : IntKind.i64.wrap ((G : Int) + 1) = (GG : Int) := by rw [← hGG]; exact wrap_i64_small _ (by omega) (by omega)
                go_wp2_with (fail)
                have HWA2 := Lib.hid (wear_any HSC.out.fl)
                rw [HWLC.out] at HWA2
                have HEV := Lib.hid HWN.out.even
                rw [HSM.out.2.1, HSM.out.2.2] at HEV
                (with_reducible refine HWA2.out.mono ?_)
                rintro e wW ⟨vW, rfl, hoW, hbW⟩
                obtain ⟨AW, cW, rfl, hW1, hW2, hrW⟩ := own_read hoW
                have HRW := Lib.hid hrW
                have HSW9 := Lib.hid (HSC.out.later hbW)
                have HCW9 := Lib.hid (HC4.out.below HSW9.out.fl.below hg4)
                have HGW9 : Hid (w.heap.size < wW.heap.size) := HCW9.out.lt
                obtain ⟨d0, d1, d2, d3, _⟩ := HCW9.out
                have hneB : ((B : Int) != (B : Int)) = false := by simp
                unfold maxLen at hW2
                obtain ⟨x0, hx0⟩ := getElem?_of_lt (l := fC.wear) (k := F) (by rw [HWLC.out]; omega)
                obtain ⟨b0, o0, rfl, _, e0⟩ := HRW.out.int hx0
                have HX0 : Hid (wearW fC F 0 = x0) := by unfold wearW; rw [Nat.add_zero, hx0]; rfl
                clear hoW hbW hrW hx0
                go_wp2_with (fail)
                go_quiet (fail)
                go_wp2
                clear d0 d1 d2 d3 e0
                go_loopw [16, 17, 129] (fun lo hi i wx => ∃ j p q : Nat, j ≤ B ∧ i = .int .i64 j ∧ p < C ∧ q < C ∧ lo = .int .i64 (wearW fC F p) ∧ hi = .int .i64 (wearW fC F q) ∧ Below wW.heap.size wW wx) (fun _ _ i _ => B - (intOf i).toNat)
                case atStart => exact ⟨0, 0, 0, by omega, rfl, by omega, by omega, by rw [HX0.out], by rw [HX0.out], Below.drewN (Below.refl _ _) _⟩
                case round =>
                  obtain ⟨j, p, q, hj, rfl, hp, hq, rfl, rfl, hBj⟩ := hrel
                  have HBJ := Lib.hid hBj
                  have HPQ : Hid (p < C ∧ q < C) := ⟨hp, hq⟩
                  have d2 := (HBJ.out.cell (p := ⟨w.heap.size, 2, none⟩) HGW9.out).trans HCW9.out.2.2.1
                  have d3 := (HBJ.out.cell (p := ⟨w.heap.size, 3, none⟩) HGW9.out).trans HCW9.out.2.2.2.1
                  clear hBj hp hq
                  by_cases hltj : j < B
                  · obtain ⟨y, hy⟩ := getElem?_of_lt (l := fC.wear) (k := j) (by rw [HWLC.out]; exact hltj)
                    obtain ⟨b9, o9, e9, _, c0⟩ := (HRW.out.below HBJ.out (Nat.le_refl _)).int hy
                    injection e9 with e9
                    injection e9 with e1 e2 _
                    subst e1 e2
                    by_cases hin : j < F ∨ F + C ≤ j
                    · have hy0 : y = 0 := by
                        have := HEV.out.2.1 j hin
                        rw [hy] at this
                        exact this
                      subst hy0
                      clear hy
                      by_cases hjF : j < F
                      · go_wp2
                        go_roundw
                        case rel => exact ⟨j + 1, p, q, by omega, by go_num, HPQ.out.1, HPQ.out.2, rfl, rfl, HBJ.out⟩
                        case measure => simp [intOf]; omega
                      · have hjC : F + C ≤ j := by omega
                        go_wp2
                        go_roundw
                        case rel => exact ⟨j + 1, p, q, by omega, by go_num, HPQ.out.1, HPQ.out.2, rfl, rfl, HBJ.out⟩
                        case measure => simp [intOf]; omega
                    · have hWy : wearW fC F (j - F) = y := by unfold wearW; rw [show F + (j - F) = j by omega, hy]; rfl
                      obtain ⟨p', hp', hpe⟩ : ∃ p', p' < C ∧ wearW fC F p' = min (wearW fC F p) y := by
                        by_cases h : wearW fC F p ≤ y
                        · exact ⟨p, HPQ.out.1, by omega⟩
                        · exact ⟨j - F, by omega, by omega⟩
                      obtain ⟨q', hq', hqe⟩ : ∃ q', q' < C ∧ wearW fC F q' = max (wearW fC F q) y := by
                        by_cases h : y ≤ wearW fC F q
                        · exact ⟨q, HPQ.out.2, by omega⟩
                        · exact ⟨j - F, by omega, by omega⟩
                      have HPE := Lib.hid (And.intro hp' hpe)
                      have HQE := Lib.hid (And.intro hq' hqe)
                      have hjF : ¬ j < F := by omega
                      have hjC : ¬ F + C ≤ j := by omega
                      clear hy hWy hp' hpe hq' hqe hin
                      generalize wearW fC F p = a at *
                      generalize wearW fC F q = c at *
                      go_wp2
                      go_roundw
                      case rel => exact ⟨j + 1, p', q', by omega, by go_num, HPE.out.1, HQE.out.1, by rw [HPE.out.2], by rw [HQE.out.2], HBJ.out⟩
                      case measure => simp [intOf]; omega
                  · have hev := HEV.out.1 q p HPQ.out.2 HPQ.out.1
                    have hl1 := HEV.out.2.2 (F + p)
                    have hl2 := HEV.out.2.2 (F + q)
                    change 0 ≤ wearW fC F p ∧ wearW fC F p ≤ _ at hl1
                    change 0 ≤ wearW fC F q ∧ wearW fC F q ≤ _ at hl2
                    push_cast at hl1 hl2
                    generalize wearW fC F p = a at *
                    generalize wearW fC F q = c at *
                    go_wp2
                    go_roundw
                    case rel => exact ⟨k + 1, GG, true, by omega, by go_num, rfl, rfl, hGK, ApA, cpA, SC, fC, sC, by rw [HDD.out], HSW9.out.later HBJ.out, HWN.out, HSM.out.1, HSM.out.2.1, HSM.out.2.2, HWLC.out, HDN.out⟩
                    case measure => simp [intOf]; omega
              · obtain ⟨GG, hGG⟩ : ∃ GG, GG = G := ⟨_, rfl⟩
                subst hGG
                have hGK : GG ≤ k + 1 := by omega
                have HWN : Hid (WearS fC sC (GG : Int) ((k + 1 : Nat) : Int)) := HWC.out
                go_wp2_with (fail)
                have HWA2 := Lib.hid (wear_any HSC.out.fl)
                rw [HWLC.out] at HWA2
                have HEV := Lib.hid HWN.out.even
                rw [HSM.out.2.1, HSM.out.2.2] at HEV
                (with_reducible refine HWA2.out.mono ?_)
                rintro e wW ⟨vW, rfl, hoW, hbW⟩
                obtain ⟨AW, cW, rfl, hW1, hW2, hrW⟩ := own_read hoW
                have HRW := Lib.hid hrW
                have HSW9 := Lib.hid (HSC.out.later hbW)
                have HCW9 := Lib.hid (HC4.out.below HSW9.out.fl.below hg4)
                have HGW9 : Hid (w.heap.size < wW.heap.size) := HCW9.out.lt
                obtain ⟨d0, d1, d2, d3, _⟩ := HCW9.out
                have hneB : ((B : Int) != (B : Int)) = false := by simp
                unfold maxLen at hW2
                obtain ⟨x0, hx0⟩ := getElem?_of_lt (l := fC.wear) (k := F) (by rw [HWLC.out]; omega)
                obtain ⟨b0, o0, rfl, _, e0⟩ := HRW.out.int hx0
                have HX0 : Hid (wearW fC F 0 = x0) := by unfold wearW; rw [Nat.add_zero, hx0]; rfl
                clear hoW hbW hrW hx0
                go_wp2_with (fail)
                go_quiet (fail)
                go_wp2
                clear d0 d1 d2 d3 e0
                go_loopw [16, 17, 129] (fun lo hi i wx => ∃ j p q : Nat, j ≤ B ∧ i = .int .i64 j ∧ p < C ∧ q < C ∧ lo = .int .i64 (wearW fC F p) ∧ hi = .int .i64 (wearW fC F q) ∧ Below wW.heap.size wW wx) (fun _ _ i _ => B - (intOf i).toNat)
                case atStart => exact ⟨0, 0, 0, by omega, rfl, by omega, by omega, by rw [HX0.out], by rw [HX0.out], Below.drewN (Below.refl _ _) _⟩
                case round =>
                  obtain ⟨j, p, q, hj, rfl, hp, hq, rfl, rfl, hBj⟩ := hrel
                  have HBJ := Lib.hid hBj
                  have HPQ : Hid (p < C ∧ q < C) := ⟨hp, hq⟩
                  have d2 := (HBJ.out.cell (p := ⟨w.heap.size, 2, none⟩) HGW9.out).trans HCW9.out.2.2.1
                  have d3 := (HBJ.out.cell (p := ⟨w.heap.size, 3, none⟩) HGW9.out).trans HCW9.out.2.2.2.1
                  clear hBj hp hq
                  by_cases hltj : j < B
                  · obtain ⟨y, hy⟩ := getElem?_of_lt (l := fC.wear) (k := j) (by rw [HWLC.out]; exact hltj)
                    obtain ⟨b9, o9, e9, _, c0⟩ := (HRW.out.below HBJ.out (Nat.le_refl _)).int hy
                    injection e9 with e9
                    injection e9 with e1 e2 _
                    subst e1 e2
                    by_cases hin : j < F ∨ F + C ≤ j
                    · have hy0 : y = 0 := by
                        have := HEV.out.2.1 j hin
                        rw [hy] at this
                        exact this
                      subst hy0
                      clear hy
                      by_cases hjF : j < F
                      · go_wp2
                        go_roundw
                        case rel => exact ⟨j + 1, p, q, by omega, by go_num, HPQ.out.1, HPQ.out.2, rfl, rfl, HBJ.out⟩
                        case measure => simp [intOf]; omega
                      · have hjC : F + C ≤ j := by omega
                        go_wp2
                        go_roundw
                        case rel => exact ⟨j + 1, p, q, by omega, by go_num, HPQ.out.1, HPQ.out.2, rfl, rfl, HBJ.out⟩
                        case measure => simp [intOf]; omega
                    · have hWy : wearW fC F (j - F) = y := by unfold wearW; rw [show F + (j - F) = j by omega, hy]; rfl
                      obtain ⟨p', hp', hpe⟩ : ∃ p', p' < C ∧ wearW fC F p' = min (wearW fC F p) y := by
                        by_cases h : wearW fC F p ≤ y
                        · exact ⟨p, HPQ.out.1, by omega⟩
                        · exact ⟨j - F, by omega, by omega⟩
                      obtain ⟨q', hq', hqe⟩ : ∃ q', q' < C ∧ wearW fC F q' = max (wearW fC F q) y := by
                        by_cases h : y ≤ wearW fC F q
                        · exact ⟨q, HPQ.out.2, by omega⟩
                        · exact ⟨j - F, by omega, by omega⟩
                      have HPE := Lib.hid (And.intro hp' hpe)
                      have HQE := Lib.hid (And.intro hq' hqe)
                      have hjF : ¬ j < F := by omega
                      have hjC : ¬ F + C ≤ j := by omega
                      clear hy hWy hp' hpe hq' hqe hin
                      generalize wearW fC F p = a at *
                      generalize wearW fC F q = c at *
                      go_wp2
                      go_roundw
                      case rel => exact ⟨j + 1, p', q', by omega, by go_num, HPE.out.1, HQE.out.1, by rw [HPE.out.2], by rw [HQE.out.2], HBJ.out⟩
                      case measure => simp [intOf]; omega
                  · have hev := HEV.out.1 q p HPQ.out.2 HPQ.out.1
                    have hl1 := HEV.out.2.2 (F + p)
                    have hl2 := HEV.out.2.2 (F + q)
                    change 0 ≤ wearW fC F p ∧ wearW fC F p ≤ _ at hl1
                    change 0 ≤ wearW fC F q ∧ wearW fC F q ≤ _ at hl2
                    push_cast at hl1 hl2
                    generalize wearW fC F p = a at *
                    generalize wearW fC F q = c at *
                    go_wp2
                    go_roundw
                    case rel => exact ⟨k + 1, GG, false, by omega, by go_num, rfl, rfl, hGK, ApA, cpA, SC, fC, sC, by rw [HDD.out], HSW9.out.later HBJ.out, HWN.out, HSM.out.1, HSM.out.2.1, HSM.out.2.2, HWLC.out, HDN.out⟩
                    case measure => simp [intOf]; omega
      · go_wp2
        go_ret
        exact ⟨rfl, HBw.out⟩
  · have HE := Lib.hid (open_long (P := P) hB26.1 hFC.1 hFC.2 hB26.2 hN20.1 hN20.2 hoe)
    have HOE := Lib.hid (errV_ne hoe)
    go_wp2_with (fail)
    clear d0 d1 d2 d3
    (with_reducible refine (open_no HFL.out F C (by unfold I64; omega) (by unfold I64; omega) A4 N c4 (sureP N) ((HSP.out.1.below HFL.out.below (Nat.le_refl _)).more HFL.out.below.size) HSPL.out HSP.out.2.1 HSP.out.2.2 (sureP_ok N) hoe).mono ?_)
    rintro e w6 ⟨rfl, hb⟩
    rw [HOE.out, HE.out]
    have HB6 : Hid (Below w.heap.size w w6) := HBL5.out.trans (hb.mono HBL5.out.size)
    clear hb
    go_wp2_with (fail)
    (with_reducible refine (is_err 11 11 _).mono ?_)
    rintro e w7 ⟨rfl, rfl⟩
    go_wp2
    go_ret
    exact ⟨rfl, HB6.out⟩
end Go.Proofs.Ytfeceamhlphelaa
