/-
  WholeFlash: over any changes and power failures a start reads what was saved last or what was being saved; the wear is even.
-/
import Derived.Test.YtfeceamhlphelaaW61
namespace Go.Proofs.Ytfeceamhlphelaa
open Go.RowKit
set_option linter.unusedVariables false
set_option linter.unusedSimpArgs false

theorem wf_open0 {P : Nat} (h1 : 1 ≤ P) (h2 : P ≤ 8) : openE (newF 2 P) ((0 : Nat) : Int) ((2 : Nat) : Int) wfP = 0 := by
  have : P = 1 ∨ P = 2 ∨ P = 3 ∨ P = 4 ∨ P = 5 ∨ P = 6 ∨ P = 7 ∨ P = 8 := by omega
  rcases this with rfl | rfl | rfl | rfl | rfl | rfl | rfl | rfl <;> decide +kernel
/-- What the walk keeps. -/
def WfI (w0 w : World) (L0 : Lc) (Q : Option Addr) (G k : Nat) (p v : Value) : Prop :=
  ∃ Ap cp S f s A c a b, p = .pointer (some ⟨S.D, 0, none⟩) ∧ StAt w0 w { L0 with Ap := Ap, cp := cp } S f s ∧ Live f s ∧ s.busy = false ∧ WearS f s G k ∧ s.seq ≤ 2 * (k : Int) ∧ s.spec = wfP ∧ s.first = 0 ∧ s.blocks = 2 ∧ f.wear.length = 2 ∧
    v = .slice A 2 c ∧ 2 ≤ c ∧ c ≤ maxLen ∧ s.saved = [a, b] ∧ RdX (Own L0 S) w A (icells [a, b]) ∧ RdX (Own L0 S) w Q (pcells wfP)
theorem own_newS {L : Lc} {S S' : Sc} {n : Nat} (hD : n ≤ S'.D) (hG : n ≤ S'.G) : ∀ b, b < n → Own L S' b → Own L S b := by
  intro b hb h
  rcases h with e | e | e | e | e
  · exact .inl e
  · exact .inr (.inl e)
  · exact .inr (.inr (.inl e))
  · omega
  · omega

theorem setF_kp (s : St) (i v : Int) : (setF s i v).seq = s.seq ∧ (setF s i v).saved = s.saved ∧ (setF s i v).busy = s.busy ∧ (setF s i v).spec = s.spec ∧ (setF s i v).first = s.first ∧ (setF s i v).blocks = s.blocks := by unfold setF; split <;> exact ⟨rfl, rfl, rfl, rfl, rfl, rfl⟩
set_option maxRecDepth 100000 in
theorem wflash_long (pg : Int) (A : Option Addr) (m z : Nat) (w : World) (hmz : m ≤ z) (hzm : z ≤ maxLen) (h : 30 < m) :
    Calls Try.prog 20 #[.int .u8 pg, .slice A m z] w fun e w' => e = .returned (.bool true) ∧ Below w.heap.size w w' := by
  unfold maxLen at hzm
  go_enter Try.func20, Try.ntmps20
  go_wp2_with (fail)
  (with_reducible refine (kept_any w).mono ?_)
  rintro e w1 ⟨rfl, hb⟩
  have HB1 := Lib.hid hb
  clear hb
  go_wp2_with (fail)
  (with_reducible refine (kept_any w1).mono ?_)
  rintro e w2 ⟨rfl, hb⟩
  have HB2 : Hid (Below w.heap.size w w2) := HB1.out.trans (hb.mono HB1.out.size)
  clear hb
  go_wp2
  go_ret
  exact ⟨rfl, HB2.out⟩

set_option maxRecDepth 100000 in
set_option maxHeartbeats 16000000 in
theorem wflash_main (pg : Int) (A : Option Addr) (m z : Nat) (l : List Chn) (w : World) (hpg : 0 ≤ pg ∧ pg < 256) (hA : Rd w w.heap.size A (ccells l)) (hm : l.length = m) (hmz : m ≤ z) (hzm : z ≤ maxLen) (hok : ∀ x ∈ l, x.ok w w.heap.size) (h30 : m ≤ 30) :
    Calls Try.prog 20 #[.int .u8 pg, .slice A m z] w fun e w' => e = .returned (.bool true) ∧ Below w.heap.size w w' := by
  have g1 := ne_nil
  have g2 := ne_err
  have g3 := eq_nil
  have g4 := eq_err
  have HA := Lib.hid hA
  have HM := Lib.hid hm
  have HOK := Lib.hid hok
  obtain ⟨P, hP⟩ : ∃ P : Nat, (1 : Int) + pg % 8 = P := ⟨(1 + pg % 8).toNat, by omega⟩
  have hP1 : 1 ≤ P := by omega
  have hP8 : P ≤ 8 := by omega
  obtain ⟨R, hR⟩ : ∃ R : Int, pg % 8 = R := ⟨_, rfl⟩
  have hR2 : pg.tmod 8 = R := by rw [Int.tmod_eq_emod_of_nonneg hpg.1]; exact hR
  have hR0 : 0 ≤ R ∧ R ≤ 7 := by omega
  have hRP : (1 : Int) + R = P := by omega
  have hm2 : 2 ≤ maxLen := by unfold maxLen; omega
  have hzm' := hzm
  unfold maxLen at hzm
  clear hA hm hok hP
  go_enter Try.func20, Try.ntmps20
  go_wp2_with (fail)
  (with_reducible refine (kept_any w).mono ?_)
  rintro e w1 ⟨rfl, hb⟩
  have HB1 := Lib.hid hb
  clear hb
  go_wp2_with (fail)
  have H1 := Lib.hid (wf_open0 hP1 hP8)
  (with_reducible refine (new_okI 2 P 2 P rfl rfl w1 (by omega) (by omega) hP1 (by omega)).mono ?_)
  rintro e w2 ⟨L, rfl, hF⟩
  have HF2 := Lib.hid hF
  clear hF
  go_wp2_with (fail)
  have hRP : Rd (w2.alloc (.cells #[.int .i64 0, .int .i64 255, .int .i64 7, .int .i64 0, .int .i64 255, .int .i64 7] 99)) (w2.heap.size + 1) (some ⟨w2.heap.size, 0, none⟩) (pcells wfP) := Rd.new w2 _ _ _ rfl
  have HF3 := Lib.hid (HF2.out.alloc (.cells #[.int .i64 0, .int .i64 255, .int .i64 7, .int .i64 0, .int .i64 255, .int .i64 7] 99))
  obtain ⟨W, hW⟩ : ∃ W, w2.alloc (.cells #[.int .i64 0, .int .i64 255, .int .i64 7, .int .i64 0, .int .i64 255, .int .i64 7] 99) = W := ⟨_, rfl⟩
  have hWs : W.heap.size = w2.heap.size + 1 := by rw [← hW]; exact Array.size_push _
  rw [hW] at hRP HF3 ⊢
  rw [← hWs] at hRP
  have HRP := Lib.hid hRP
  have HWS := Lib.hid hWs
  clear hRP hW hWs
  (with_reducible refine (open_yesI HF3.out 0 2 0 2 rfl rfl _ 2 2 wfP HRP.out rfl (Nat.le_refl _) hm2 wfP_ok H1.out).mono ?_)
  rintro e w4 ⟨S, rfl, hS, hb4, hD4, hG4⟩
  have HRS : Hid (RdX (Own L S) w4 (some ⟨w2.heap.size, 0, none⟩) (pcells wfP)) := by
    refine rdx_at (HRP.out.below hb4 (Nat.le_refl _)) hb4.size ?_
    have l1 := HF2.out.ld
    have l2 := HF2.out.bi.2
    have l3 := HF2.out.bw.2
    have l4 := HWS.out
    rintro (e | e | e | e | e) <;> omega
  have HS4 := Lib.hid hS
  obtain ⟨hsv, hlv, hsd, hst, hbu, hsl, _, hs1, hs2, hs3⟩ := Surv.first (f := newF 2 P) (fi := 0) (bl := 2) (sp := wfP) (newF_ok (by omega) (by omega) (by omega) (by omega)) (fun x hx => newF_blank (by simpa [newF] using hx)) wfP_ok H1.out
  have HW4 : Hid (WearS (newF 2 P) (openF (newF 2 P) 0 2 wfP) (0 : Nat) (0 : Nat)) := WearS.first (newF_ok (by omega) (by omega) (by omega) (by omega)) wfP_ok H1.out
  have HLV := Lib.hid hlv
  have HSE4 := Lib.hid (And.intro hsd (And.intro hbu (And.intro hs1 (And.intro hs2 hs3))))
  have HSQ4 : Hid ((openF (newF 2 P) 0 2 wfP).seq = 0) := (hlv.q0 hsl).1
  obtain ⟨Qb, hQb⟩ : ∃ q, w2.heap.size = q := ⟨_, rfl⟩
  rw [hQb] at HRS
  clear hS hb4 hD4 hG4 hsv hlv hsd hst hbu hsl hs1 hs2 hs3
  simp only [hQb]
  go_wp2
  obtain ⟨W5, hW5⟩ : ∃ V, w4.alloc (.cells #[.int .i64 7, .int .i64 7] 3) = V := ⟨_, rfl⟩
  have HI : Hid (WfI w1 W5 L (some ⟨Qb, 0, none⟩) 0 0 (.pointer (some ⟨S.D, 0, none⟩)) (.slice (some ⟨w4.heap.size, 0, none⟩) 2 2)) := by
    have hb5 : Below w4.heap.size w4 W5 := by rw [← hW5]; exact (Below.refl _ _).alloc (Nat.le_refl _) _
    refine ⟨L.Ap, L.cp, S, _, _, _, 2, 7, 7, rfl, HS4.out.later hb5, HLV.out, HSE4.out.2.1, HW4.out, by rw [HSQ4.out]; omega, HSE4.out.2.2.1, HSE4.out.2.2.2.1, HSE4.out.2.2.2.2, by unfold newF; simp, rfl, Nat.le_refl _, hm2, HSE4.out.1, ?_, HRS.out.onlyX (OnlyX.of_below hb5)⟩
    have hr : Rd W5 W5.heap.size (some ⟨w4.heap.size, 0, none⟩) (icells [7, 7]) := by
      rw [← hW5, World.size_alloc]
      exact Rd.new w4 _ _ _ rfl
    exact rdx_at hr (Nat.le_refl _) (fun hx => Nat.lt_irrefl _ (HS4.out.own_lt _ hx))
  rw [hW5]
  clear hW5
  go_loopw [8, 9, 10, 51] (fun p v fl i wr => ∃ k G : Nat, k ≤ m ∧ G ≤ k ∧ i = .int .i64 k ∧ fl = .int .i64 G ∧ WfI w1 wr L (some ⟨Qb, 0, none⟩) G k p v) (fun _ _ _ i _ => m - (intOf i).toNat)
  case atStart => exact ⟨0, 0, by omega, by omega, rfl, rfl, HI.out⟩
  case round =>
    obtain ⟨k, G, hk, hG, rfl, rfl, Ap, cp, S8, f8, s8, A8, c8, a, b, rfl, hS, hL, hbu, hW, hsq, hsp, hfi, hbl, hwl, rfl, hc1, hc2, hsa, hr8, hrq⟩ := hrel
    obtain ⟨wa, hwa⟩ : ∃ wa, wa = wr := ⟨_, rfl⟩
    subst hwa
    have HS8 := Lib.hid hS
    have HL8 := Lib.hid hL
    have HW8 := Lib.hid hW
    have HSE8 := Lib.hid (And.intro hbu (And.intro hsq (And.intro hsp (And.intro hfi (And.intro hbl (And.intro hwl hsa))))))
    have HR8 := Lib.hid hr8
    have HRQ := Lib.hid hrq
    have HBr : Hid (Below w1.heap.size w1 wa) := hS.fl.below
    have HBw : Hid (Below w.heap.size w wa) := HB1.out.trans (HBr.out.mono HB1.out.size)
    have HAB : Hid (0 ≤ a ∧ a ≤ 255 ∧ 0 ≤ b ∧ b ≤ 255) := by
      have hlg := hL.lgs
      rw [hsp] at hlg
      obtain ⟨a', b', e, h⟩ := wfP_legal (by rw [hsa]; rfl) hlg
      rw [hsa] at e
      simp only [List.cons.injEq, and_true] at e
      rw [e.1, e.2]
      exact h
    unfold maxLen at hc2
    clear hS hL hbu hW hsq hsp hfi hbl hwl hsa hr8 hrq
    by_cases hlt : k < m
    · obtain ⟨x, hx⟩ := getElem?_of_lt (l := l) (k := k) (by rw [HM.out]; exact hlt)
      have HXO := Lib.hid (HOK.out x (List.mem_of_getElem? hx))
      obtain ⟨ba, off, rfl, hbl', e0, e1, e2, e3⟩ := (HA.out.below HBw.out (Nat.le_refl _)).chn hx
      obtain ⟨W, hW⟩ : ∃ V, wa.alloc (.cells #[.int .u8 x.v, .bool x.fl, .int .u8 x.af, .slice x.P x.q x.r] 121) = V := ⟨_, rfl⟩
      have HBW : Hid (Below wa.heap.size wa W) := by rw [← hW]; exact (Below.refl _ _).alloc (Nat.le_refl _) _
      have HCW : Hid (four W wa.heap.size (.int .u8 x.v) (.bool x.fl) (.int .u8 x.af) (.slice x.P x.q x.r)) := by rw [← hW]; exact four_new _ _ _ _ _ _ _ rfl
      obtain ⟨d0, d1, d2, d3, _⟩ := HCW.out
      clear hx
      by_cases hq : 1024 < x.q
      · go_wp2
        go_ret
        exact ⟨rfl, HBw.out.trans (HBW.out.mono HBw.out.size)⟩
      · go_upto_region 17 with (fail)
        try rw [hW]
        clear hW e0 e1 e2 e3
        go_cut [13] (fun v wx => ∃ A9 c9, v = .slice A9 2 c9 ∧ 2 ≤ c9 ∧ c9 ≤ 9223372036854775807 ∧ RdX (Own L S8) wx A9 (icells [x.v, a]) ∧ Below W.heap.size W wx)
        case first =>
          obtain ⟨b8, o8, rfl, _, q0⟩ := (HR8.out.onlyX (OnlyX.of_below HBW.out)).rd.int (k := 0) (x := a) rfl
          rw [Nat.add_zero] at q0
          have HNR : Hid (∀ w' : World, w'.heap.size = W.heap.size → RdX (Own L S8) (w'.alloc (.cells #[.int .i64 x.v, .int .i64 a] 3)) (some ⟨w'.heap.size, 0, none⟩) (icells [x.v, a])) := by
            intro w' he
            have hr : Rd (w'.alloc (.cells #[.int .i64 x.v, .int .i64 a] 3)) (w'.alloc (.cells #[.int .i64 x.v, .int .i64 a] 3)).heap.size (some ⟨w'.heap.size, 0, none⟩) (icells [x.v, a]) := by
              rw [World.size_alloc]
              exact Rd.new w' _ _ _ rfl
            exact rdx_at hr (Nat.le_refl _) (fun hx => Nat.lt_irrefl _ (Nat.lt_of_lt_of_le (HS8.out.own_lt _ hx) (by rw [he]; exact HBW.out.size)))
          have hv0 := HXO.out.v0
          have hv1 := HXO.out.v1
          go_region
          all_goals
            (try go_wp2_with fail)
            go_meet
            exact ⟨_, _, rfl, Nat.le_refl _, by omega, HNR.out _ rfl, (Below.drew (Below.refl _ _)).alloc (Nat.le_refl _) _⟩
        case rest =>
          obtain ⟨A9, c9, rfl, h91, h92, hr9, hb9⟩ := hcut
          have HR9 := Lib.hid hr9
          have HB9 := Lib.hid (hb9.mono HBW.out.size)
          have HS9 := Lib.hid ((HS8.out.later HBW.out).later hb9)
          have HRQ9 := Lib.hid ((HRQ.out.onlyX (OnlyX.of_below HBW.out)).onlyX (OnlyX.of_below hb9))
          have HRL9 := Lib.hid ((HR8.out.onlyX (OnlyX.of_below HBW.out)).onlyX (OnlyX.of_below hb9))
          have HC9 := Lib.hid (HCW.out.below hb9 HCW.out.lt)
          have HNX : Hid (¬ Own L S8 wa.heap.size) := fun hx => Nat.lt_irrefl _ (HS8.out.own_lt _ hx)
          obtain ⟨su, sv, hst8⟩ : ∃ u v, s8.staged = [u, v] := by
            have h := HL8.out.ok.tl
            rw [HSE8.out.2.2.1] at h
            match s8.staged, h with
            | [u, v], _ => exact ⟨u, v, rfl⟩
          have hv0 := HXO.out.v0
          have hv1 := HXO.out.v1
          have hab := HAB.out
          have hws := wf_set (x := x.v) (y := a) HSE8.out.2.2.1 HL8.out.br hst8 ⟨hv0, by omega⟩ ⟨hab.1, hab.2.1⟩
          have HWS := Lib.hid hws
          have hix : I64 x.v := by unfold I64; omega
          have hia : I64 a := by unfold I64; omega
          have HST1 := Lib.hid (set_any HS9.out HL8.out.ok 0 x.v)
          have HL1 := Lib.hid (HL8.out.set (i := 0) hix)
          have HL2 := Lib.hid (HL1.out.set (i := 1) hia)
          have HW2 := Lib.hid ((HW8.out.set (i := 0) hix).set (i := 1) hia)
          obtain ⟨k1, k2, k3, k4, k5, k6⟩ := setF_kp s8 0 x.v
          obtain ⟨j1, j2, j3, j4, j5, j6⟩ := setF_kp (setF s8 0 x.v) 1 a
          obtain ⟨p1, p2, p3, p4, p5, p6, p7⟩ := HSE8.out
          have HSE2 : Hid ((setF (setF s8 0 x.v) 1 a).busy = false ∧ (setF (setF s8 0 x.v) 1 a).seq ≤ 2 * (k : Int) ∧ (setF (setF s8 0 x.v) 1 a).spec = wfP ∧ (setF (setF s8 0 x.v) 1 a).first = 0 ∧ (setF (setF s8 0 x.v) 1 a).blocks = 2 ∧ (setF (setF s8 0 x.v) 1 a).saved = [a, b] ∧ (setF (setF s8 0 x.v) 1 a).staged = [x.v, a]) :=
            ⟨(j3.trans k3).trans p1, by rw [j1, k1]; exact p2, (j4.trans k4).trans p3, (j5.trans k5).trans p4, (j6.trans k6).trans p5, (j2.trans k2).trans p7, hws.2.2⟩
          obtain ⟨b9, o9, rfl, hb9l, q0⟩ := HR9.out.rd.int (k := 0) (x := x.v) rfl
          rw [Nat.add_zero] at q0
          obtain ⟨d0, d1, d2, d3, _⟩ := HC9.out
          clear hr9 hb9 hst8 hws hix hia k1 k2 k3 k4 k5 k6 j1 j2 j3 j4 j5 j6 p1 p2 p3 p4 p5 p6 p7 hab hv0 hv1 hb9l
          go_wp2_with (fail)
          (with_reducible refine HST1.out.mono ?_)
          rintro e w10 ⟨he, hs10, ho10⟩
          rw [HWS.out.1, errV_zero] at he
          subst he
          have HS10 : Hid (StAt w1 w10 { L with Ap := Ap, cp := cp } S8 f8 (setF s8 0 x.v)) := hs10
          have HR10 := Lib.hid (HR9.out.onlyX ho10)
          have HRQ10 := Lib.hid (HRQ9.out.onlyX ho10)
          have HRL10 := Lib.hid (HRL9.out.onlyX ho10)
          have HC10 := Lib.hid (HC9.out.onlyX' ho10 HNX.out)
          have HST2 := Lib.hid (set_any HS10.out HL1.out.ok 1 a)
          obtain ⟨b9', o9', e9, _, q1⟩ := HR10.out.rd.int (k := 1) (x := a) rfl
          injection e9 with e9
          injection e9 with e91 e92 _
          subst e91 e92
          clear hs10 ho10 q0 d0 d1 d2 d3
          go_wp2_with (fail)
          (with_reducible refine HST2.out.mono ?_)
          rintro e w11 ⟨he, hs11, ho11⟩
          rw [HWS.out.2.1, errV_zero] at he
          subst he
          obtain ⟨s2, hs2⟩ : ∃ s2, setF (setF s8 0 x.v) 1 a = s2 := ⟨_, rfl⟩
          rw [hs2] at HL2 HW2 HSE2 hs11
          have HS11 : Hid (StAt w1 w11 { L with Ap := Ap, cp := cp } S8 f8 s2) := hs11
          have HR11 := Lib.hid (HR10.out.onlyX ho11)
          have HRQ11 := Lib.hid (HRQ10.out.onlyX ho11)
          have HRL11 := Lib.hid (HRL10.out.onlyX ho11)
          have HC11 := Lib.hid (HC10.out.onlyX' ho11 HNX.out)
          obtain ⟨d0, d1, d2, d3, _⟩ := HC11.out
          have HWL : Hid (f8.wear.length = 2) := HSE8.out.2.2.2.2.2.1
          clear hs11 ho11 q1 hs2 HS10 HR10 HRQ10 HRL10 HC10 HS9 HR9 HRQ9 HRL9 HC9 HL1 HST1 HST2 HWS HL8 HW8 HSE8
          go_upto_if 81 with (fail)
          go_cut [] (fun wx => ∃ Ap9 cp9 f9, StAt w1 wx { L with Ap := Ap9, cp := cp9 } S8 f9 s2 ∧ Live f9 s2 ∧ WearS f9 s2 G k ∧ f9.wear.length = 2 ∧ OnlyX (Own L S8) w11 wx)
          case first =>
            have HXO4 : Hid (x.ok w11 w11.heap.size) := (HXO.out.below (HB1.out.trans (HS11.out.fl.below.mono HB1.out.size)) (Nat.le_refl _)).more (HB1.out.trans (HS11.out.fl.below.mono HB1.out.size)).size
            cases hfl : x.fl
            · rw [hfl] at d1
              go_wp2_with (fail)
              go_meet
              exact ⟨Ap, cp, f8, HS11.out, HL2.out, HW2.out, HWL.out, OnlyX.refl _ _⟩
            · rw [hfl] at d1
              have ha0 := HXO.out.a0
              have ha1 := HXO.out.a1
              obtain ⟨M, hM⟩ : ∃ M, x.af % 6 = M := ⟨_, rfl⟩
              have hM2 : x.af.tmod 6 = M := by rw [Int.tmod_eq_emod_of_nonneg ha0]; exact hM
              have hM0 : 0 ≤ M ∧ M ≤ 5 := by omega
              have hMI : I64 M := by unfold I64; omega
              have HFU := Lib.hid (fuseS_any HS11.out M hMI x.P x.q x.r x.p HXO4.out.rp HXO4.out.lp HXO4.out.sq HXO4.out.bp)
              have hfok := fuseF_ok (n := M) HL2.out.fok HXO4.out.bp (by omega)
              have HLF := Lib.hid (HL2.out.fl (g := fuseF f8 M x.p) rfl rfl rfl rfl hfok)
              have HWF := Lib.hid (HW2.out.fuse (n := M) HXO4.out.bp (by omega))
              clear hfok hMI ha0 ha1 hM
              go_wp2_with (fail)
              (with_reducible refine HFU.out.mono ?_)
              rintro e w12 ⟨rfl, ⟨Ap9, cp9, hs9⟩, ho9⟩
              have HS12 : Hid (StAt w1 w12 { L with Ap := Ap9, cp := cp9 } S8 (fuseF f8 M x.p) s2) := hs9
              have HO12 : Hid (OnlyX (Own L S8) w11 w12) := ho9
              clear hs9 ho9
              go_wp2_with (fail)
              go_meet
              exact ⟨Ap9, cp9, _, HS12.out, HLF.out, HWF.out, HWL.out, HO12.out⟩
          case rest =>
            obtain ⟨ApB, cpB, fB, hSB, hLB, hWB, hwlB, hoB⟩ := hcut
            have HLB := Lib.hid hLB
            have HRB := Lib.hid (HR11.out.onlyX hoB)
            have HRQB := Lib.hid (HRQ11.out.onlyX hoB)
            have HRLB := Lib.hid (HRL11.out.onlyX hoB)
            have HCO := Lib.hid (commit_any hSB hLB.ok)
            have h3 := hLB.commit3 HSE2.out.1 (by have := HSE2.out.2.1; omega)
            have hwc := hWB.commit hLB.up (by omega)
            have hsh := (commitS_shape s2 fB).w
            have hsm := commitS_same s2 fB
            have hcs := commitS_seq s2 fB
            obtain ⟨⟨sC, fC, er⟩, hq0⟩ : ∃ q, commitS s2 fB = q := ⟨_, rfl⟩
            rw [hq0] at HCO h3 hwc hsh hsm hcs
            simp only at h3 hwc hsh hsm hcs
            have HSM : Hid (sC.spec = wfP ∧ sC.first = 0 ∧ sC.blocks = 2) := ⟨hsm.spec.trans HSE2.out.2.2.1, hsm.first.trans HSE2.out.2.2.2.1, hsm.blocks.trans HSE2.out.2.2.2.2.1⟩
            have HWLC : Hid (fC.wear.length = 2) := hsh.trans hwlB
            have HSQC : Hid (sC.seq ≤ 2 * (k : Int) + 1) := by have := HSE2.out.2.1; rw [Hid]; omega
            have HWC := Lib.hid hwc
            have H3 := Lib.hid h3
            clear hSB hLB hWB hwlB hoB h3 hwc hsh hsm hcs hq0 d0 d1 d2 d3
            go_wp2_with (fail)
            (with_reducible refine HCO.out.mono ?_)
            rintro e wC ⟨rfl, ⟨SC, hdC, hgC, hsC⟩, hoC⟩
            have HSC : Hid (StAt w1 wC { L with Ap := ApB, cp := cpB } SC fC sC) := hsC
            have HOW : Hid (Own L SC = Own L S8) := Own.same hdC hgC
            have HDD : Hid (SC.D = S8.D) := hdC
            have HRC := Lib.hid (HRB.out.onlyX hoC)
            have HRQC := Lib.hid (HRQB.out.onlyX hoC)
            have HRLC := Lib.hid (HRLB.out.onlyX hoC)
            have hbn : Bytes ([] : List Int) := fun y hy => by simp at hy
            have HFU := Lib.hid (fuseS_any HSC.out (-1) (by unfold I64; omega) none 0 0 [] (fun h => absurd rfl h) rfl (by omega) hbn)
            have HFOK := Lib.hid (fuseF_ok (n := -1) HWC.out.fok hbn (by omega))
            have HWD := Lib.hid (HWC.out.fuse (n := -1) hbn (by omega))
            clear hsC hoC hdC hgC
            go_wp2_with (fail)
            (with_reducible refine HFU.out.mono ?_)
            rintro e wD ⟨rfl, ⟨ApD, cpD, hsD⟩, hoD⟩
            have HSD : Hid (StAt w1 wD { L with Ap := ApD, cp := cpD } SC (fuseF fC (-1) []) sC) := hsD
            have HOD : Hid (OnlyX (Own L S8) wC wD) := by rw [← HOW.out]; exact hoD
            have HRD : Hid (RdX (Own L SC) wD (some ⟨b9, o9, none⟩) (icells [x.v, a])) := by rw [HOW.out]; exact HRC.out.onlyX HOD.out
            have HRQD : Hid (RdX (Own L SC) wD (some ⟨Qb, 0, none⟩) (pcells wfP)) := by rw [HOW.out]; exact HRQC.out.onlyX HOD.out
            have HRLD : Hid (RdX (Own L SC) wD A8 (icells [a, b])) := by rw [HOW.out]; exact HRLC.out.onlyX HOD.out
            have HDW := Lib.hid (down_any HSD.out.fl)
            have hcm9 : c9 ≤ maxLen := by unfold maxLen; omega
            have hcm8 : c8 ≤ maxLen := by unfold maxLen; omega
            clear hsD hoD
            rcases H3.out with ⟨rfl, hl, hb, hsv, hsg⟩ | ⟨rfl, hd, hsv, hvl⟩ | ⟨rfl, hqe, hst⟩
            · have HL9 := Lib.hid (hl.fl (g := fuseF fC (-1) []) rfl rfl rfl rfl HFOK.out)
              have HSE9 := Lib.hid (And.intro hb (hsv.trans HSE2.out.2.2.2.2.2.2))
              have hdn : (fuseF fC (-1) []).down = false := hl.up
              have hdn2 : fC.down = false := hl.up
              rw [hdn] at HDW
              rw [hdn2, if_neg (by decide)] at HWD
              rw [errV_zero]
              clear hl hb hsv hsg hdn hdn2
              go_wp2_with (fail)
              (with_reducible refine HDW.out.mono ?_)
              rintro e wE ⟨rfl, rfl⟩
              go_wp2_with (fail)
              go_roundw
              case rel => exact ⟨k + 1, G, by omega, by omega, by go_num, rfl, ApD, cpD, SC, _, sC, _, c9, x.v, a, by rw [HDD.out], HSD.out, HL9.out, HSE9.out.1, by push_cast; exact HWD.out, by have := HSQC.out; push_cast; omega, HSM.out.1, HSM.out.2.1, HSM.out.2.2, HWLC.out, rfl, h91, hcm9, HSE9.out.2, HRD.out, HRQD.out⟩
              case measure => simp [intOf]; omega
            · have hdd : Dead (fuseF fC (-1) []) sC := hd.fl rfl rfl rfl rfl HFOK.out
              have hdn : (fuseF fC (-1) []).down = true := hd.dn
              have hdn2 : fC.down = true := hd.dn
              have hwl9 : (fuseF fC (-1) []).wear.length = 2 := HWLC.out
              rw [hdn2, if_pos rfl] at HWD
              rw [hdn] at HDW
              obtain ⟨fD, hfD⟩ : ∃ g, fuseF fC (-1) [] = g := ⟨_, rfl⟩
              rw [hfD] at HSD HWD hdd hwl9
              have hag := hdd.again (by rw [HSM.out.1]; exact wfP_bad)
              have hsv9 : Surv fD sC [a, b] (some [x.v, a]) := ⟨hsv.trans HSE2.out.2.2.2.2.2.1, .inr ⟨hdd, by rw [hvl, HSE2.out.2.2.2.2.2.2]⟩⟩
              have hag2 := hsv9.again (by rw [HSM.out.1]; exact wfP_bad)
              have hag3 := HWD.out.again (by rw [HSM.out.1]; exact wfP_bad)
              rw [HSM.out.1, HSM.out.2.1, HSM.out.2.2] at hag hag2 hag3
              obtain ⟨a1, a2, a3, a4⟩ := hag
              obtain ⟨oe, _, hor, hsm⟩ := hag2
              obtain ⟨_, hw9, _⟩ := hag3
              have HOE := Lib.hid oe
              have HSS := Lib.hid (startS_any HSD.out)
              obtain ⟨T, hT⟩ : ∃ T, openF (startF fD) 0 2 wfP = T := ⟨_, rfl⟩
              rw [hT] at a1 a2 a3 a4 hor hsm hw9
              have HT := Lib.hid hT
              have HT1 := Lib.hid (And.intro a1 a2)
              have HTW := Lib.hid hw9
              have HT2 : Hid (T.seq ≤ 2 * (k : Int) + 2 ∧ T.spec = wfP ∧ T.first = 0 ∧ T.blocks = 2) := by
                refine ⟨?_, hsm.spec.trans HSM.out.1, hsm.first.trans HSM.out.2.1, hsm.blocks.trans HSM.out.2.2⟩
                exact Int.le_trans a3 (by have := HSQC.out; omega)
              have HT3 : Hid ((startF fD).wear.length = 2) := by rw [Hid, (startF_same fD).2.2.1]; exact hwl9
              have HOR := Lib.hid hor
              rw [errV_ne (by decide)]
              clear hd hdd hdn hdn2 hwl9 hsv9 hsv hvl hfD oe hor hsm hw9 a1 a2 a3 a4 hT
              go_wp2_with (fail)
              (with_reducible refine (is_err 20 12 _).mono ?_)
              rintro e wE ⟨rfl, rfl⟩
              go_wp2_with (fail)
              (with_reducible refine (is_err 20 20 _).mono ?_)
              rintro e wE ⟨rfl, rfl⟩
              go_wp2_with (fail)
              (with_reducible refine HDW.out.mono ?_)
              rintro e wE ⟨rfl, rfl⟩
              go_wp2_with (fail)
              (with_reducible refine HSS.out.mono ?_)
              rintro e w12 ⟨rfl, ⟨Ap12, cp12, hs12⟩, ho12⟩
              have HF12 : Hid (FlAt w1 w12 { L with Ap := Ap12, cp := cp12 } (startF fD)) := hs12.fl
              have HO12 : Hid (OnlyX (Own L SC) wD w12) := ho12
              have HRQ12 := Lib.hid (HRQD.out.onlyX HO12.out)
              have HRN12 := Lib.hid (HRD.out.onlyX HO12.out)
              have HRL12 := Lib.hid (HRLD.out.onlyX HO12.out)
              clear hs12 ho12
              go_wp2_with (fail)
              (with_reducible refine (open_yesI HF12.out 0 2 0 2 rfl rfl _ 2 2 wfP HRQ12.out.rd rfl (Nat.le_refl _) hm2 wfP_ok HOE.out).mono ?_)
              rintro e w13 ⟨S13, rfl, hS, hb13, hD13, hG13⟩
              have HS13 : Hid (StAt w1 w13 { L with Ap := Ap12, cp := cp12 } S13 (startF fD) T) := by rw [← HT.out]; exact hS
              have HRQ13 : Hid (RdX (Own L S13) w13 (some ⟨Qb, 0, none⟩) (pcells wfP)) := (HRQ12.out.newX (own_newS hD13 hG13)).onlyX (OnlyX.of_below hb13)
              have HRN13 := Lib.hid (HRN12.out.onlyX (OnlyX.of_below hb13))
              have HRL13 := Lib.hid (HRL12.out.onlyX (OnlyX.of_below hb13))
              have HSA := Lib.hid (saved_any HS13.out HT1.out.1.ok)
              rw [HT2.out.2.1, show wfP.length = 2 from rfl] at HSA
              clear hS hb13 hD13 hG13
              go_wp2_with (fail)
              (with_reducible refine HSA.out.mono ?_)
              rintro e w14 ⟨v14, rfl, ho14, hb14⟩
              obtain ⟨A14, c14, rfl, h141, h142, _⟩ := own_read ho14
              have HR14 : Hid (RdX (Own L S13) w14 A14 (icells T.saved)) := own_rdx ho14 (fun b hb hx => by have := (ho14.lt b hb).1; have := HS13.out.own_lt b hx; omega)
              have HS14 := Lib.hid (HS13.out.later hb14)
              have HRQ14 := Lib.hid (HRQ13.out.onlyX (OnlyX.of_below hb14))
              have HRN14 := Lib.hid (HRN13.out.onlyX (OnlyX.of_below hb14))
              have HRL14 := Lib.hid (HRL13.out.onlyX (OnlyX.of_below hb14))
              have h141' : 2 ≤ c14 := h141
              have hx14 : c14 ≤ 9223372036854775807 := by unfold maxLen at h142; omega
              have HTL : Hid (T.saved.length = 2) := by
                have h := HT1.out.1.ok.sl
                rw [HT2.out.2.1] at h
                exact h
              have HIN := Lib.hid (ints_any A14 A8 2 2 c14 c8 T.saved [a, b] w14 HR14.out.rd HRL14.out.rd HTL.out rfl hm2 hm2)
              clear ho14 hb14 h141
              by_cases heq : T.saved = [a, b]
              · rw [decide_eq_true heq] at HIN
                rw [heq] at HR14
                have HEQ := Lib.hid heq
                clear heq
                go_wp2_with (fail)
                (with_reducible refine HIN.out.mono ?_)
                rintro e w15 ⟨rfl, q15, rfl⟩
                have HBX := Lib.hid (Below.drewN (Below.refl w14.heap.size w14) q15)
                generalize w14.drewN q15 = wX at *
                have HSX := Lib.hid (HS14.out.later HBX.out)
                have HRT := Lib.hid (HR14.out.onlyX (OnlyX.of_below HBX.out))
                have HRQX := Lib.hid (HRQ14.out.onlyX (OnlyX.of_below HBX.out))
                obtain ⟨i3, hi3, hz30, hz31, hz32⟩ := info_parts info3
                have hm0 : 0 ≤ maxLen := Nat.zero_le _
                go_wp2_with (at_builtin; refine wpList_append_rd _ rfl _ _ 44 rfl wX.heap.size 3 i3 (.int .i64 0) 1 8 Try.underlying44 hi3 hz30 hz31 hz32 rfl (by omega) _ 0 [] rfl (World.ownsRow_lit wX #[] 0 (Nat.le_refl _) hm0 rfl) wX.heap.size _ 2 c14 (icells [a, b]) rfl (HRT.out.rd.below ((Below.refl wX.heap.size wX).alloc (Nat.le_refl _) _) (Nat.le_refl _)) rfl (kcells_one .i64 [a, b]) (by unfold maxLen; omega) (by omega) (by simp) ?_)
                intro v5 w5 hown5 hgrow5 _
                have HB5 : Hid (Below wX.heap.size wX w5) := ((Below.refl wX.heap.size wX).alloc (Nat.le_refl _) _).grown hgrow5 (by simp) (fun k hk => by have hk' : some wX.heap.size = some k := hk; injection hk'; omega)
                have ho5 : w5.ownsRow wX.heap.size 3 1 v5 2 (icells [a, b]) := by simpa using hown5
                obtain ⟨A5, c5, rfl, h51, h52, _⟩ := own_form ho5
                have HR5 : Hid (RdX (Own L S13) w5 A5 (icells [a, b])) := own_rdx ho5 (fun b hb hx => by have := (ho5.lt b hb).1; have := HSX.out.own_lt b hx; omega)
                clear hown5 hgrow5 ho5
                go_wp2_with (fail)
                go_roundw
                case rel => exact ⟨k + 1, G + 1, by omega, by omega, by go_num, by go_num, Ap12, cp12, S13, _, T, _, c5, _, _, rfl, HSX.out.later HB5.out, HT1.out.1, HT1.out.2, by push_cast; exact HTW.out, by have := HT2.out.1; push_cast; omega, HT2.out.2.1, HT2.out.2.2.1, HT2.out.2.2.2, HT3.out, rfl, h51, h52, HEQ.out, HR5.out, HRQX.out.onlyX (OnlyX.of_below HB5.out)⟩
                case measure => simp [intOf]; omega
              · have heq2 : T.saved = [x.v, a] := by
                  rcases HOR.out with h | h
                  · exact absurd h heq
                  · injection h with h
                    exact h.symm
                rw [decide_eq_false heq] at HIN
                rw [heq2] at HR14
                have HEQ := Lib.hid heq2
                clear heq heq2
                go_wp2_with (fail)
                (with_reducible refine HIN.out.mono ?_)
                rintro e w15 ⟨rfl, q15, rfl⟩
                have HBY := Lib.hid (Below.drewN (Below.refl w14.heap.size w14) q15)
                have HIN2 := Lib.hid (ints_any A14 (some ⟨b9, o9, none⟩) 2 2 c14 c9 [x.v, a] [x.v, a] (w14.drewN q15) (HR14.out.onlyX (OnlyX.of_below HBY.out)).rd (HRN14.out.onlyX (OnlyX.of_below HBY.out)).rd rfl rfl hm2 hm2)
                rw [decide_eq_true rfl] at HIN2
                go_wp2_with (fail)
                (with_reducible refine HIN2.out.mono ?_)
                rintro e w16 ⟨rfl, q16, rfl⟩
                have HBX := Lib.hid (HBY.out.trans ((Below.drewN (Below.refl (w14.drewN q15).heap.size (w14.drewN q15)) q16).mono HBY.out.size))
                generalize (w14.drewN q15).drewN q16 = wX at *
                have HSX := Lib.hid (HS14.out.later HBX.out)
                have HRT := Lib.hid (HR14.out.onlyX (OnlyX.of_below HBX.out))
                have HRQX := Lib.hid (HRQ14.out.onlyX (OnlyX.of_below HBX.out))
                obtain ⟨i3, hi3, hz30, hz31, hz32⟩ := info_parts info3
                have hm0 : 0 ≤ maxLen := Nat.zero_le _
                go_wp2_with (at_builtin; refine wpList_append_rd _ rfl _ _ 44 rfl wX.heap.size 3 i3 (.int .i64 0) 1 8 Try.underlying44 hi3 hz30 hz31 hz32 rfl (by omega) _ 0 [] rfl (World.ownsRow_lit wX #[] 0 (Nat.le_refl _) hm0 rfl) wX.heap.size _ 2 c14 (icells [x.v, a]) rfl (HRT.out.rd.below ((Below.refl wX.heap.size wX).alloc (Nat.le_refl _) _) (Nat.le_refl _)) rfl (kcells_one .i64 [x.v, a]) (by unfold maxLen; omega) (by omega) (by simp) ?_)
                intro v5 w5 hown5 hgrow5 _
                have HB5 : Hid (Below wX.heap.size wX w5) := ((Below.refl wX.heap.size wX).alloc (Nat.le_refl _) _).grown hgrow5 (by simp) (fun k hk => by have hk' : some wX.heap.size = some k := hk; injection hk'; omega)
                have ho5 : w5.ownsRow wX.heap.size 3 1 v5 2 (icells [x.v, a]) := by simpa using hown5
                obtain ⟨A5, c5, rfl, h51, h52, _⟩ := own_form ho5
                have HR5 : Hid (RdX (Own L S13) w5 A5 (icells [x.v, a])) := own_rdx ho5 (fun b hb hx => by have := (ho5.lt b hb).1; have := HSX.out.own_lt b hx; omega)
                clear hown5 hgrow5 ho5
                go_wp2_with (fail)
                go_roundw
                case rel => exact ⟨k + 1, G + 1, by omega, by omega, by go_num, by go_num, Ap12, cp12, S13, _, T, _, c5, _, _, rfl, HSX.out.later HB5.out, HT1.out.1, HT1.out.2, by push_cast; exact HTW.out, by have := HT2.out.1; push_cast; omega, HT2.out.2.1, HT2.out.2.2.1, HT2.out.2.2.2, HT3.out, rfl, h51, h52, HEQ.out, HR5.out, HRQX.out.onlyX (OnlyX.of_below HB5.out)⟩
                case measure => simp [intOf]; omega
            · simp only [Prod.mk.injEq, and_true] at hqe
              obtain ⟨rfl, rfl⟩ := hqe
              have HL9 := Lib.hid (HLB.out.fl (g := fuseF fC (-1) []) rfl rfl rfl rfl HFOK.out)
              have hdn : (fuseF fC (-1) []).down = false := HLB.out.up
              have hdn2 : fC.down = false := HLB.out.up
              rw [hdn] at HDW
              rw [hdn2, if_neg (by decide)] at HWD
              have heq : [x.v, a] = [a, b] := by rw [← HSE2.out.2.2.2.2.2.2, hst, HSE2.out.2.2.2.2.2.1]
              have HIN := Lib.hid (ints_any (some ⟨b9, o9, none⟩) A8 2 2 c9 c8 [x.v, a] [a, b] wD HRD.out.rd HRLD.out.rd rfl rfl hm2 hm2)
              rw [decide_eq_true heq] at HIN
              rw [errV_ne (by decide)]
              clear hst hdn hdn2 heq
              go_wp2_with (fail)
              (with_reducible refine (is_err 12 12 _).mono ?_)
              rintro e wE ⟨rfl, rfl⟩
              go_wp2_with (fail)
              (with_reducible refine HDW.out.mono ?_)
              rintro e wE ⟨rfl, rfl⟩
              go_wp2_with (fail)
              (with_reducible refine HIN.out.mono ?_)
              rintro e wE ⟨rfl, qE, rfl⟩
              have HBQ := Lib.hid (Below.drewN (Below.refl wD.heap.size wD) qE)
              go_wp2_with (fail)
              go_roundw
              case rel => exact ⟨k + 1, G, by omega, by omega, by go_num, rfl, ApD, cpD, SC, _, sC, _, c8, a, b, by rw [HDD.out], HSD.out.later HBQ.out, HL9.out, HSE2.out.1, by push_cast; exact HWD.out, by have := HSQC.out; push_cast; omega, HSM.out.1, HSM.out.2.1, HSM.out.2.2, HWLC.out, rfl, hc1, hcm8, HSE2.out.2.2.2.2.2.1, HRLD.out.onlyX (OnlyX.of_below HBQ.out), HRQD.out.onlyX (OnlyX.of_below HBQ.out)⟩
              case measure => simp [intOf]; omega
    · have HWA := Lib.hid (wear_any HS8.out.fl)
      rw [HSE8.out.2.2.2.2.2.1] at HWA
      obtain ⟨u, v, huv⟩ : ∃ u v, f8.wear = [u, v] := by
        have h := HSE8.out.2.2.2.2.2.1
        match f8.wear, h with
        | [u, v], _ => exact ⟨u, v, rfl⟩
      have hev := HW8.out.even
      rw [HSE8.out.2.2.2.1, HSE8.out.2.2.2.2.1] at hev
      have e01 := hev.1 0 1 (by omega) (by omega)
      have e10 := hev.1 1 0 (by omega) (by omega)
      have l0 := hev.2.2 0
      have l1 := hev.2.2 1
      unfold wearW at e01 e10
      simp only [huv, Nat.zero_add, List.getElem?_cons_zero, List.getElem?_cons_succ, Option.getD_some] at e01 e10 l0 l1
      rw [huv] at HWA
      clear hev huv
      go_wp2_with (fail)
      (with_reducible refine HWA.out.mono ?_)
      rintro e wW ⟨vW, rfl, hoW, hbW⟩
      obtain ⟨AW, cW, rfl, hW1, hW2, hrW⟩ := own_read hoW
      obtain ⟨bW, oW, rfl, hbWl, d0⟩ := hrW.int (k := 0) (x := u) rfl
      obtain ⟨b', o', e', _, d1⟩ := hrW.int (k := 1) (x := v) rfl
      injection e' with e'
      injection e' with e1 e2 _
      subst e1 e2
      rw [Nat.add_zero] at d0
      have HLW := Lib.hid hbWl
      have HDW0 := Lib.hid d0
      have HDW1 := Lib.hid d1
      have HBWW : Hid (Below w.heap.size w wW) := HBw.out.trans (hbW.mono HBw.out.size)
      have HSW := Lib.hid (HS8.out.later hbW)
      have HRW := Lib.hid (HR8.out.onlyX (OnlyX.of_below hbW))
      have HABS := Lib.hid (fun w' => abs_any (u - v) w' (by omega) (by omega))
      have hmx : max (u - v) (-(u - v)) ≤ 1 + (G : Int) := by omega
      have hcm8 : c8 ≤ maxLen := by unfold maxLen; omega
      have HSAV : Hid (∀ w', Below wW.heap.size wW w' → Calls Try.prog 62 #[.pointer (some ⟨S8.D, 0, none⟩)] w' fun e w'' => ∃ A' c', e = .returned (.slice A' 2 c') ∧ 2 ≤ c' ∧ c' ≤ maxLen ∧ Rd w'' w''.heap.size A' (icells [a, b]) ∧ Below wW.heap.size wW w'') := by
        intro w' hb'
        refine (saved_any (HSW.out.later hb') HL8.out.ok).mono ?_
        rintro e w'' ⟨v', rfl, ho, hb⟩
        rw [HSE8.out.2.2.1, HSE8.out.2.2.2.2.2.2] at ho
        obtain ⟨A', c', rfl, h1, h2, hr⟩ := own_read ho
        exact ⟨A', c', rfl, h1, h2, hr, hb'.trans (hb.mono hb'.size)⟩
      unfold maxLen at hW2
      clear hoW hbW hrW
      have HKS : Hid (∀ W', Below wW.heap.size wW W' → W'.cell? ⟨bW, oW, none⟩ = some (.int .i64 u) ∧ W'.cell? ⟨bW, oW + 1, none⟩ = some (.int .i64 v)) :=
        fun W' hb => ⟨(hb.cell (p := ⟨bW, oW, none⟩) HLW.out).trans HDW0.out, (hb.cell (p := ⟨bW, oW + 1, none⟩) HLW.out).trans HDW1.out⟩
      have t1 : IntKind.i64.wrap (u - v) = u - v := wrap_i64_small _ (by omega) (by omega)
      have t2 : IntKind.i64.wrap (1 + (G : Int)) = 1 + (G : Int) := wrap_i64_small _ (by omega) (by omega)
      have t3 : decide (max (u - v) (-(u - v)) ≤ 1 + (G : Int)) = true := decide_eq_true hmx
      clear hmx e01 e10 l0 l1
      go_wp2_with (fail)
      go_region_held3 (fun w' => w'.cell? ⟨bW, oW, none⟩ = some (.int .i64 u) ∧ w'.cell? ⟨bW, oW + 1, none⟩ = some (.int .i64 v)) (first | go_keep | exact HKS.out _ hb9) (first
        | (go_at_call 74; refine (HABS.out _).mono ?_; rintro e w5 ⟨rfl, rfl⟩)
        | (go_at_call 62; refine (HSAV.out _ (by repeat (first | exact Below.refl _ _ | refine Below.drew ?_ | refine Below.drewN ?_ _))).mono ?_; rintro e w9 ⟨A', c', rfl, h9a, h9b, hr9, hb9⟩)
        | (go_at_call 51; refine (ints_any A' A8 2 2 c' c8 [a, b] [a, b] _ hr9 (HRW.out.onlyX (OnlyX.of_below hb9)).rd rfl rfl hm2 hm2).mono ?_; rintro e w10 ⟨rfl, q10, rfl⟩))
      go_wp2
      go_ret
      exact ⟨rfl, HBWW.out.trans ((hb9.trans ((Below.drewN (Below.refl _ _) q10).mono hb9.size)).mono HBWW.out.size)⟩
end Go.Proofs.Ytfeceamhlphelaa
