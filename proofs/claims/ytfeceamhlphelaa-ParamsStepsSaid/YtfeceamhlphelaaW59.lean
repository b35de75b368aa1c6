/-
  ParamsSteps: after any begin each step changes the bytes of one page alone, or makes one block read ones.
-/
import Derived.Test.YtfeceamhlphelaaW56
import Derived.Test.YtfeceamhlphelaaPlainM
import Derived.Deep.DeepCutAuto
import Derived.Deep.CutBlock
namespace Go.Proofs.Ytfeceamhlphelaa
open Go.RowKit
set_option linter.unusedVariables false
set_option linter.unusedSimpArgs false

theorem setF_busy (s : St) (i v : Int) : (setF s i v).busy = s.busy := by unfold setF; split <;> rfl
/-- What the walk keeps of a store whose flash has no power failure to come. -/
def StI (w0 w : World) (L : Lc) (S : Sc) (N B P : Nat) (u : Bool) : Prop :=
  ∃ S' f s, S'.D = S.D ∧ S'.G = S.G ∧ StAt w0 w L S' f s ∧ Live f s ∧ Calm f ∧ s.busy = u ∧ s.spec = sureP N ∧ f.pg = P ∧ f.wear.length = B

/-- The block reads ones. -/
def Ones (f g : Fl) (blk : Nat) : Prop := ∀ k, 64 * f.pg * blk ≤ k → k < 64 * f.pg * (blk + 1) → g.img[k]? = some 255
/-- What the scan has seen: the page of the last change, its block, and whether one page alone is changed. -/
def ScC (f g : Fl) (blk : Nat) (a b c : Value) : Prop :=
  (a = .int .i64 (-1) ∧ b = .int .i64 (-1) ∧ c = .bool true) ∨ ∃ (Q : Nat) (u : Bool), a = .int .i64 Q ∧ b = .int .i64 blk ∧ c = .bool u ∧ (∃ k, g.img[k]? ≠ f.img[k]? ∧ k / 64 = Q) ∧ (u = false → Ones f g blk)
theorem ScC.one {f g : Fl} {blk q : Nat} (h : Chg f g blk) (hq : g.img[q]? ≠ f.img[q]?) : ScC f g blk (.int .i64 (q / 64 : Nat)) (.int .i64 blk) (.bool true) :=
  .inr ⟨_, true, rfl, rfl, rfl, ⟨q, hq, rfl⟩, fun e => by cases e⟩
theorem ScC.two {f g : Fl} {blk q Q : Nat} {u : Bool} (h : Chg f g blk) (hq : g.img[q]? ≠ f.img[q]?) (hs : (∃ k, g.img[k]? ≠ f.img[k]? ∧ k / 64 = Q) ∧ (u = false → Ones f g blk)) :
    (Q = q / 64 → ScC f g blk (.int .i64 Q) (.int .i64 blk) (.bool u)) ∧ (Q ≠ q / 64 → ScC f g blk (.int .i64 (q / 64 : Nat)) (.int .i64 blk) (.bool false)) := by
  refine ⟨fun _ => .inr ⟨Q, u, rfl, rfl, rfl, hs.1, hs.2⟩, fun hne => .inr ⟨_, false, rfl, rfl, rfl, ⟨q, hq, rfl⟩, fun _ => ?_⟩⟩
  obtain ⟨k, hk, hkQ⟩ := hs.1
  rcases h.one with ⟨p, hp⟩ | ho
  · exact absurd (by rw [← hkQ, hp k hk, hp q hq]) hne
  · exact ho
set_option maxRecDepth 100000 in
theorem steps_long (b p f c n : Int) (A : Option Addr) (m z : Nat) (l : List Ev) (w : World) (hA : Rd w w.heap.size A (ecells l)) (hm : l.length = m) (hmz : m ≤ z) (hzm : z ≤ maxLen) (hok : ∀ x ∈ l, x.ok w w.heap.size) (hl : largeE l = true) :
    Calls Try.prog 13 #[.agg #[.int .i64 b, .int .i64 p, .int .i64 f, .int .i64 c], .int .i64 n, .slice A m z] w fun e w' => e = .returned (.bool true) ∧ Below w.heap.size w w' := by
  have HA := Lib.hid hA
  have HM := Lib.hid hm
  have HOK := Lib.hid hok
  have HL := Lib.hid hl
  obtain ⟨V, hV⟩ : ∃ V, w.alloc (.cells #[.int .i64 b, .int .i64 p, .int .i64 f, .int .i64 c] 82) = V := ⟨_, rfl⟩
  have HBV : Hid (Below w.heap.size w V) := by rw [← hV]; exact (Below.refl _ _).alloc (Nat.le_refl _) _
  clear hA hm hok hl
  have hzm' := hzm
  unfold maxLen at hzm
  go_enter Try.func13, Try.ntmps13
  go_wp2_with (fail)
  try rw [hV]
  clear hV
  (with_reducible refine (awake51_any V).mono ?_)
  rintro e w1 ⟨rfl, hb⟩
  have HB1 : Hid (Below w.heap.size w w1) := HBV.out.trans (hb.mono HBV.out.size)
  clear hb
  go_wp2_with (fail)
  (with_reducible refine (large51_any A m z l w1 ((HA.out.below HB1.out (Nat.le_refl _)).more HB1.out.size) HM.out hmz hzm' (fun x hx => ev_more ((HOK.out x hx).below HB1.out (Nat.le_refl _)) HB1.out.size)).mono ?_)
  rintro e w2 ⟨rfl, hb⟩
  rw [HL.out]
  have HB2 : Hid (Below w.heap.size w w2) := HB1.out.trans (hb.mono HB1.out.size)
  clear hb
  go_wp2_with (fail)
  (with_reducible refine (awake51_any w2).mono ?_)
  rintro e w3 ⟨rfl, hb⟩
  have HB3 : Hid (Below w.heap.size w w3) := HB2.out.trans (hb.mono HB2.out.size)
  clear hb
  go_wp2
  go_ret
  exact ⟨rfl, HB3.out⟩

set_option maxRecDepth 100000 in
set_option maxHeartbeats 16000000 in
theorem steps_main (b p f c n : Int) (A : Option Addr) (m z : Nat) (l : List Ev) (w : World) (hA : Rd w w.heap.size A (ecells l)) (hm : l.length = m) (hmz : m ≤ z) (hzm : z ≤ maxLen) (hok : ∀ x ∈ l, x.ok w w.heap.size) (hl : largeE l = false) :
    Calls Try.prog 13 #[.agg #[.int .i64 b, .int .i64 p, .int .i64 f, .int .i64 c], .int .i64 n, .slice A m z] w fun e w' => e = .returned (.bool true) ∧ Below w.heap.size w w' := by
  have g1 := ne_nil
  have g2 := ne_err
  have g3 := eq_nil
  have g4 := eq_err
  have h200 : m ≤ 200 := by
    unfold largeE at hl
    rw [decide_eq_false_iff_not] at hl
    omega
  have HA := Lib.hid hA
  have HM := Lib.hid hm
  have HOK := Lib.hid hok
  have HL := Lib.hid hl
  obtain ⟨P, hP⟩ : ∃ K : Nat, clipI p 1 8 = K := ⟨(clipI p 1 8).toNat, by unfold clipI; omega⟩
  obtain ⟨B, hB⟩ : ∃ K : Nat, clipI b 2 6 = K := ⟨(clipI b 2 6).toNat, by unfold clipI; omega⟩
  obtain ⟨F, hF⟩ : ∃ K : Nat, clipI f 0 ((B : Int) - 2) = K := ⟨(clipI f 0 ((B : Int) - 2)).toNat, by unfold clipI; unfold clipI at hB; omega⟩
  obtain ⟨C, hC⟩ : ∃ K : Nat, clipI c 2 ((B : Int) - (F : Int)) = K := ⟨(clipI c 2 ((B : Int) - (F : Int))).toNat, by unfold clipI; unfold clipI at hB hF; omega⟩
  obtain ⟨N, hN⟩ : ∃ K : Nat, clipI n 1 20 = K := ⟨(clipI n 1 20).toNat, by unfold clipI; omega⟩
  have hB26 : 2 ≤ B ∧ B ≤ 6 := by unfold clipI at hB; omega
  have hP18 : 1 ≤ P ∧ P ≤ 8 := by unfold clipI at hP; omega
  have hFC : 2 ≤ C ∧ F + C ≤ B := by unfold clipI at hF hC; omega
  have hN20 : 1 ≤ N ∧ N ≤ 20 := by unfold clipI at hN; omega
  have HP := Lib.hid hP
  have HBB := Lib.hid hB
  have HF := Lib.hid hF
  have HC := Lib.hid hC
  have HN := Lib.hid hN
  obtain ⟨V, hV⟩ : ∃ V, w.alloc (.cells #[.int .i64 b, .int .i64 p, .int .i64 f, .int .i64 c] 82) = V := ⟨_, rfl⟩
  have HBV : Hid (Below w.heap.size w V) := by rw [← hV]; exact (Below.refl _ _).alloc (Nat.le_refl _) _
  have HCV : Hid (four V w.heap.size (.int .i64 b) (.int .i64 p) (.int .i64 f) (.int .i64 c)) := by rw [← hV]; exact four_new _ _ _ _ _ _ _ rfl
  have hgV : w.heap.size < V.heap.size := HCV.out.lt
  clear hA hm hok hl hP hB hF hC hN
  have hzm' := hzm
  unfold maxLen at hzm
  go_enter Try.func13, Try.ntmps13
  go_wp2_with (fail)
  try rw [hV]
  clear hV
  (with_reducible refine (awake51_any V).mono ?_)
  rintro e w1 ⟨rfl, hb⟩
  have HB1 : Hid (Below w.heap.size w w1) := HBV.out.trans (hb.mono HBV.out.size)
  have HC1 := Lib.hid (HCV.out.below hb hgV)
  have hg1 := HC1.out.lt
  clear hb hgV
  go_wp2_with (fail)
  (with_reducible refine (large51_any A m z l w1 ((HA.out.below HB1.out (Nat.le_refl _)).more HB1.out.size) HM.out hmz hzm' (fun x hx => ev_more ((HOK.out x hx).below HB1.out (Nat.le_refl _)) HB1.out.size)).mono ?_)
  rintro e w2 ⟨rfl, hb⟩
  rw [HL.out]
  have HB2 : Hid (Below w.heap.size w w2) := HB1.out.trans (hb.mono HB1.out.size)
  have HC2 := Lib.hid (HC1.out.below hb hg1)
  have hg2 := HC2.out.lt
  obtain ⟨d0, d1, d2, d3, _⟩ := HC2.out
  clear hb hg1
  go_wp2_with (fail)
  clear d0 d1 d2 d3
  (with_reducible refine (fit_any b p f c B P F C HP.out HBB.out HF.out HC.out w2).mono ?_)
  rintro e w3 ⟨rfl, hb⟩
  have HB3 : Hid (Below w.heap.size w w3) := HB2.out.trans (hb.mono HB2.out.size)
  have HC3 := Lib.hid (HC2.out.below hb hg2)
  have hg3 := HC3.out.lt
  obtain ⟨V3, hV3⟩ : ∃ V, put4 w3 w.heap.size (.int .i64 B) (.int .i64 P) (.int .i64 F) (.int .i64 C) = V := ⟨_, rfl⟩
  have HBV3 : Hid (Below w.heap.size w V3) := by rw [← hV3]; exact below_put4 HB3.out (Nat.le_refl _) _ _ _ _
  have HCV3 : Hid (four V3 w.heap.size (.int .i64 B) (.int .i64 P) (.int .i64 F) (.int .i64 C)) := by rw [← hV3]; exact HC3.out.put _ _ _ _
  have hgV3 := HCV3.out.lt
  unfold put4 at hV3
  obtain ⟨d0, d1, d2, d3, dz⟩ := HC3.out
  have e0 := dz 0
  have e1 := dz 1
  have e2 := dz 2
  have e3 := dz 3
  clear hb hg2 dz
  go_wp2_with (fail)
  clear d0 d1 d2 d3 e0 e1 e2 e3
  try rw [hV3]
  clear hV3
  (with_reducible refine (sure_any n N HN.out V3).mono ?_)
  rintro e w4 ⟨A4, c4, rfl, ho, hb⟩
  have HB4 : Hid (Below w.heap.size w w4) := HBV3.out.trans (hb.mono HBV3.out.size)
  have HC4 := Lib.hid (HCV3.out.below hb hgV3)
  have hg4 := HC4.out.lt
  have HSP : Hid (Rd w4 w4.heap.size A4 (pcells (sureP N)) ∧ N ≤ c4 ∧ c4 ≤ maxLen) := by
    obtain ⟨A', c', e, h1, h2, h3⟩ := own_read ho
    injection e with e1 e2 e3
    subst e1
    subst e3
    exact ⟨h3, h1, h2⟩
  have hspm : c4 ≤ 9223372036854775807 := by have := HSP.out.2.2; unfold maxLen at this; omega
  have hspn : N ≤ c4 := HSP.out.2.1
  obtain ⟨d0, d1, d2, d3, _⟩ := HC4.out
  clear hb hgV3 ho
  go_wp2_with (fail)
  clear d0 d1 d2 d3
  (with_reducible refine (new_ok B P w4 (by omega) (by omega) (by omega) (by omega)).mono ?_)
  rintro e w5 ⟨L, rfl, hF⟩
  have HFL := Lib.hid hF
  have HBL5 : Hid (Below w.heap.size w w5) := HB4.out.trans (hF.below.mono HB4.out.size)
  have hLD : w4.heap.size ≤ L.d := hF.bd
  have HC5 := Lib.hid (HC4.out.below hF.below hg4)
  obtain ⟨d0, d1, d2, d3, _⟩ := HC5.out
  have HSPL : Hid ((sureP N).length = N) := by unfold sureP; simp [Hid]
  clear hF
  by_cases hoe : openE (newF B P) F C (sureP N) = 0
  · go_wp2_with (fail)
    clear d0 d1 d2 d3
    (with_reducible refine (open_yes HFL.out F C A4 N c4 (sureP N) ((HSP.out.1.below HFL.out.below (Nat.le_refl _)).more HFL.out.below.size) HSPL.out HSP.out.2.1 HSP.out.2.2 (sureP_ok N) hoe).mono ?_)
    rintro e w6 ⟨S, rfl, hS, hb6, hD6, hG6⟩
    obtain ⟨hsv, hlv, hsd, _, hbu, _, _, hs1, hs2, hs3⟩ := Surv.first (f := newF B P) (fi := F) (bl := C) (sp := sureP N) (newF_ok (by omega) (by omega) (by omega) (by omega)) (fun x hx => newF_blank (by simpa [newF] using hx)) (sureP_ok N) hoe
    have HS6 := Lib.hid hS
    have HO6 := Lib.hid hsv.ok
    have HSV6 := Lib.hid hsv
    have HSE6 := Lib.hid (And.intro hs1 (And.intro hs2 hs3))
    have HLV6 := Lib.hid hlv
    have HBU6 := Lib.hid hbu
    clear hS hb6 hD6 hG6 hsv hlv hbu hsd hs1 hs2 hs3
    go_wp2
    have HI6 : Hid (StI w4 w6 L S N B P false) := ⟨S, _, _, rfl, rfl, HS6.out, HLV6.out, newF_calm B P, HBU6.out, HSE6.out.1, rfl, by unfold newF; simp⟩
    go_loopw [61] (fun i wr => ∃ k : Nat, k ≤ m ∧ i = .int .i64 k ∧ StI w4 wr L S N B P false) (fun i _ => m - (intOf i).toNat)
    case atStart => exact ⟨0, by omega, rfl, HI6.out⟩
    case round =>
      obtain ⟨k, hk, rfl, S8, f8, s8, hD8, hG8, hS, hL, hC8, hbu, hsp, hpg, hwl⟩ := hrel
      obtain ⟨wa, hwa⟩ : ∃ wa, wa = wr := ⟨_, rfl⟩
      subst hwa
      have HS8 := Lib.hid hS
      have HL8 := Lib.hid hL
      have HSE8 := Lib.hid (And.intro hC8 (And.intro hbu (And.intro hsp (And.intro hpg hwl))))
      have HD8 := Lib.hid (And.intro hD8 hG8)
      have HBr : Hid (Below w4.heap.size w4 wa) := hS.fl.below
      have HBw : Hid (Below w.heap.size w wa) := HB4.out.trans (HBr.out.mono HB4.out.size)
      clear hS hL hC8 hbu hsp hpg hwl hD8 hG8
      by_cases hlt : k < m
      · obtain ⟨x, hx⟩ := getElem?_of_lt (l := l) (k := k) (by rw [HM.out]; exact hlt)
        have HXO := Lib.hid (HOK.out x (List.mem_of_getElem? hx))
        obtain ⟨ba, off, rfl, hbl', c0, c1, c2, c3⟩ := (HA.out.below HBw.out (Nat.le_refl _)).ev hx
        obtain ⟨W, hW⟩ : ∃ V, wa.alloc (.cells #[.int .u8 x.k, .int .i64 x.a, .int .i64 x.b, .slice x.P x.q x.r] 92) = V := ⟨_, rfl⟩
        have HBW : Hid (Below wa.heap.size wa W) := by rw [← hW]; exact (Below.refl _ _).alloc (Nat.le_refl _) _
        have HCW : Hid (four W wa.heap.size (.int .u8 x.k) (.int .i64 x.a) (.int .i64 x.b) (.slice x.P x.q x.r)) := by rw [← hW]; exact four_new _ _ _ _ _ _ _ rfl
        have HSW := Lib.hid (HS8.out.later HBW.out)
        obtain ⟨d0, d1, d2, d3, _⟩ := HCW.out
        obtain ⟨y, hy⟩ : ∃ y, wrap64 (x.b + (k : Int)) = y := ⟨_, rfl⟩
        have hyi : I64 y := by rw [← hy]; unfold I64 wrap64; omega
        have HYI := Lib.hid hyi
        have HSET := Lib.hid (set_any (HSW.out.later (Below.drew (Below.refl _ _))) HL8.out.ok (clipI x.a 0 ((N : Int) - 1)) y)
        rw [HD8.out.1] at HSET
        have HCL := Lib.hid (fun w => clip_any x.a 0 ((N : Int) - 1) w)
        have hNI : (1 : Int) ≤ N := by omega
        have hN1 : 1 ≤ N := hN20.1
        have hN2 : N ≤ 20 := hN20.2
        have hNW : IntKind.i64.wrap ((N : Int) - 1) = (N : Int) - 1 := wrap_i64_small _ (by omega) (by omega)
        have hYW : IntKind.i64.wrap (x.b + (k : Int)) = y := by rw [← hy, IntKind.wrap_i64]; unfold wrap64; rfl
        clear hx hyi hy
        go_upto_region 14 with (fail)
        try rw [hW]
        clear hW c0 c1 c2 c3
        go_cut [] (fun wx => StI w4 wx L S N B P false)
        case first =>
          go_region_with (first
            | (go_at_call 24; with_reducible refine (HCL.out _).mono ?_; rintro e w5 ⟨rfl, rfl⟩)
            | (go_at_call 57; refine HSET.out.mono ?_; rintro e w9 ⟨rfl, hs9, ho9⟩))
          all_goals
            (try go_wp2_with fail)
            go_meet
            exact ⟨S8, f8, _, HD8.out.1, HD8.out.2, hs9, HL8.out.set HYI.out, HSE8.out.1, (setF_busy s8 _ _).trans HSE8.out.2.1, (setF_same s8 _ _).spec.trans HSE8.out.2.2.1, HSE8.out.2.2.2.1, HSE8.out.2.2.2.2⟩
        case rest =>
          obtain ⟨S9, f9, s9, hD9, hG9, hS9, hL9, hC9, hbu9, hsp9, hpg9, hwl9⟩ := hcut
          have HS9 := Lib.hid hS9
          have HL9 := Lib.hid hL9
          have HSE9 := Lib.hid (And.intro hC9 (And.intro hbu9 (And.intro hsp9 (And.intro hpg9 hwl9))))
          have HD9 := Lib.hid (And.intro hD9 hG9)
          have HBE := Lib.hid (begin_any hS9 hL9.ok)
          rw [hD9] at HBE
          clear hS9 hL9 hC9 hbu9 hsp9 hpg9 hwl9 hD9 hG9 d0 d1 d2 d3 hYW hNW
          go_wp2_with (fail)
          (with_reducible refine HBE.out.mono ?_)
          rintro e w10 ⟨rfl, ⟨S10, hd, hg, hs10⟩, ho10⟩
          have HS10 := Lib.hid hs10
          have HD10 : Hid (S10.D = S.D ∧ S10.G = S.G) := ⟨hd.trans HD9.out.1, hg.trans HD9.out.2⟩
          have HSM := Lib.hid (beginS_same s9 f9)
          have HL10 := Lib.hid HL9.out.begin
          clear hs10 ho10 hd hg
          by_cases he : beginE s9 f9 = 0
          · have HBU := Lib.hid (begin_fields he).1
            have HLE := Lib.hid (begin_left HL9.out.ok he)
            rw [he, errV_zero]
            clear he
            go_wp2_with (fail)
            go_loopw [13] (fun i wx => ∃ j : Nat, i = .int .i64 j ∧ ∃ S' f s, S'.D = S.D ∧ S'.G = S.G ∧ StAt w4 wx L S' f s ∧ Live f s ∧ Calm f ∧ s.busy = true ∧ s.spec = sureP N ∧ f.pg = P ∧ f.wear.length = B ∧ leftS s + j ≤ 10) (fun i _ => 10 - (intOf i).toNat)
            case atStart => exact ⟨0, rfl, S10, f9, _, HD10.out.1, HD10.out.2, HS10.out, HL10.out, HSE9.out.1, HBU.out, HSM.out.spec.trans HSE9.out.2.2.1, HSE9.out.2.2.2.1, HSE9.out.2.2.2.2, HLE.out⟩
            case round =>
              obtain ⟨j, rfl, S1, f1, s1, hD1, hG1, hS1, hL1, hC1, hbu1, hsp1, hpg1, hwl1, hle1⟩ := hrel
              obtain ⟨wb, hwb⟩ : ∃ wb, wb = wr := ⟨_, rfl⟩
              subst hwb
              have hlp := left_pos hL1.ok hL1.br hbu1
              have hj9 : j ≤ 9 := by omega
              have hlf := left_step hL1.ok hL1.br hbu1
              have hst := step_chg hL1 hC1 hbu1
              have hsh := stepS_shape s1 f1
              have HS1 := Lib.hid hS1
              have HL1 := Lib.hid hL1
              have HSE1 := Lib.hid (And.intro hsp1 (And.intro hpg1 (And.intro hwl1 hle1)))
              have HD1 : Hid (S1.D = S.D ∧ S1.G = S.G) := ⟨hD1, hG1⟩
              have HIM := Lib.hid (image_any hS1.fl)
              have hn := hS1.fl.img_len
              have HLEN := Lib.hid hL1.fok.len
              obtain ⟨n, hnn⟩ : ∃ n, f1.img.length = n := ⟨_, rfl⟩
              rw [hnn] at hn
              rw [hnn] at HIM
              have HNN := Lib.hid hnn
              obtain ⟨⟨sN, fN, dn, er⟩, hq⟩ : ∃ q, stepS s1 f1 = q := ⟨_, rfl⟩
              have HQ := Lib.hid hq
              rw [hq] at hst hlf hsh
              simp only at hst hlf hsh
              obtain ⟨rfl, hlN, hcN, ⟨blk, hch⟩, hsm, hdb⟩ := hst
              have HLN := Lib.hid hlN
              have HCN := Lib.hid hcN
              have HCH := Lib.hid hch
              have HSMN := Lib.hid hsm
              have HDB := Lib.hid hdb
              have HLF : Hid (dn = false → leftS sN + 1 = leftS s1) := fun e => (hlf e rfl).1
              have HSHN := Lib.hid hsh
              clear hS1 hL1 hsp1 hpg1 hwl1 hle1 hD1 hG1 hC1 hbu1 hlp hq hlf hlN hcN hch hsm hdb hnn hsh
              go_wp2_with (fail)
              (with_reducible refine HIM.out.mono ?_)
              rintro e wI ⟨vI, rfl, hoI, hbI⟩
              obtain ⟨AI, cI, rfl, hI1, hI2, _⟩ := own_form hoI
              have HRX : Hid (RdX (Own L S1) wI AI (kcells .u8 f1.img)) := own_rdx hoI (fun b hb hx => by have := (hoI.lt b hb).1; have := HS1.out.own_lt b hx; omega)
              have HSI := Lib.hid (HS1.out.later hbI)
              have HSTE := Lib.hid (step_any HSI.out HL1.out.ok)
              rw [HD1.out.1, HQ.out] at HSTE
              unfold maxLen at hI2
              clear hoI hbI
              go_wp2_with (fail)
              (with_reducible refine HSTE.out.mono ?_)
              rintro e wS ⟨rfl, ⟨SN, hd, hg, hsN⟩, hoN⟩
              simp only [errV_zero]
              have HSN : Hid (StAt w4 wS L SN fN sN) := hsN
              have HDN : Hid (SN.D = S.D ∧ SN.G = S.G) := ⟨hd.trans HD1.out.1, hg.trans HD1.out.2⟩
              have HRB := Lib.hid (HRX.out.onlyX hoN)
              have HIM2 := Lib.hid (image_any HSN.out.fl)
              rw [HCH.out.len, HNN.out] at HIM2
              clear hsN hoN hd hg
              go_wp2_with (fail)
              (with_reducible refine HIM2.out.mono ?_)
              rintro e wA ⟨vA, rfl, hoA, hbA⟩
              obtain ⟨AA, cA, rfl, hA1, hA2, hAr⟩ := own_read hoA
              have HR1 := Lib.hid hAr
              have HR0 := Lib.hid (HRB.out.onlyX (OnlyX.of_below hbA)).rd
              have HSA := Lib.hid (HSN.out.later hbA)
              have HCA := Lib.hid (HC4.out.below HSA.out.fl.below hg4)
              have HGA : Hid (w.heap.size < wA.heap.size) := HCA.out.lt
              have hneq : ((n : Int) != (n : Int)) = false := by simp
              unfold maxLen at hA2
              clear hoA hbA hAr
              go_wp2_with (fail)
              go_loopw [18, 19, 20, 107] (fun a b c i wx => ∃ q : Nat, q ≤ n ∧ i = .int .i64 q ∧ ScC f1 fN blk a b c ∧ Below wA.heap.size wA wx) (fun _ _ _ i _ => n - (intOf i).toNat)
              case atStart => exact ⟨0, by omega, rfl, .inl ⟨rfl, rfl, rfl⟩, Below.refl _ _⟩
              case round =>
                obtain ⟨q, hq, rfl, hsc, hBq⟩ := hrel
                have HSC := Lib.hid hsc
                have HBQ := Lib.hid hBq
                clear hsc hBq
                by_cases hltq : q < n
                · obtain ⟨x1, hx1⟩ := getElem?_of_lt (l := fN.img) (k := q) (by rw [HCH.out.len, HNN.out]; exact hltq)
                  obtain ⟨x0, hx0⟩ := getElem?_of_lt (l := f1.img) (k := q) (by rw [HNN.out]; exact hltq)
                  obtain ⟨b1, o1, rfl, _, c1⟩ := (HR1.out.below HBQ.out (Nat.le_refl _)).kint hx1
                  obtain ⟨b0, o0, rfl, _, c0⟩ := (HR0.out.below HBQ.out (Nat.le_refl _)).kint hx0
                  by_cases hxy : x1 = x0
                  · have hxy' : (x1 == x0) = true := by simpa using hxy
                    have HSC9 := HSC
                    clear hx1 hx0 hxy
                    go_wp2
                    go_quiet (fail)
                    go_wp2
                    go_roundw
                    case rel => exact ⟨q + 1, by omega, by go_num, HSC9.out, Below.drewN HBQ.out _⟩
                    case measure => simp [intOf]; omega
                  · have hxy' : (x1 == x0) = false := by simpa using hxy
                    have hchg : fN.img[q]? ≠ f1.img[q]? := by rw [hx1, hx0]; simpa using hxy
                    have HN1 := Lib.hid (ScC.one HCH.out hchg)
                    have HN2 := Lib.hid (fun (Q : Nat) (u : Bool) h => ScC.two (Q := Q) (u := u) HCH.out hchg h)
                    have hblk : q / 64 / P = blk := by have := HCH.out.at_ q hchg; rwa [HSE1.out.2.1] at this
                    have d1 := (HBQ.out.cell (p := ⟨w.heap.size, 1, none⟩) HGA.out).trans HCA.out.2.1
                    have q1 : (q : Int) / 64 = ((q / 64 : Nat) : Int) := by push_cast; rfl
                    have q2 : (q : Int).tdiv 64 = ((q / 64 : Nat) : Int) := by rw [Int.tdiv_eq_ediv_of_nonneg (by omega)]; exact q1
                    have q5 : ((q / 64 : Nat) : Int) / (P : Int) = (blk : Int) := by rw [← hblk]; push_cast; rfl
                    have q6 : ((q / 64 : Nat) : Int).tdiv (P : Int) = (blk : Int) := by rw [Int.tdiv_eq_ediv_of_nonneg (by omega)]; exact q5
                    have hT : q / 64 ≤ 1024 := by omega
                    have hb9 : blk ≤ 1024 := by rw [← hblk]; exact Nat.le_trans (Nat.div_le_self _ _) hT
                    have hP1 : 1 ≤ P := hP18.1
                    clear hx1 hx0 hxy hchg hblk
                    generalize q / 64 = T at *
                    rcases HSC.out with ⟨rfl, rfl, rfl⟩ | ⟨Q, u, rfl, rfl, rfl, hQ⟩
                    · have HSC9 := HN1
                      go_wp2
                      go_quiet (fail)
                      go_wp2
                      go_roundw
                      case rel => exact ⟨q + 1, by omega, by go_num, HSC9.out, Below.drewN HBQ.out _⟩
                      case measure => simp [intOf]; omega
                    · by_cases hQT : Q = T
                      · subst hQT
                        have HSC9 := Lib.hid ((HN2.out Q u hQ).1 rfl)
                        have hqt : ((Q : Int) != (Q : Int)) = false := by simp
                        go_wp2
                        go_quiet (fail)
                        go_wp2
                        go_roundw
                        case rel => exact ⟨q + 1, by omega, by go_num, HSC9.out, Below.drewN HBQ.out _⟩
                        case measure => simp [intOf]; omega
                      · have HSC9 := Lib.hid ((HN2.out Q u hQ).2 hQT)
                        have hqt : ((Q : Int) != (T : Int)) = true := by simp; omega
                        go_wp2
                        go_quiet (fail)
                        go_wp2
                        go_roundw
                        case rel => exact ⟨q + 1, by omega, by go_num, HSC9.out, Below.drewN HBQ.out _⟩
                        case measure => simp [intOf]; omega
                · obtain rfl : q = n := by omega
                  rcases HSC.out with ⟨rfl, rfl, rfl⟩ | ⟨Q, u, rfl, rfl, rfl, _, hon⟩
                  · skip
                    rcases HDB.out with ⟨rfl, hbb⟩ | ⟨rfl, hbb⟩
                    · have HBB := Lib.hid hbb
                      clear hbb
                      go_wp2_with (fail)
                      go_roundw
                      case rel => exact ⟨k + 1, by omega, by go_num, SN, fN, sN, HDN.out.1, HDN.out.2, HSA.out.later HBQ.out, HLN.out, HCN.out, HBB.out, HSMN.out.spec.trans HSE1.out.1, HSHN.out.p.trans HSE1.out.2.1, HSHN.out.w.trans HSE1.out.2.2.1⟩
                      case measure => simp [intOf]; omega
                    · have HBB := Lib.hid hbb
                      clear hbb
                      go_wp2_with (fail)
                      go_roundw
                      case rel => exact ⟨j + 1, by go_num, SN, fN, sN, HDN.out.1, HDN.out.2, HSA.out.later HBQ.out, HLN.out, HCN.out, HBB.out, HSMN.out.spec.trans HSE1.out.1, HSHN.out.p.trans HSE1.out.2.1, HSHN.out.w.trans HSE1.out.2.2.1, by have := HLF.out rfl; have := HSE1.out.2.2.2; omega⟩
                      case measure => simp [intOf]; omega
                  · cases u
                    · have HON := Lib.hid (hon rfl)
                      clear hon
                      obtain ⟨M, hM⟩ : ∃ M, 64 * P = M := ⟨_, rfl⟩
                      obtain ⟨LO, hLO⟩ : ∃ LO, M * blk = LO := ⟨_, rfl⟩
                      have hb1 := HCH.out.lt
                      rw [HSE1.out.2.2.1] at hb1
                      have hbn : LO + M ≤ q := by
                        have h2 := HLEN.out
                        rw [HNN.out, HSE1.out.2.1, HSE1.out.2.2.1] at h2
                        have h3 : M * (blk + 1) ≤ M * B := Nat.mul_le_mul_left _ hb1
                        rw [Nat.mul_add, Nat.mul_one] at h3
                        have h4 : B * P * 64 = M * B := by rw [← hM, Nat.mul_comm B P, Nat.mul_comm (P * _) 64, Nat.mul_assoc]
                        omega
                      have hM1 : 64 ≤ M := by omega
                      have HON2 : Hid (∀ t, t < M → fN.img[LO + t]? = some 255) := fun t ht => by
                        refine HON.out (LO + t) ?_ ?_
                        · rw [HSE1.out.2.1, hM, hLO]; omega
                        · rw [HSE1.out.2.1, hM, Nat.mul_add, hLO]; omega
                      obtain ⟨b1, o1, rfl, hb1lt, _⟩ := (HR1.out.below HBQ.out (Nat.le_refl _)).kint (HON2.out 0 (by omega))
                      have HB1L := Lib.hid hb1lt
                      have d1 := (HBQ.out.cell (p := ⟨w.heap.size, 1, none⟩) HGA.out).trans HCA.out.2.1
                      obtain ⟨BB, hBB⟩ : ∃ BB, blk + 1 = BB := ⟨_, rfl⟩
                      obtain ⟨HI, hHI⟩ : ∃ HI, LO + M = HI := ⟨_, rfl⟩
                      have w1 : IntKind.i64.wrap (64 * (P : Int)) = (M : Int) := by
                        have e : 64 * (P : Int) = (M : Int) := by rw [← hM]; push_cast; rfl
                        rw [e]
                        exact wrap_i64_small _ (by omega) (by omega)
                      have w2 : IntKind.i64.wrap ((M : Int) * (blk : Int)) = (LO : Int) := by
                        have e : (M : Int) * (blk : Int) = (LO : Int) := by rw [← hLO]; push_cast; rfl
                        rw [e]
                        exact wrap_i64_small _ (by omega) (by omega)
                      have w3 : IntKind.i64.wrap ((blk : Int) + 1) = (BB : Int) := by
                        have e : (blk : Int) + 1 = (BB : Int) := by rw [← hBB]; push_cast; rfl
                        rw [e]
                        exact wrap_i64_small _ (by omega) (by omega)
                      have w4 : IntKind.i64.wrap ((M : Int) * (BB : Int)) = (HI : Int) := by
                        have e : (M : Int) * (BB : Int) = (HI : Int) := by rw [← hHI, ← hBB, ← hLO]; push_cast; rw [Int.mul_add, Int.mul_one]
                        rw [e]
                        exact wrap_i64_small _ (by omega) (by omega)
                      have hsub : HI - LO = M := by omega
                      have hHA : HI ≤ cA := by omega
                      have hLH : LO ≤ HI := by omega
                      have hHA' : (HI : Int) ≤ (cA : Int) := by omega
                      have hLH' : (LO : Int) ≤ (HI : Int) := by omega
                      go_wp2_with (fail)
                      go_loopw [160] (fun i wx => ∃ t : Nat, t ≤ M ∧ i = .int .i64 t ∧ Below wA.heap.size wA wx) (fun i _ => M - (intOf i).toNat)
                      case atStart => exact ⟨0, by omega, rfl, HBQ.out⟩
                      case round =>
                        obtain ⟨t, ht, rfl, hBt⟩ := hrel
                        have HBT := Lib.hid hBt
                        clear hBt
                        by_cases hltt : t < M
                        · obtain ⟨b9, o9, e9, _, cc⟩ := (HR1.out.below HBT.out (Nat.le_refl _)).kint (HON2.out t hltt)
                          injection e9 with e9
                          injection e9 with e1 e2 _
                          subst e1 e2
                          rw [← Nat.add_assoc] at cc
                          go_wp2_with (fail)
                          go_roundw
                          case rel => exact ⟨t + 1, by omega, by go_num, HBT.out⟩
                          case measure => simp [intOf]; omega
                        · skip
                          rcases HDB.out with ⟨rfl, hbb⟩ | ⟨rfl, hbb⟩
                          · have HBB := Lib.hid hbb
                            clear hbb
                            go_wp2_with (fail)
                            go_roundw
                            case rel => exact ⟨k + 1, by omega, by go_num, SN, fN, sN, HDN.out.1, HDN.out.2, HSA.out.later HBT.out, HLN.out, HCN.out, HBB.out, HSMN.out.spec.trans HSE1.out.1, HSHN.out.p.trans HSE1.out.2.1, HSHN.out.w.trans HSE1.out.2.2.1⟩
                            case measure => simp [intOf]; omega
                          · have HBB := Lib.hid hbb
                            clear hbb
                            go_wp2_with (fail)
                            go_roundw
                            case rel => exact ⟨j + 1, by go_num, SN, fN, sN, HDN.out.1, HDN.out.2, HSA.out.later HBT.out, HLN.out, HCN.out, HBB.out, HSMN.out.spec.trans HSE1.out.1, HSHN.out.p.trans HSE1.out.2.1, HSHN.out.w.trans HSE1.out.2.2.1, by have := HLF.out rfl; have := HSE1.out.2.2.2; omega⟩
                            case measure => simp [intOf]; omega
                    · clear hon
                      rcases HDB.out with ⟨rfl, hbb⟩ | ⟨rfl, hbb⟩
                      · have HBB := Lib.hid hbb
                        clear hbb
                        go_wp2_with (fail)
                        go_roundw
                        case rel => exact ⟨k + 1, by omega, by go_num, SN, fN, sN, HDN.out.1, HDN.out.2, HSA.out.later HBQ.out, HLN.out, HCN.out, HBB.out, HSMN.out.spec.trans HSE1.out.1, HSHN.out.p.trans HSE1.out.2.1, HSHN.out.w.trans HSE1.out.2.2.1⟩
                        case measure => simp [intOf]; omega
                      · have HBB := Lib.hid hbb
                        clear hbb
                        go_wp2_with (fail)
                        go_roundw
                        case rel => exact ⟨j + 1, by go_num, SN, fN, sN, HDN.out.1, HDN.out.2, HSA.out.later HBQ.out, HLN.out, HCN.out, HBB.out, HSMN.out.spec.trans HSE1.out.1, HSHN.out.p.trans HSE1.out.2.1, HSHN.out.w.trans HSE1.out.2.2.1, by have := HLF.out rfl; have := HSE1.out.2.2.2; omega⟩
                        case measure => simp [intOf]; omega
          · rw [errV_ne he]
            have HNO := Lib.hid (HL9.out.begin_no he)
            clear he
            go_wp2_with (fail)
            go_roundw
            case rel => exact ⟨k + 1, by omega, by go_num, S10, f9, _, HD10.out.1, HD10.out.2, HS10.out, HL10.out, HSE9.out.1, by rw [HNO.out]; exact HSE9.out.2.1, HSM.out.spec.trans HSE9.out.2.2.1, HSE9.out.2.2.2.1, HSE9.out.2.2.2.2⟩
            case measure => simp [intOf]; omega
      · go_wp2
        go_ret
        exact ⟨rfl, HBw.out⟩
  · have HE := Lib.hid (open_long (P := P) hB26.1 hFC.1 hFC.2 hB26.2 hN20.1 hN20.2 hoe)
    have HOE := Lib.hid (errV_ne hoe)
    go_wp2_with (fail)
    clear d0 d1 d2 d3
    (with_reducible refine (open_no HFL.out F C (by unfold I64; omega) (by unfold I64; omega) A4 N c4 (sureP N) ((HSP.out.1.below HFL.out.below (Nat.le_refl _)).more HFL.out.below.size) HSPL.out HSP.out.2.1 HSP.out.2.2 (sureP_ok N) hoe).mono ?_)
    rintro e w6 ⟨rfl, hb⟩
    rw [HOE.out, HE.out]
    have HB6 : Hid (Below w.heap.size w w6) := HBL5.out.trans (hb.mono HBL5.out.size)
    clear hb
    go_wp2_with (fail)
    (with_reducible refine (is_err 11 11 _).mono ?_)
    rintro e w7 ⟨rfl, rfl⟩
    go_wp2
    go_ret
    exact ⟨rfl, HB6.out⟩
end Go.Proofs.Ytfeceamhlphelaa
