/-
  ParamsRanges.
-/
import Derived.Test.YtfeceamhlphelaaW55
import Derived.Test.YtfeceamhlphelaaPlainN
namespace Go.Proofs.Ytfeceamhlphelaa
open Go.RowKit
set_option linter.unusedVariables false
set_option linter.unusedSimpArgs false

theorem min3_run {P : Program} (w : World) (ts : Array TypeId) (t : TypeId) (k : IntKind) (x y z : Int) : (Builtin.min_ ts t #[.int k x, .int k y, .int k z]).run P w = .ok (.int k (min (min x y) z)) w := by
  have e : (if y < x then y else x) = min x y := by
    rw [Int.min_def]
    split <;> split <;> omega
  have e2 : (if z < min x y then z else min x y) = min (min x y) z := by
    rw [Int.min_def (min x y) z]
    split <;> split <;> omega
  simp [Builtin.min_, Builtin.min2, e, e2]
theorem Rd.par9 {w : World} {A : Option Addr} {l : List Par} (h : Rd w w.heap.size A (pcells l)) {k : Nat} {p : Par} (hp : l[k]? = some p) :
    ∃ b off, A = some ⟨b, off, none⟩ ∧ w.cell? ⟨b, off + k * 3, none⟩ = some (.int .i64 p.lo) ∧ w.cell? ⟨b, off + k * 3 + 1, none⟩ = some (.int .i64 p.hi) ∧ w.cell? ⟨b, off + k * 3 + 2, none⟩ = some (.int .i64 p.df) := by
  have key : ∀ j u, p.cells[j]? = some u → (pcells l)[k * 3 + j]? = some u := fun j u hu => flat_get Par.cells 3 (fun _ => rfl) l k j p u hp hu
  obtain ⟨b, off, e, hlt, hc⟩ := h (by
    intro e
    have := key 0 _ rfl
    rw [e] at this
    simp at this)
  exact ⟨b, off, e, hc _ _ (key 0 _ rfl), hc _ _ (key 1 _ rfl), hc _ _ (key 2 _ rfl)⟩
set_option maxRecDepth 100000 in
theorem ranges_none (A : Option Addr) (n c : Nat) (B : Option Addr) (m z : Nat) (w : World) (hn : n ≤ maxLen) (hm : m ≤ maxLen) (h0 : n = 0 ∨ m = 0) :
    Calls Try.prog 14 #[.slice A n c, .slice B m z] w fun e w' => e = .returned (.bool true) ∧ Below w.heap.size w w' := by
  unfold maxLen at hn hm
  have e1 : min (min (n : Int) (m : Int)) 12 = 0 := by omega
  have e2 : ∀ (ts : Array TypeId) (t : TypeId) (w : World), (Builtin.min_ ts t #[.int .i64 n, .int .i64 m, .int .i64 12]).run Try.prog w = .ok (.int .i64 0) w := fun ts t w => by rw [min3_run, e1]
  clear h0 e1
  go_enter Try.func14, Try.ntmps14
  go_wp2_with (fail)
  (with_reducible refine (awake51_any w).mono ?_)
  rintro e w1 ⟨rfl, hb⟩
  have HB1 := Lib.hid hb
  clear hb
  go_wp2_with (fail)
  (with_reducible refine (awake51_any w1).mono ?_)
  rintro e w2 ⟨rfl, hb⟩
  have HB2 : Hid (Below w.heap.size w w2) := HB1.out.trans (hb.mono HB1.out.size)
  clear hb
  go_wp2
  go_ret
  exact ⟨rfl, HB2.out⟩

set_option maxRecDepth 100000 in
set_option maxHeartbeats 16000000 in
theorem ranges_main (A : Option Addr) (n c : Nat) (vals : List Int) (B : Option Addr) (m z : Nat) (sp : List Par) (w : World)
    (hA : Rd w w.heap.size A (icells vals)) (hn : vals.length = n) (hnc : n ≤ c) (hcm : c ≤ maxLen) (hv : ∀ x ∈ vals, I64 x)
    (hB : Rd w w.heap.size B (pcells sp)) (hm : sp.length = m) (hmz : m ≤ z) (hzm : z ≤ maxLen) (hok : ∀ p ∈ sp, p.ok) (hn0 : n ≠ 0) (hm0 : m ≠ 0) :
    Calls Try.prog 14 #[.slice A n c, .slice B m z] w fun e w' => e = .returned (.bool true) ∧ Below w.heap.size w w' := by
  have g1 := ne_nil
  have g2 := ne_err
  have g3 := eq_nil
  have g4 := eq_err
  obtain ⟨N, hN⟩ : ∃ N : Nat, min (min (n : Int) (m : Int)) 12 = N := ⟨(min (min (n : Int) (m : Int)) 12).toNat, by omega⟩
  have e2 : ∀ (ts : Array TypeId) (t : TypeId) (w : World), (Builtin.min_ ts t #[.int .i64 n, .int .i64 m, .int .i64 12]).run Try.prog w = .ok (.int .i64 N) w := fun ts t w => by rw [min3_run, hN]
  have hN1 : 1 ≤ N := by omega
  have hN2 : N ≤ 12 := by omega
  have hNn : N ≤ n := by omega
  have hNm : N ≤ m := by omega
  have HA := Lib.hid hA
  have HNV := Lib.hid hn
  have HV := Lib.hid hv
  have HB := Lib.hid hB
  have HM := Lib.hid hm
  have HOK := Lib.hid hok
  have HCL : Hid (clipI N 1 20 = N) := by unfold clipI; rw [Hid]; omega
  have hzm' := hzm
  have h0 : ((N : Int) == 0) = false := by simp; omega
  clear hA hn hv hB hm hok hN
  unfold maxLen at hcm hzm
  go_enter Try.func14, Try.ntmps14
  go_wp2_with (fail)
  (with_reducible refine (awake51_any w).mono ?_)
  rintro e w1 ⟨rfl, hb⟩
  have HB1 := Lib.hid hb
  clear hb
  go_wp2_with (fail)
  (with_reducible refine (new_okI 2 4 2 4 rfl rfl w1 (by omega) (by omega) (by omega) (by omega)).mono ?_)
  rintro e w2 ⟨L, rfl, hF⟩
  have HF2 : Hid (FlAt w1 w2 L (newF 2 4)) := hF
  clear hF
  go_wp2_with (fail)
  (with_reducible refine (sure_any N N HCL.out w2).mono ?_)
  rintro e w3 ⟨A4, c4, rfl, ho, hb⟩
  have HSP : Hid (Rd w3 w3.heap.size A4 (pcells (sureP N)) ∧ N ≤ c4 ∧ c4 ≤ maxLen) := by
    obtain ⟨A', c', e, h1, h2, h3⟩ := own_read ho
    injection e with e1 e2 e3
    subst e1
    subst e3
    exact ⟨h3, h1, h2⟩
  have HF3 := Lib.hid (HF2.out.later hb)
  clear ho hb
  go_wp2_with (fail)
  (with_reducible refine (open_yesI HF3.out 0 2 0 2 rfl rfl A4 N c4 (sureP N) HSP.out.1 (sureP_len N) HSP.out.2.1 HSP.out.2.2 (sureP_ok N) (rng_open0 hN1 hN2)).mono ?_)
  rintro e w4 ⟨S, rfl, hS, hb, hD, hG⟩
  have HS4 := Lib.hid hS
  have HR4 := Lib.hid (rng_first hN1 hN2)
  clear hS hb hD hG
  go_wp2
  go_loopw [9, 45] (fun b i wr => ∃ k : Nat, k ≤ N ∧ i = .int .i64 k ∧ b = .bool ((vals.take k).any (fun x => x != 0)) ∧ ∃ s, StAt w1 wr L S (newF 2 4) s ∧ Rng (newF 2 4) s N (vals.take k ++ List.replicate (N - k) 0)) (fun _ i _ => N - (intOf i).toNat)
  case atStart => exact ⟨0, Nat.zero_le _, rfl, by simp, _, HS4.out, by simpa using HR4.out⟩
  case round =>
    obtain ⟨k, hk, rfl, rfl, s5, hs5, hr5⟩ := hrel
    have HS5 := Lib.hid hs5
    have HR5 := Lib.hid hr5
    have HBw : Hid (Below w.heap.size w wr) := HB1.out.trans (hs5.fl.below.mono HB1.out.size)
    clear hs5 hr5
    by_cases hlt : k < N
    · obtain ⟨x, hx⟩ := getElem?_of_lt (l := vals) (k := k) (by rw [HNV.out]; omega)
      obtain ⟨ba, off, rfl, hbl, c0⟩ := (HA.out.below HBw.out (Nat.le_refl _)).int hx
      have hxi : I64 x := HV.out x (List.mem_of_getElem? hx)
      obtain ⟨he, hr6⟩ := HR5.out.set hlt hxi
      have HSE := Lib.hid (set_any HS5.out HR5.out.live.ok (k : Int) x)
      rw [set_lay (by rw [HNV.out]; exact hNn) hlt hx] at hr6
      have HR6 := Lib.hid hr6
      have HAT := Lib.hid (any_take hx)
      have HE := Lib.hid he
      have HXK := Lib.hid hx
      clear hx he hr6
      go_wp2_with (fail)
      (with_reducible refine HSE.out.mono ?_)
      rintro e w6 ⟨he, hs6, ho6⟩
      rw [HE.out, errV_zero] at he
      subst he
      have HS6 := Lib.hid hs6
      have HBw6 : Hid (Below w.heap.size w w6) := HB1.out.trans (hs6.fl.below.mono HB1.out.size)
      obtain ⟨b', o', e', _, d0⟩ := (HA.out.below HBw6.out (Nat.le_refl _)).int HXK.out
      obtain ⟨rfl, rfl⟩ : ba = b' ∧ off = o' := by simpa using e'
      clear hs6 ho6 e'
      simp only
      by_cases hbk : (vals.take k).any (fun x => x != 0) = true
      · have HNX : Hid ((vals.take (k + 1)).any (fun x => x != 0) = true) := by rw [Hid, HAT.out, hbk]; rfl
        rw [hbk]
        clear hbk
        go_wp2
        go_roundw
        case rel => exact ⟨k + 1, by omega, by go_num, by rw [HNX.out], _, HS6.out, HR6.out⟩
        case measure => simp [intOf]; omega
      · have hbk' : (vals.take k).any (fun x => x != 0) = false := by simpa using hbk
        rw [hbk']
        by_cases hx0 : x = 0
        · have HNX : Hid ((vals.take (k + 1)).any (fun x => x != 0) = false) := by rw [Hid, HAT.out, hbk', hx0]; rfl
          clear hbk hbk'
          subst hx0
          go_wp2
          go_roundw
          case rel => exact ⟨k + 1, by omega, by go_num, by rw [HNX.out], _, HS6.out, HR6.out⟩
          case measure => simp [intOf]; omega
        · have HNX : Hid ((vals.take (k + 1)).any (fun x => x != 0) = true) := by rw [Hid, HAT.out, hbk']; simpa using hx0
          have hx1 : (x == 0) = false := by simpa using hx0
          have hx2 : (x != 0) = true := by simpa using hx0
          clear hbk hbk'
          go_wp2
          go_roundw
          case rel => exact ⟨k + 1, by omega, by go_num, by first | rw [HNX.out] | (rw [HNX.out]; simp [hx2]), _, HS6.out, HR6.out⟩
          case measure => simp [intOf]; omega
    · obtain rfl : N = k := by omega
      have HTL : Hid ((vals.take N).length = N) := by rw [Hid, List.length_take, HNV.out]; omega
      have hz0 := any_zero HTL.out
      have hrt : vals.take N ++ List.replicate (N - N) 0 = vals.take N := by rw [Nat.sub_self]; simp
      rw [hrt] at HR5
      have HCO := Lib.hid (commit_any HS5.out HR5.out.live.ok)
      obtain ⟨bb, ob, rfl⟩ : ∃ bb ob, B = some ⟨bb, ob, none⟩ := by
        obtain ⟨b', o', e, _⟩ := HB.out (by intro e; have := pcells_length sp; rw [e] at this; simp at this; have := HM.out; omega)
        exact ⟨b', o', e⟩
      have HSPT : Hid ((sp.take N).length = N) := by rw [Hid, List.length_take, HM.out]; omega
      have HOKT : Hid (∀ p ∈ sp.take N, p.ok) := fun p hp => HOK.out p (List.mem_of_mem_take hp)
      have HBT : Hid (Rd w w.heap.size (some ⟨bb, ob, none⟩) (pcells (sp.take N))) := by
        intro hne
        obtain ⟨b', o', e, hlt', hc⟩ := HB.out (by intro e; have := pcells_length sp; rw [e] at this; simp at this; have := HM.out; omega)
        refine ⟨b', o', e, hlt', fun j u hu => hc j u ?_⟩
        have : pcells sp = pcells (sp.take N) ++ pcells (sp.drop N) := by unfold pcells; rw [← List.flatMap_append, List.take_append_drop]
        rw [this, List.getElem?_append_left (List.getElem?_eq_some_iff.1 hu).1]
        exact hu
      clear hrt
      by_cases hbn : (vals.take N).any (fun x => x != 0) = true
      · have hcy := HR5.out.commit_yes (newF_calm 2 4) (fun e => by rw [hz0.2 e] at hbn; cases hbn)
        rw [hbn]
        have HK := Lib.hid hcy.2
        have HC0 := Lib.hid hcy.1
        clear hcy hz0 hbn
        go_wp2_with (fail)
        (with_reducible refine HCO.out.mono ?_)
        rintro e w7 ⟨he, ⟨S7, _, _, hs7⟩, ho7⟩
        rw [HC0.out, errV_zero] at he
        subst he
        obtain ⟨f7, hf7⟩ : ∃ f7, (commitS s5 (newF 2 4)).2.1 = f7 := ⟨_, rfl⟩
        rw [hf7] at hs7 HK
        have HF7 : Hid (FlAt w1 w7 L f7) := hs7.fl
        have HBw7 : Hid (Below w.heap.size w w7) := HB1.out.trans (hs7.fl.below.mono HB1.out.size)
        clear hs7 ho7 hf7 HCO HC0
        obtain ⟨hoe, hst, hsx⟩ := HK.out.open HSPT.out hN1 hN2
        have HST := Lib.hid hst
        have HSX := Lib.hid hsx
        clear hst hsx
        rcases hoe with hoe | hoe
        · have HOE := Lib.hid hoe
          have HOT := Lib.hid (openF_ok HOKT.out hoe)
          clear hoe
          go_wp2_with (fail)
          (with_reducible refine (open_yesI HF7.out 0 2 0 2 rfl rfl _ N z (sp.take N) ((HBT.out.below HBw7.out (Nat.le_refl _)).more HBw7.out.size) HSPT.out (Nat.le_trans hNm hmz) hzm' HOKT.out HOE.out).mono ?_)
          rintro e w8 ⟨S8, rfl, hS, hb, hD, hG⟩
          have HS8 := Lib.hid hS
          obtain ⟨T, hT⟩ : ∃ T, openF f7 0 2 (sp.take N) = T := ⟨_, rfl⟩
          have HTS : Hid (T.spec.length = N) := by rw [Hid, ← hT, HSX.out]; exact HSPT.out
          rw [hT] at HS8 HST HOT
          clear hS hb hD hG hT
          go_wp2
          go_loopw [90] (fun i wr => ∃ k : Nat, k ≤ N ∧ i = .int .i64 k ∧ StAt w1 wr L S8 f7 T) (fun i _ => N - (intOf i).toNat)
          case atStart => exact ⟨0, Nat.zero_le _, rfl, HS8.out⟩
          case round =>
            obtain ⟨k, hk, rfl, hs9⟩ := hrel
            have HS9 := Lib.hid hs9
            have HBw9 : Hid (Below w.heap.size w wr) := HB1.out.trans (hs9.fl.below.mono HB1.out.size)
            clear hs9
            by_cases hlt9 : k < N
            · obtain ⟨x, hx⟩ := getElem?_of_lt (l := vals) (k := k) (by rw [HNV.out]; omega)
              obtain ⟨ba, off, rfl, hbl, c0⟩ := (HA.out.below HBw9.out (Nat.le_refl _)).int hx
              obtain ⟨p, hp⟩ := getElem?_of_lt (l := sp.take N) (k := k) (by rw [HSPT.out]; exact hlt9)
              obtain ⟨b', o', e', d0, d1, d2⟩ := ((HBT.out.below HBw9.out (Nat.le_refl _)).more HBw9.out.size).par9 hp
              obtain ⟨rfl, rfl⟩ : bb = b' ∧ ob = o' := by simpa using e'
              have hbaW : ba < wr.heap.size := Nat.lt_of_lt_of_le hbl HBw9.out.size
              obtain ⟨W, hW⟩ : ∃ V, wr.alloc (.cells #[.int .i64 p.lo, .int .i64 p.hi, .int .i64 p.df] 99) = V := ⟨_, rfl⟩
              have HBW : Hid (Below wr.heap.size wr W) := by rw [← hW]; exact (Below.refl _ _).alloc (Nat.le_refl _) _
              have k0 : W.cell? ⟨wr.heap.size, 0, none⟩ = some (.int .i64 p.lo) := by rw [← hW]; exact cell_new_at _ _ _ _ _ _ rfl rfl
              have k1 : W.cell? ⟨wr.heap.size, 1, none⟩ = some (.int .i64 p.hi) := by rw [← hW]; exact cell_new_at _ _ _ _ _ _ rfl rfl
              have k2 : W.cell? ⟨wr.heap.size, 2, none⟩ = some (.int .i64 p.df) := by rw [← hW]; exact cell_new_at _ _ _ _ _ _ rfl rfl
              have c1 : W.cell? ⟨ba, off + k, none⟩ = some (.int .i64 x) := (HBW.out.cell (p := ⟨ba, off + k, none⟩) hbaW).trans c0
              have HSW := Lib.hid (HS9.out.later HBW.out)
              have HG := Lib.hid (get_any HSW.out HOT.out k)
              have HTV : Hid ((vals.take N)[k]? = some x) := by rw [Hid, List.getElem?_take, if_pos hlt9]; exact hx
              have hgf : getF T k = (legalP p x, 0) := by
                unfold getF
                rw [if_neg (by rw [HTS.out]; omega), Int.toNat_natCast, HST.out]
                unfold wantS legal
                rw [List.getElem?_zipWith, hp, HTV.out]
                rfl
              rw [hgf] at HG
              simp only [errV_zero] at HG
              clear hgf e'
              clear hx hp
              by_cases hlo : x < p.lo
              · have hlg : legalP p x = p.df := by unfold legalP; rw [if_neg (by unfold inPar; rw [decide_eq_true_eq]; omega)]
                rw [hlg] at HG
                clear hlg
                go_wp2_with (fail)
                try rw [hW]
                clear d0 d1 d2 hW c0
                (with_reducible refine HG.out.mono ?_)
                rintro e wt ⟨rfl, rfl⟩
                go_wp2
                go_roundw
                case rel => exact ⟨k + 1, by omega, by go_num, HSW.out⟩
                case measure => simp [intOf]; omega
              · by_cases hhi : p.hi < x
                · have hlg : legalP p x = p.df := by unfold legalP; rw [if_neg (by unfold inPar; rw [decide_eq_true_eq]; omega)]
                  rw [hlg] at HG
                  clear hlg
                  go_wp2_with (fail)
                  try rw [hW]
                  clear d0 d1 d2 hW c0
                  (with_reducible refine HG.out.mono ?_)
                  rintro e wt ⟨rfl, rfl⟩
                  go_wp2
                  go_roundw
                  case rel => exact ⟨k + 1, by omega, by go_num, HSW.out⟩
                  case measure => simp [intOf]; omega
                · have hlg : legalP p x = x := by unfold legalP; rw [if_pos (by unfold inPar; rw [decide_eq_true_eq]; omega)]
                  rw [hlg] at HG
                  clear hlg
                  go_wp2_with (fail)
                  try rw [hW]
                  clear d0 d1 d2 hW c0
                  (with_reducible refine HG.out.mono ?_)
                  rintro e wt ⟨rfl, rfl⟩
                  go_wp2
                  go_roundw
                  case rel => exact ⟨k + 1, by omega, by go_num, HSW.out⟩
                  case measure => simp [intOf]; omega
            · obtain rfl : N = k := by omega
              go_wp2
              go_ret
              exact ⟨rfl, HBw9.out⟩
        · have q1 := eqq_none
          have HER : Hid (errV (openE f7 ((0 : Nat) : Int) ((2 : Nat) : Int) (sp.take N)) = .iface 40 (.int .i64 3)) := by rw [Hid, hoe]; rfl
          have HNO : Hid (Calls Try.prog 56 #[.pointer (some ⟨L.d, 0, none⟩), .int .i64 0, .int .i64 2, .slice (some ⟨bb, ob, none⟩) N z] w7 fun e w' => e = .returned (.tuple #[.pointer none, errV (openE f7 ((0 : Nat) : Int) ((2 : Nat) : Int) (sp.take N))]) ∧ Below w7.heap.size w7 w') :=
            open_no HF7.out 0 2 (by unfold I64; omega) (by unfold I64; omega) _ N z (sp.take N) ((HBT.out.below HBw7.out (Nat.le_refl _)).more HBw7.out.size) HSPT.out (Nat.le_trans hNm hmz) hzm' HOKT.out (by show openE f7 ((0 : Nat) : Int) ((2 : Nat) : Int) (sp.take N) ≠ 0; rw [hoe]; decide)
          rw [HER.out] at HNO
          clear hoe
          go_wp2_with (fail)
          (with_reducible refine HNO.out.mono ?_)
          rintro e w8 ⟨rfl, hb⟩
          have HBw8 : Hid (Below w.heap.size w w8) := HBw7.out.trans (hb.mono HBw7.out.size)
          clear hb
          go_wp2_with (fail)
          (with_reducible refine (is_err 3 3 _).mono ?_)
          rintro e wt ⟨rfl, rfl⟩
          go_wp2
          go_ret
          exact ⟨rfl, HBw8.out⟩
      · have hbn' : (vals.take N).any (fun x => x != 0) = false := by simpa using hbn
        have hcy := HR5.out.commit_no (hz0.1 hbn')
        rw [hbn']
        have HK : Hid (Kept (commitS s5 (newF 2 4)).2.1 N none) := by rw [Hid, hcy.2.1]; exact hcy.2.2
        have HC0 := Lib.hid hcy.1
        clear hcy hz0 hbn hbn'
        go_wp2_with (fail)
        (with_reducible refine HCO.out.mono ?_)
        rintro e w7 ⟨he, ⟨S7, _, _, hs7⟩, ho7⟩
        rw [errV_ne HC0.out] at he
        subst he
        obtain ⟨f7, hf7⟩ : ∃ f7, (commitS s5 (newF 2 4)).2.1 = f7 := ⟨_, rfl⟩
        rw [hf7] at hs7 HK
        have HF7 : Hid (FlAt w1 w7 L f7) := hs7.fl
        have HBw7 : Hid (Below w.heap.size w w7) := HB1.out.trans (hs7.fl.below.mono HB1.out.size)
        clear hs7 ho7 hf7 HCO HC0
        obtain ⟨hoe, hst, hsx⟩ := HK.out.open HSPT.out hN1 hN2
        have HST := Lib.hid hst
        have HSX := Lib.hid hsx
        clear hst hsx
        rcases hoe with hoe | hoe
        · have HOE := Lib.hid hoe
          have HOT := Lib.hid (openF_ok HOKT.out hoe)
          clear hoe
          go_wp2_with (fail)
          (with_reducible refine (open_yesI HF7.out 0 2 0 2 rfl rfl _ N z (sp.take N) ((HBT.out.below HBw7.out (Nat.le_refl _)).more HBw7.out.size) HSPT.out (Nat.le_trans hNm hmz) hzm' HOKT.out HOE.out).mono ?_)
          rintro e w8 ⟨S8, rfl, hS, hb, hD, hG⟩
          have HS8 := Lib.hid hS
          obtain ⟨T, hT⟩ : ∃ T, openF f7 0 2 (sp.take N) = T := ⟨_, rfl⟩
          have HTS : Hid (T.spec.length = N) := by rw [Hid, ← hT, HSX.out]; exact HSPT.out
          rw [hT] at HS8 HST HOT
          clear hS hb hD hG hT
          go_wp2
          go_loopw [90] (fun i wr => ∃ k : Nat, k ≤ N ∧ i = .int .i64 k ∧ StAt w1 wr L S8 f7 T) (fun i _ => N - (intOf i).toNat)
          case atStart => exact ⟨0, Nat.zero_le _, rfl, HS8.out⟩
          case round =>
            obtain ⟨k, hk, rfl, hs9⟩ := hrel
            have HS9 := Lib.hid hs9
            have HBw9 : Hid (Below w.heap.size w wr) := HB1.out.trans (hs9.fl.below.mono HB1.out.size)
            clear hs9
            by_cases hlt9 : k < N
            · obtain ⟨x, hx⟩ := getElem?_of_lt (l := vals) (k := k) (by rw [HNV.out]; omega)
              obtain ⟨ba, off, rfl, hbl, c0⟩ := (HA.out.below HBw9.out (Nat.le_refl _)).int hx
              obtain ⟨p, hp⟩ := getElem?_of_lt (l := sp.take N) (k := k) (by rw [HSPT.out]; exact hlt9)
              obtain ⟨b', o', e', d0, d1, d2⟩ := ((HBT.out.below HBw9.out (Nat.le_refl _)).more HBw9.out.size).par9 hp
              obtain ⟨rfl, rfl⟩ : bb = b' ∧ ob = o' := by simpa using e'
              have hbaW : ba < wr.heap.size := Nat.lt_of_lt_of_le hbl HBw9.out.size
              obtain ⟨W, hW⟩ : ∃ V, wr.alloc (.cells #[.int .i64 p.lo, .int .i64 p.hi, .int .i64 p.df] 99) = V := ⟨_, rfl⟩
              have HBW : Hid (Below wr.heap.size wr W) := by rw [← hW]; exact (Below.refl _ _).alloc (Nat.le_refl _) _
              have k0 : W.cell? ⟨wr.heap.size, 0, none⟩ = some (.int .i64 p.lo) := by rw [← hW]; exact cell_new_at _ _ _ _ _ _ rfl rfl
              have k1 : W.cell? ⟨wr.heap.size, 1, none⟩ = some (.int .i64 p.hi) := by rw [← hW]; exact cell_new_at _ _ _ _ _ _ rfl rfl
              have k2 : W.cell? ⟨wr.heap.size, 2, none⟩ = some (.int .i64 p.df) := by rw [← hW]; exact cell_new_at _ _ _ _ _ _ rfl rfl
              have c1 : W.cell? ⟨ba, off + k, none⟩ = some (.int .i64 x) := (HBW.out.cell (p := ⟨ba, off + k, none⟩) hbaW).trans c0
              have HSW := Lib.hid (HS9.out.later HBW.out)
              have HG := Lib.hid (get_any HSW.out HOT.out k)
              have hgf : getF T k = (p.df, 0) := by
                unfold getF
                rw [if_neg (by rw [HTS.out]; omega), Int.toNat_natCast, HST.out]
                unfold wantS
                rw [List.getElem?_map, hp]
                rfl
              rw [hgf] at HG
              simp only [errV_zero] at HG
              clear hgf e'
              clear hx hp
              go_wp2_with (fail)
              try rw [hW]
              clear d0 d1 d2 hW c0
              (with_reducible refine HG.out.mono ?_)
              rintro e wt ⟨rfl, rfl⟩
              go_wp2
              go_roundw
              case rel => exact ⟨k + 1, by omega, by go_num, HSW.out⟩
              case measure => simp [intOf]; omega
            · obtain rfl : N = k := by omega
              go_wp2
              go_ret
              exact ⟨rfl, HBw9.out⟩
        · have q1 := eqq_none
          have HER : Hid (errV (openE f7 ((0 : Nat) : Int) ((2 : Nat) : Int) (sp.take N)) = .iface 40 (.int .i64 3)) := by rw [Hid, hoe]; rfl
          have HNO : Hid (Calls Try.prog 56 #[.pointer (some ⟨L.d, 0, none⟩), .int .i64 0, .int .i64 2, .slice (some ⟨bb, ob, none⟩) N z] w7 fun e w' => e = .returned (.tuple #[.pointer none, errV (openE f7 ((0 : Nat) : Int) ((2 : Nat) : Int) (sp.take N))]) ∧ Below w7.heap.size w7 w') :=
            open_no HF7.out 0 2 (by unfold I64; omega) (by unfold I64; omega) _ N z (sp.take N) ((HBT.out.below HBw7.out (Nat.le_refl _)).more HBw7.out.size) HSPT.out (Nat.le_trans hNm hmz) hzm' HOKT.out (by show openE f7 ((0 : Nat) : Int) ((2 : Nat) : Int) (sp.take N) ≠ 0; rw [hoe]; decide)
          rw [HER.out] at HNO
          clear hoe
          go_wp2_with (fail)
          (with_reducible refine HNO.out.mono ?_)
          rintro e w8 ⟨rfl, hb⟩
          have HBw8 : Hid (Below w.heap.size w w8) := HBw7.out.trans (hb.mono HBw7.out.size)
          clear hb
          go_wp2_with (fail)
          (with_reducible refine (is_err 3 3 _).mono ?_)
          rintro e wt ⟨rfl, rfl⟩
          go_wp2
          go_ret
          exact ⟨rfl, HBw8.out⟩
end Go.Proofs.Ytfeceamhlphelaa
