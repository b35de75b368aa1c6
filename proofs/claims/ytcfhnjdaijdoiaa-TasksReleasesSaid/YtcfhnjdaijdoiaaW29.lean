/-
  The statement TasksReleases, walked.
-/
import Derived.Test.YtcfhnjdaijdoiaaW24
import Derived.Test.YtcfhnjdaijdoiaaPlain17
namespace Go.Proofs.Ytcfhnjdaijdoiaa
open Go.RowKit
set_option linter.unusedVariables false

set_option maxRecDepth 100000 in
set_option maxHeartbeats 1000000 in
theorem trel_long (A : Option Addr) (n c : Nat) (a : Int) (w : World) (hn : n ≤ maxLen) (h40 : 40 < n) :
    Calls Try.prog 7 #[.slice A n c, .int .u16 a] w fun e w' => e = .returned (.bool true) ∧ Below w.heap.size w w' := by
  unfold maxLen at hn
  go_enter Try.func7, Try.ntmps7
  go_wp2_with (fail)
  refine (awake42 _).mono ?_
  rintro e w1 ⟨rfl, hb⟩
  have HB := Lib.hid hb
  clear hb
  go_wp2_with (fail)
  refine (awake42 _).mono ?_
  rintro e w3 ⟨rfl, hb⟩
  have HB3 : Hid (Below w.heap.size w w3) := HB.out.trans (hb.mono HB.out.size)
  clear hb
  go_wp2
  go_ret
  exact ⟨rfl, HB3.out⟩

set_option maxRecDepth 100000 in
set_option maxHeartbeats 1000000 in
theorem trel_bad (A : Option Addr) (n c : Nat) (a : Int) (l : List Tsk) (w : World) (hA : Rd w w.heap.size A (tcells l)) (hn : l.length = n) (hc : n ≤ c) (hcc : c ≤ maxLen) (h40 : n ≤ 40) (k : Int) (hk : check l = k) (hk0 : k ≠ 0) :
    Calls Try.prog 7 #[.slice A n c, .int .u16 a] w fun e w' => e = .returned (.bool true) ∧ Below w.heap.size w w' := by
  have HC : Hid (errV (check l) = .iface 47 (.int .i64 k)) := by rw [hk]; exact errV_ne hk0
  have h1 := ne_err
  have HA := Lib.hid hA
  have HN := Lib.hid hn
  clear hk hk0 hA hn
  go_enter Try.func7, Try.ntmps7
  go_wp2_with (fail)
  refine (awake42 _).mono ?_
  rintro e w1 ⟨rfl, hb⟩
  have HB := Lib.hid hb
  have hs := hb.size
  clear hb
  go_wp2_with (fail)
  (with_reducible refine (check_any A n c l _ ((HA.out.below HB.out (Nat.le_refl _)).more hs) HN.out hc hcc).mono ?_)
  rintro e w2 ⟨rfl, hb⟩
  rw [HC.out]
  have HB2 : Hid (Below w.heap.size w w2) := HB.out.trans (hb.mono hs)
  clear hb
  go_wp2_with (fail)
  refine (awake42 _).mono ?_
  rintro e w3 ⟨rfl, hb⟩
  have HB3 : Hid (Below w.heap.size w w3) := HB2.out.trans (hb.mono HB2.out.size)
  clear hb
  go_wp2
  go_ret
  exact ⟨rfl, HB3.out⟩

set_option maxRecDepth 100000 in
set_option maxHeartbeats 8000000 in
theorem trel_main (A : Option Addr) (n c : Nat) (a : Int) (l : List Tsk) (w : World) (hA : Rd w w.heap.size A (tcells l)) (hn : l.length = n) (hc : n ≤ c) (hcc : c ≤ maxLen) (hk : check l = 0) (ha : 0 ≤ a ∧ a < 65536) :
    Calls Try.prog 7 #[.slice A n c, .int .u16 a] w fun e w' => e = .returned (.bool true) ∧ Below w.heap.size w w' := by
  have h1 := ne_nil
  obtain ⟨T, hT⟩ : ∃ T : Nat, a % 300 = T := ⟨(a % 300).toNat, by omega⟩
  have hT3 : T < 300 := by omega
  have hT2 : a.tmod 300 = T := by rw [Int.tmod_eq_emod_of_nonneg ha.1]; exact hT
  obtain ⟨hg, hn8⟩ := good_of_check hk
  rw [hn] at hn8
  have hspec := sim_spec hk T
  have hjl := (wf_sim hg (by rw [hn]; exact hn8) T).jobs_le
  obtain ⟨js, hjs⟩ : ∃ js, (simTo l T).2.1 = js := ⟨_, rfl⟩
  obtain ⟨nj, hnj⟩ : ∃ nj, js.length = nj := ⟨_, rfl⟩
  rw [hjs, hnj] at hjl
  have HKEY : Hid (js.map Jb.key = relSeq l T) := by rw [← hjs]; exact hspec.keys
  have HPA : Hid (pos l T 0 = nj) := by rw [← hnj]; exact pos_all HKEY.out
  have HNJ0 : Hid ((simTo l T).2.1.length = nj) := by rw [hjs]; exact hnj
  have HJS := Lib.hid hjs
  have HNJ := Lib.hid hnj
  have HC : Hid (errV (check l) = .nilIface) := by rw [hk]; rfl
  have HG := Lib.hid hg
  have HA := Lib.hid hA
  have HN := Lib.hid hn
  have HK := Lib.hid hk
  obtain ⟨ha1, ha2⟩ := ha
  clear hA hn hk hg hspec hjs hnj
  go_enter Try.func7, Try.ntmps7
  go_wp2_with (fail)
  refine (awake42 _).mono ?_
  rintro e w1 ⟨rfl, hb⟩
  have HB := Lib.hid hb
  have hs := hb.size
  clear hb
  go_wp2_with (fail)
  (with_reducible refine (check_any A n c l _ ((HA.out.below HB.out (Nat.le_refl _)).more hs) HN.out hc hcc).mono ?_)
  rintro e w2 ⟨rfl, hb⟩
  rw [HC.out]
  have HB2 : Hid (Below w.heap.size w w2) := HB.out.trans (hb.mono hs)
  have hs2 := HB2.out.size
  clear hb
  go_wp2_with (fail)
  (with_reducible refine (played_ok A n c T nj l _ ((HA.out.below HB2.out (Nat.le_refl _)).more hs2) HN.out hc hcc HK.out (by omega) HNJ0.out).mono ?_)
  rintro e w3 ⟨A1, c1, A2, c2, rfl, c11, c12, c21, c22, hr1, hr2, hb⟩
  rw [HJS.out] at hr2
  have HR2 := Lib.hid hr2
  have HB3 : Hid (Below w.heap.size w w3) := HB2.out.trans (hb.mono hs2)
  have hs3 := HB3.out.size
  clear hb hr1 hr2
  go_wp2_with (fail)
  (with_reducible refine (Late_ok A n c T l _ ((HA.out.below HB3.out (Nat.le_refl _)).more hs3) HN.out hc hcc HK.out (by omega)).mono ?_)
  rintro e w4 ⟨A3, c3, rfl, c31, c32, hr3, hb⟩
  rw [HJS.out] at c31 hr3 ⊢
  obtain ⟨nl, hnl⟩ : ∃ nl, (lateOf l T js).length = nl := ⟨_, rfl⟩
  rw [hnl] at c31 ⊢
  have HNL := Lib.hid hnl
  have HR2b : Hid (Rd w4 w4.heap.size A2 (jcells js)) := (HR2.out.below hb (Nat.le_refl _)).more hb.size
  have HR3 := Lib.hid hr3
  have HB4 : Hid (Below w.heap.size w w4) := HB3.out.trans (hb.mono hs3)
  have hs4 : w.heap.size ≤ w4.heap.size := HB4.out.size
  have hnlj : nl ≤ nj := by rw [← hnl, ← HNJ.out]; exact List.length_filter_le _ _
  clear hb hr3 HR2 hnl HB HB2 HB3 hs hs2 hs3
  go_wp2
  obtain ⟨wi, rfl⟩ : ∃ wi : World, wi = w4 := ⟨_, rfl⟩
  go_loopw [11, 12, 53] (fun k m i wr => ∃ t : Nat, t ≤ T ∧ i = .int .i64 t ∧ k = .int .i64 (pos l t 0) ∧ m = .int .i64 (lateOf l T (js.take (pos l t 0))).length ∧ Below wi.heap.size wi wr) (fun _ _ i _ => T - (intOf i).toNat)
  case atStart => exact ⟨0, Nat.zero_le _, rfl, rfl, rfl, Below.refl _ _⟩
  case round =>
    obtain ⟨t, ht, rfl, hk, hm, hB⟩ := hrel
    have HBr := Lib.hid hB
    clear hB
    by_cases htT : t < T
    · subst hk hm
      go_wp2
      go_loopw [11, 12, 58] (fun k m i wr => ∃ j : Nat, j ≤ n ∧ i = .int .i64 j ∧ k = .int .i64 (pos l t j) ∧ m = .int .i64 (lateOf l T (js.take (pos l t j))).length ∧ Below wi.heap.size wi wr) (fun _ _ i _ => n - (intOf i).toNat)
      case atStart => exact ⟨0, Nat.zero_le _, rfl, rfl, rfl, HBr.out⟩
      case round =>
        obtain ⟨j, hj, rfl, hk, hm, hB⟩ := hrel
        have HBs := Lib.hid hB
        have hss : wi.heap.size ≤ wr.heap.size := hB.size
        clear hB
        by_cases hlt : j < n
        · obtain ⟨x, hx⟩ := getElem?_of_lt (l := l) (k := j) (by rw [HN.out]; exact hlt)
          obtain ⟨b, off, rfl, hbl, x0, x1, x2, x3, x4⟩ := (HA.out.below (HB4.out.trans (HBs.out.mono hs4)) (Nat.le_refl _)).tsk hx
          have hxb := HG.out x (List.mem_of_getElem? hx)
          simp only [Tsk.bad, not_or, Int.not_lt] at hxb
          obtain ⟨y1, y2, y3, y4, y5, y6, y7⟩ := hxb
          by_cases hd : due t x
          · obtain ⟨jb, hjb, hjk, hjr⟩ := job_at HKEY.out hx hd htT
            have hpd := pos_due hx hd
            have hkn : pos l t j < nj := by rw [← HNJ.out]; exact (List.getElem?_eq_some_iff.1 hjb).1
            obtain ⟨bj, oj, rfl, hbj, c0, c1, c2, c3⟩ := (HR2b.out.below HBs.out (Nat.le_refl _)).jb hjb
            have hLJ := lateJ_some (T := T) (l := l) (j := jb) (x := x) (by rw [hjk, Int.toNat_natCast]; exact hx)
            have hstep := lateOf_step l T js (pos l t j) jb hjb
            have hll : (lateOf l T (js.take (pos l t j))).length ≤ pos l t j := Nat.le_trans (List.length_filter_le _ _) (List.length_take_le _ _)
            have hd1 : decide ((t : Int) < x.o) = false := by simp [hd.1]
            have hd2 : (((t : Int) - x.o) % x.p == 0) = true := by rw [hd.2]; rfl
            have hd3 : (((t : Int) - x.o).tmod x.p == 0) = true := by rw [mod_test _ _ _ (by have := hd.1; omega), hd.2]; rfl
            have hd4 : (((t : Int) - x.o) % x.p != 0) = false := by rw [hd.2]; rfl
            have hd5 : (((t : Int) - x.o).tmod x.p != 0) = false := by rw [mod_test _ _ _ (by have := hd.1; omega), hd.2]; rfl
            have hto := hd.1
            rw [hjk] at c0
            rw [hjr] at c1 hLJ
            have hcase : (lateJ l T jb = true ∧ (decide ((t : Int) + x.d < jb.fin) = true ∨ (decide ((t : Int) + x.d < jb.fin) = false ∧ decide (jb.fin < 0) = true ∧ decide ((t : Int) + x.d ≤ (T : Int)) = true))) ∨
                (lateJ l T jb = false ∧ ((decide ((t : Int) + x.d < jb.fin) = false ∧ decide (jb.fin < 0) = false) ∨ (decide ((t : Int) + x.d < jb.fin) = false ∧ decide (jb.fin < 0) = true ∧ decide ((t : Int) + x.d ≤ (T : Int)) = false))) := by
              rw [hLJ]
              cases decide ((t : Int) + x.d < jb.fin) <;> cases decide (jb.fin < 0) <;> cases decide ((t : Int) + x.d ≤ (T : Int)) <;> simp
            have HJB := Lib.hid hjb
            have hbr : bj < wr.heap.size := by omega
            clear hLJ hx hjb
            subst hk hm
            rcases hcase with ⟨hl, hcase⟩ | ⟨hl, hcase⟩
            · have hat := lateOf_at HJB.out hl
              rw [if_pos hl] at hstep
              have hmn : (lateOf l T (js.take (pos l t j))).length < nl := by rw [← HNL.out]; exact (List.getElem?_eq_some_iff.1 hat).1
              obtain ⟨b3, o3, rfl, hb3, z0, z1, z2, z3⟩ := (HR3.out.below HBs.out (Nat.le_refl _)).jb hat
              have hbr3 : b3 < wr.heap.size := by omega
              rw [hjk] at z0
              rw [hjr] at z1
              have HP2 : Hid (pos l t (j + 1) = pos l t j + 1) := hpd
              have HM2 : Hid ((lateOf l T (js.take (pos l t (j + 1)))).length = (lateOf l T (js.take (pos l t j))).length + 1) := by
                show _ = _
                rw [hpd, hstep, List.length_append]; rfl
              clear hat hstep hpd hl hd
              generalize (lateOf l T (js.take (pos l t j))).length = m at *
              generalize pos l t j = k at *
              rcases hcase with g1 | ⟨g1, g2, g3⟩ <;> (
                go_wp2
                go_quiet (fail)
                go_wp2
                go_roundw
                case rel => exact ⟨j + 1, by omega, by go_num, by rw [HP2.out]; go_num, by rw [HM2.out]; go_num, Below.drewN (HBs.out.alloc hss _) _⟩
                case measure => simp [intOf]; omega)
            · rw [if_neg (by simp [hl])] at hstep
              have HP2 : Hid (pos l t (j + 1) = pos l t j + 1) := hpd
              have HM2 : Hid ((lateOf l T (js.take (pos l t (j + 1)))).length = (lateOf l T (js.take (pos l t j))).length) := by
                show _ = _
                rw [hpd, hstep]
              clear hstep hpd hl hd
              generalize (lateOf l T (js.take (pos l t j))).length = m at *
              generalize pos l t j = k at *
              rcases hcase with ⟨g1, g2⟩ | ⟨g1, g2, g3⟩ <;> (
                go_wp2
                go_roundw
                case rel => exact ⟨j + 1, by omega, by go_num, by rw [HP2.out]; go_num, by rw [HM2.out], HBs.out.alloc hss _⟩
                case measure => simp [intOf]; omega)
          · have HP2 := Lib.hid (pos_not hx hd)
            subst hk hm
            by_cases hto : x.o ≤ (t : Int)
            · have hm1 : ((t : Int) - x.o) % x.p ≠ 0 := fun e => hd ⟨hto, e⟩
              have hd1 : decide ((t : Int) < x.o) = false := by simp [hto]
              have hd2 : (((t : Int) - x.o) % x.p == 0) = false := by simpa using hm1
              have hd4 : (((t : Int) - x.o) % x.p != 0) = true := by simpa using hm1
              have hd3 : (((t : Int) - x.o).tmod x.p == 0) = false := by rw [mod_test _ _ _ (by omega)]; exact hd2
              have hd5 : (((t : Int) - x.o).tmod x.p != 0) = true := by rw [mod_test _ _ _ (by omega)]; exact hd4
              clear hx hd hm1
              go_wp2
              go_roundw
              case rel => exact ⟨j + 1, by omega, by go_num, by rw [HP2.out], by rw [HP2.out], HBs.out.alloc hss _⟩
              case measure => simp [intOf]; omega
            · have hd1 : decide ((t : Int) < x.o) = true := by simp; omega
              clear hx hd
              go_wp2
              go_roundw
              case rel => exact ⟨j + 1, by omega, by go_num, by rw [HP2.out], by rw [HP2.out], HBs.out.alloc hss _⟩
              case measure => simp [intOf]; omega
        · have hjn : j = n := by omega
          subst hjn
          have HP2 : Hid (pos l (t + 1) 0 = pos l t j) := by rw [← HN.out]; exact pos_next l t
          subst hk hm
          go_wp2
          go_roundw
          case rel => exact ⟨t + 1, by omega, by go_num, by rw [HP2.out], by rw [HP2.out], HBs.out⟩
          case measure => simp [intOf]; omega
    · have htt : t = T := by omega
      subst htt
      rw [HPA.out] at hk hm
      rw [show js.take nj = js from List.take_of_length_le (by rw [HNJ.out]; exact Nat.le_refl _), HNL.out] at hm
      subst hk hm
      go_wp2
      go_ret
      exact ⟨rfl, HB4.out.trans (HBr.out.mono hs4)⟩
end Go.Proofs.Ytcfhnjdaijdoiaa
