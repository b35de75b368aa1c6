/-
  The statement ResponseRests, walked.
-/
import Derived.Test.YtcfhnjdaijdoiaaW35
import Derived.Test.YtcfhnjdaijdoiaaW15
namespace Go.Proofs.Ytcfhnjdaijdoiaa
open Go.RowKit
set_option linter.unusedVariables false

set_option maxRecDepth 100000 in
set_option maxHeartbeats 1000000 in
theorem rrest_refused (A : Option Addr) (n c : Nat) (l : List Tsk) (x0 : Int) (w : World) (hA : Rd w w.heap.size A (tcells l)) (hn : l.length = n) (hc : n ≤ c) (hcc : c ≤ maxLen) (hk : n = 0 ∨ 8 < n ∨ check l ≠ 0) :
    Calls Try.prog 17 #[.slice A n c, .int .u8 x0] w fun e w' => e = .returned (.bool true) ∧ Below w.heap.size w w' := by
  have h1 := ne_err
  by_cases h0 : n = 0
  · subst h0
    clear hk hA hn
    have e0 : ((0 : Int) == 0) = true := rfl
    go_enter Try.func17, Try.ntmps17
    go_wp2_with (fail)
    refine (awake43 _).mono ?_
    rintro e w1 ⟨rfl, hb⟩
    have HB : Hid (Below w.heap.size w w1) := hb
    clear hb
    go_wp2_with (fail)
    refine (awake43 _).mono ?_
    rintro e w3 ⟨rfl, hb⟩
    have HB3 : Hid (Below w.heap.size w w3) := HB.out.trans (hb.mono HB.out.size)
    clear hb
    go_wp2
    go_ret
    exact ⟨rfl, HB3.out⟩
  have e0 : ((n : Int) == 0) = false := by simp; omega
  by_cases h8 : 8 < n
  · clear hk hA hn h0
    go_enter Try.func17, Try.ntmps17
    go_wp2_with (fail)
    refine (awake43 _).mono ?_
    rintro e w1 ⟨rfl, hb⟩
    have HB : Hid (Below w.heap.size w w1) := hb
    clear hb
    go_wp2_with (fail)
    refine (awake43 _).mono ?_
    rintro e w3 ⟨rfl, hb⟩
    have HB3 : Hid (Below w.heap.size w w3) := HB.out.trans (hb.mono HB.out.size)
    clear hb
    go_wp2
    go_ret
    exact ⟨rfl, HB3.out⟩
  · have hk0 : check l ≠ 0 := by omega
    obtain ⟨k, hke⟩ : ∃ k, check l = k := ⟨_, rfl⟩
    have HC : Hid (errV (check l) = .iface 47 (.int .i64 k)) := by rw [hke]; exact errV_ne (by rw [← hke]; exact hk0)
    have HA := Lib.hid hA
    have HN := Lib.hid hn
    clear hk hk0 hke hA hn h0
    go_enter Try.func17, Try.ntmps17
    go_wp2_with (fail)
    refine (awake43 _).mono ?_
    rintro e w1 ⟨rfl, hb⟩
    have HB : Hid (Below w.heap.size w w1) := hb
    have hs := HB.out.size
    clear hb
    go_wp2_with (fail)
    (with_reducible refine (check_any A n c l _ ((HA.out.below HB.out (Nat.le_refl _)).more hs) HN.out hc hcc).mono ?_)
    rintro e w2 ⟨rfl, hb⟩
    rw [HC.out]
    have HB2 : Hid (Below w.heap.size w w2) := HB.out.trans (hb.mono hs)
    clear hb
    go_wp2_with (fail)
    refine (awake43 _).mono ?_
    rintro e w3 ⟨rfl, hb⟩
    have HB3 : Hid (Below w.heap.size w w3) := HB2.out.trans (hb.mono HB2.out.size)
    clear hb
    go_wp2
    go_ret
    exact ⟨rfl, HB3.out⟩

theorem still_append (a b : List Tsk) : still (a ++ b) = still a ++ still b := by simp [still]
theorem cells_new_to (w : World) (cs : Array Value) (t : TypeId) (xs : List Value) (g : Nat) (hg : g = w.heap.size) (h : cs.toList = xs) :
    ∀ j u, xs[j]? = some u → (w.alloc (.cells cs t)).cell? ((⟨g, 0, none⟩ : Addr).add j) = some u := by
  subst hg; exact cells_new w cs t xs h
theorem still_length (l : List Tsk) : (still l).length = l.length := by simp [still]

set_option maxRecDepth 100000 in
set_option maxHeartbeats 8000000 in
theorem rrest_main (A : Option Addr) (n c : Nat) (l : List Tsk) (x0 : Int) (w : World) (hA : Rd w w.heap.size A (tcells l)) (hn : l.length = n) (hc : n ≤ c) (hcc : c ≤ maxLen) (hk : check l = 0) (hpos : 0 < n)
    (hx0 : 0 ≤ x0 ∧ x0 ≤ 255) :
    Calls Try.prog 17 #[.slice A n c, .int .u8 x0] w fun e w' => e = .returned (.bool true) ∧ Below w.heap.size w w' := by
  have h1 := ne_nil
  have h2 := eq_nil
  have h3 := ne_err
  have h4 := eq_err
  have e0 : ((n : Int) == 0) = false := by simp; omega
  obtain ⟨hg, hn8⟩ := good_of_check hk
  rw [hn] at hn8
  have HC : Hid (errV (check l) = .nilIface) := by rw [hk]; rfl
  obtain ⟨J, hJ, hJ2⟩ : ∃ J : Nat, x0 % (n : Int) = (J : Int) ∧ J < n := ⟨(x0 % (n : Int)).toNat, by have := Int.emod_nonneg x0 (show (n : Int) ≠ 0 by omega); omega, by have := Int.emod_lt_of_pos x0 (show (0 : Int) < n by omega); omega⟩
  have hJt : x0.tmod (n : Int) = J := by rw [Int.tmod_eq_emod_of_nonneg hx0.1]; exact hJ
  obtain ⟨z, hz⟩ := getElem?_of_lt (l := l) (k := J) (by rw [hn]; omega)
  have HZ := Lib.hid hz
  have HG := Lib.hid hg
  have HK := Lib.hid hk
  have HA := Lib.hid hA
  have HN := Lib.hid hn
  obtain ⟨i0, hi, hz0, hz1, hz2⟩ := info_parts info34
  have hm0 : 0 ≤ maxLen := Nat.zero_le _
  obtain ⟨x00, x01⟩ := hx0
  clear hk hA hn hz hg
  go_enter Try.func17, Try.ntmps17
  go_wp2_with (fail)
  refine (awake43 _).mono ?_
  rintro e w1 ⟨rfl, hb⟩
  have HB := Lib.hid hb
  have hs := hb.size
  clear hb
  go_wp2_with (fail)
  (with_reducible refine (check_any A n c l _ ((HA.out.below HB.out (Nat.le_refl _)).more hs) HN.out hc hcc).mono ?_)
  rintro e w2 ⟨rfl, hb⟩
  rw [HC.out]
  have HB2 : Hid (Below w.heap.size w w2) := HB.out.trans (hb.mono hs)
  have hs2 := HB2.out.size
  clear hb
  go_wp2_with (fail)
  (with_reducible refine (Busy_ok A n c J l z _ ((HA.out.below HB2.out (Nat.le_refl _)).more hs2) HN.out hc hcc HK.out HZ.out).mono ?_)
  rintro e w3 ⟨v, k, hr, rfl, hb⟩
  have HB3 : Hid (Below w.heap.size w w3) := HB2.out.trans (hb.mono hs2)
  have hs3 := HB3.out.size
  clear hb HB HB2 hs hs2
  rcases hr with ⟨_, rfl, rfl⟩ | ⟨H, _, _, rfl, rfl⟩ | ⟨H, _, _, hbz, rfl⟩
  · rw [show errV 4 = .iface 47 (.int .i64 4) from rfl]
    go_wp2_with (fail)
    refine (is_err 4 23 _).mono ?_
    rintro e w4 ⟨rfl, rfl⟩
    go_wp2_with (fail)
    refine (is_err 4 4 _).mono ?_
    rintro e w4 ⟨rfl, rfl⟩
    go_wp2
    go_ret
    exact ⟨rfl, HB3.out⟩
  · rw [show errV 23 = .iface 47 (.int .i64 23) from rfl]
    go_wp2_with (fail)
    refine (is_err 23 23 _).mono ?_
    rintro e w4 ⟨rfl, rfl⟩
    go_wp2
    go_ret
    exact ⟨rfl, HB3.out⟩
  · rw [errV_zero]
    obtain ⟨hv1, hv2, _, _⟩ := id hbz
    have HBZ := Lib.hid (busy_still hbz)
    clear hbz
    obtain ⟨N, rfl⟩ : ∃ N : Nat, v = N := ⟨v.toNat, by omega⟩
    by_cases h400 : 400 < N
    · go_wp2
      go_ret
      exact ⟨rfl, HB3.out⟩
    · have HOW : Hid ((w3.alloc (.cells #[] 34)).ownsRow w3.heap.size 34 5 (.slice (some ⟨w3.heap.size, 0, none⟩) 0 0) (still (upTo z.q (l.take 0))).length (tcells (still (upTo z.q (l.take 0))))) := World.ownsRow_lit w3 #[] 0 (Nat.le_refl _) hm0 rfl
      have HBW : Hid (Below w3.heap.size w3 (w3.alloc (.cells #[] 34))) := (Below.refl _ _).alloc (Nat.le_refl _) _
      go_wp2
      go_loopw [8, 67] (fun o i wr => ∃ j : Nat, j ≤ n ∧ i = .int .i64 j ∧ wr.ownsRow w3.heap.size 34 5 o (still (upTo z.q (l.take j))).length (tcells (still (upTo z.q (l.take j)))) ∧ Below w3.heap.size w3 wr) (fun _ i _ => n - (intOf i).toNat)
      case atStart => exact ⟨0, Nat.zero_le _, rfl, HOW.out, HBW.out⟩
      case round =>
        obtain ⟨j, hj, rfl, hown, hB⟩ := hrel
        have HO := Lib.hid hown
        have HB4 := Lib.hid hB
        have hs4 : w3.heap.size ≤ wr.heap.size := hB.size
        have hbw : Below w.heap.size w wr := HB3.out.trans (hB.mono hs3)
        clear hown hB HOW HBW
        by_cases hlt : j < n
        · obtain ⟨x, hx⟩ := getElem?_of_lt (l := l) (k := j) (by rw [HN.out]; exact hlt)
          obtain ⟨b, off, rfl, hbl, c0, c1, c2, c3, c4⟩ := (HA.out.below hbw (Nat.le_refl _)).tsk hx
          obtain ⟨b', off', eA, _, _, _, _, _, z4⟩ := HA.out.tsk HZ.out
          obtain ⟨rfl, rfl⟩ : b = b' ∧ off = off' := by simpa using eA
          have HZ4 : Hid (∀ wx, Below w.heap.size w wx → wx.cell? ⟨b, off + J * 5 + 4, none⟩ = some (.int .i64 z.q)) := fun wx h => (h.cell (p := ⟨b, _, none⟩) hbl).trans z4
          have hus := upTo_step z.q l j x hx
          have HUS := Lib.hid hus
          have hlen : (still (upTo z.q (l.take j))).length ≤ j := by rw [still_length]; exact Nat.le_trans (List.length_filter_le _ _) (List.length_take_le _ _)
          clear hx eA z4 hus
          go_wp2
          have e0_ : (wr.alloc (.cells #[.int .i64 x.p, .int .i64 x.o, .int .i64 x.c, .int .i64 x.d, .int .i64 x.q] 34)).cell? ⟨wr.heap.size, 0, none⟩ = some (.int .i64 x.p) := by simp
          have e1_ : (wr.alloc (.cells #[.int .i64 x.p, .int .i64 x.o, .int .i64 x.c, .int .i64 x.d, .int .i64 x.q] 34)).cell? ⟨wr.heap.size, 1, none⟩ = some (.int .i64 x.o) := by simp
          have e2_ : (wr.alloc (.cells #[.int .i64 x.p, .int .i64 x.o, .int .i64 x.c, .int .i64 x.d, .int .i64 x.q] 34)).cell? ⟨wr.heap.size, 2, none⟩ = some (.int .i64 x.c) := by simp
          have e3_ : (wr.alloc (.cells #[.int .i64 x.p, .int .i64 x.o, .int .i64 x.c, .int .i64 x.d, .int .i64 x.q] 34)).cell? ⟨wr.heap.size, 3, none⟩ = some (.int .i64 x.d) := by simp
          have e4_ : (wr.alloc (.cells #[.int .i64 x.p, .int .i64 x.o, .int .i64 x.c, .int .i64 x.d, .int .i64 x.q] 34)).cell? ⟨wr.heap.size, 4, none⟩ = some (.int .i64 x.q) := by simp
          have f1 : (wr.alloc (.cells #[.int .i64 x.p, .int .i64 x.o, .int .i64 x.c, .int .i64 x.d, .int .i64 x.q] 34)).frozen? ⟨wr.heap.size, 1, none⟩ = false := by simp
          have HBL : Hid (Below wr.heap.size wr (wr.alloc (.cells #[.int .i64 x.p, .int .i64 x.o, .int .i64 x.c, .int .i64 x.d, .int .i64 x.q] 34))) := (Below.refl _ _).alloc (Nat.le_refl _) _
          generalize wr.alloc (.cells #[.int .i64 x.p, .int .i64 x.o, .int .i64 x.c, .int .i64 x.d, .int .i64 x.q] 34) = W1 at *
          have f4 := HZ4.out W1 (hbw.trans (HBL.out.mono (by omega)))
          have hs5 : wr.heap.size < W1.heap.size := World.block_lt_of_cell? W1 _ e0_
          clear c0 c1 c2 c3 c4
          by_cases hq : x.q ≤ z.q
          · have HM : Hid (still (upTo z.q (l.take (j + 1))) = still (upTo z.q (l.take j)) ++ [zeroO 0 x]) := by
              have := HUS.out
              rw [if_pos hq] at this
              show _ = _
              rw [this, still_append]; rfl
            have d1 : decide (x.q ≤ z.q) = true := by simp [hq]
            go_quiet (fail)
            have HB6 : Hid (Below wr.heap.size wr ((W1.drewN nq).setCell ⟨wr.heap.size, 1, none⟩ (.int .i64 0))) := (Below.drewN HBL.out nq).setCell (p := ⟨wr.heap.size, 1, none⟩) (Nat.le_refl _) _
            have HO6 := Lib.hid (own_below HO.out HB6.out)
            have p0 : ((W1.drewN nq).setCell ⟨wr.heap.size, 1, none⟩ (.int .i64 0)).cell? ⟨wr.heap.size, 0, none⟩ = some (.int .i64 x.p) := (World.cell?_setCell_other _ _ _ _ (by simp)).trans e0_
            have p1 : ((W1.drewN nq).setCell ⟨wr.heap.size, 1, none⟩ (.int .i64 0)).cell? ⟨wr.heap.size, 1, none⟩ = some (.int .i64 0) := World.cell?_setCell_same _ _ _ (show (W1.drewN nq).cell? _ = _ from e1_)
            have p2 : ((W1.drewN nq).setCell ⟨wr.heap.size, 1, none⟩ (.int .i64 0)).cell? ⟨wr.heap.size, 2, none⟩ = some (.int .i64 x.c) := (World.cell?_setCell_other _ _ _ _ (by simp)).trans e2_
            have p3 : ((W1.drewN nq).setCell ⟨wr.heap.size, 1, none⟩ (.int .i64 0)).cell? ⟨wr.heap.size, 3, none⟩ = some (.int .i64 x.d) := (World.cell?_setCell_other _ _ _ _ (by simp)).trans e3_
            have p4 : ((W1.drewN nq).setCell ⟨wr.heap.size, 1, none⟩ (.int .i64 0)).cell? ⟨wr.heap.size, 4, none⟩ = some (.int .i64 x.q) := (World.cell?_setCell_other _ _ _ _ (by simp)).trans e4_
            have e1' : (W1.drewN nq).cell? ⟨wr.heap.size, 1, none⟩ = some (.int .i64 x.o) := e1_
            have f1' : (W1.drewN nq).frozen? ⟨wr.heap.size, 1, none⟩ = false := f1
            clear f4 f1 e0_ e1_ e2_ e3_ e4_
            go_wp2_with (at_builtin; go_loud (refine wpList_append_own _ rfl _ _ 22 rfl w3.heap.size 34 i0 _ 5 40 Try.underlying22 hi hz0 hz1 hz2 rfl (by omega) _ _ _ rfl (HO6.out.alloc _) _ 1 1 (zeroO 0 x).cells rfl rfl (cells_new_to _ _ _ _ _ (by simp) rfl) (tsk_one _) ?c3 ?c4 ?c5 ?_))
            case c3 => unfold maxLen; omega
            case c4 => omega
            case c5 => have := HB6.out.size; simp at this ⊢; omega
            intro v' w5 hown5 hgrow5 _
            have HO7 : Hid (w5.ownsRow w3.heap.size 34 5 v' (still (upTo z.q (l.take (j + 1)))).length (tcells (still (upTo z.q (l.take (j + 1)))))) := by
              rw [HM.out, tcells_append, tcells_single, List.length_append]
              exact hown5
            have HB7 : Hid (Below w3.heap.size w3 w5) := ((HB4.out.trans (HB6.out.mono hs4)).alloc (by have := HB6.out.size; omega) _).grown hgrow5 (by have := HB6.out.size; simp at this ⊢; omega) (fun k hk => (HO6.out.lt k hk).1)
            clear hown5 hgrow5
            go_wp2
            go_roundw
            case rel => exact ⟨j + 1, by omega, by go_num, HO7.out, HB7.out⟩
            case measure => simp [intOf]; omega
          · have HM : Hid (still (upTo z.q (l.take (j + 1))) = still (upTo z.q (l.take j))) := by
              have := HUS.out
              rw [if_neg hq, List.append_nil] at this
              show _ = _
              rw [this]
            have d1 : decide (x.q ≤ z.q) = false := by simp; omega
            have HO6 := Lib.hid (own_below HO.out HBL.out)
            go_quiet (fail)
            go_wp2
            go_roundw
            case rel => exact ⟨j + 1, by omega, by go_num, by rw [HM.out]; exact HO6.out, Below.drewN (HB4.out.trans (HBL.out.mono hs4)) _⟩
            case measure => simp [intOf]; omega
        · have hjn : j = n := by omega
          subst hjn
          have hT : l.take j = l := List.take_of_length_le (by rw [HN.out]; exact Nat.le_refl _)
          have hO := HO.out
          rw [hT] at hO
          have HKU : Hid (check (upTo z.q l) = 0) := upTo_check HK.out z.q
          generalize upTo z.q l = mm at *
          have HKS : Hid (check (still mm) = 0) := still_check HKU.out
          have HSZ := Lib.hid (still_zero mm)
          obtain ⟨X, cx, rfl, hx1, hx2, hr⟩ := own_read hO
          have HX := Lib.hid hr
          generalize still mm = m0 at *
          obtain ⟨nm, hnm⟩ : ∃ nm, m0.length = nm := ⟨_, rfl⟩
          rw [hnm] at hx1 ⊢
          have HNM := Lib.hid hnm
          have HSP := Lib.hid (sim_spec HKS.out N)
          obtain ⟨js, hjs⟩ : ∃ js, (simTo m0 N).2.1 = js := ⟨_, rfl⟩
          obtain ⟨nj, hnj⟩ : ∃ nj, js.length = nj := ⟨_, rfl⟩
          obtain ⟨os, hos⟩ : ∃ os, (simTo m0 N).2.2 = os := ⟨_, rfl⟩
          have hjl := (wf_sim (good_of_check HKS.out).1 (good_of_check HKS.out).2 N).jobs_le
          rw [hjs, hos] at HSP
          rw [hjs, hnj] at hjl
          have HNJ0 : Hid ((simTo m0 N).2.1.length = nj) := by rw [hjs]; exact hnj
          have HJS := Lib.hid hjs
          have HOS := Lib.hid hos
          have HNJ := Lib.hid hnj
          have HOL : Hid (os.length = N) := by rw [← hos]; exact sim_out_length m0 N
          have HB5 : Hid (Below w.heap.size w wr) := hbw
          have hs5 := hbw.size
          clear hO hr hjs hnj hos hnm hT hbw HO HB4
          go_wp2_with (fail)
          (with_reducible refine (Timeline_ok X nm cx N m0 _ HX.out HNM.out hx1 hx2 HKS.out (by omega)).mono ?_)
          rintro e w5 ⟨A1, c1, rfl, c11, c12, hr1, hb⟩
          rw [HOS.out] at hr1
          have HR1 := Lib.hid hr1
          have HX2 : Hid (Rd w5 w5.heap.size X (tcells m0)) := (HX.out.below hb (Nat.le_refl _)).more hb.size
          have HB6 : Hid (Below w.heap.size w w5) := HB5.out.trans (hb.mono hs5)
          have hs6 := HB6.out.size
          clear hb hr1 HX
          go_wp2_with (fail)
          (with_reducible refine (Jobs_ok X nm cx N nj m0 _ HX2.out HNM.out hx1 hx2 HKS.out (by omega) HNJ0.out).mono ?_)
          rintro e w6 ⟨A2, c2, rfl, c21, c22, hr2, hb⟩
          rw [HJS.out] at hr2
          have HR2 := Lib.hid hr2
          have HR1b : Hid (Rd w6 w6.heap.size A1 (icells os)) := (HR1.out.below hb (Nat.le_refl _)).more hb.size
          have HB7 : Hid (Below w.heap.size w w6) := HB6.out.trans (hb.mono hs6)
          have hs7 : w.heap.size ≤ w6.heap.size := HB7.out.size
          have d0 : ((N : Int) != N) = false := by simp
          clear hb hr2 HR1 HX2 HB5 HB6 hs5 hs6
          go_wp2
          go_loopw [115] (fun i wr => ∃ t : Nat, t ≤ N ∧ i = .int .i64 t ∧ wr = w6) (fun i _ => N - (intOf i).toNat)
          case atStart => exact ⟨0, Nat.zero_le _, rfl, rfl⟩
          case round =>
            obtain ⟨t, ht, rfl, rfl⟩ := hrel
            by_cases htT : t < N
            · obtain ⟨r, hr⟩ := getElem?_of_lt (l := os) (k := t) (by rw [HOL.out]; exact htT)
              obtain ⟨b2, o2, rfl, hb2, r0⟩ := HR1b.out.int hr
              have hr0 := rests_busy HKS.out HSZ.out HSP.out HBZ.out hr
              have d1 : decide (r < 0) = false := by simp; omega
              clear hr
              go_wp2
              go_roundw
              case rel => exact ⟨t + 1, by omega, by go_num, trivial⟩
              case measure => simp [intOf]; omega
            · have htt : t = N := by omega
              subst htt
              go_wp2
              obtain ⟨wi, rfl⟩ : ∃ wi : World, wi = wr := ⟨_, rfl⟩
              go_loopw [124] (fun i wr => ∃ t : Nat, t ≤ nj ∧ i = .int .i64 t ∧ Below wi.heap.size wi wr) (fun i _ => nj - (intOf i).toNat)
              case atStart => exact ⟨0, Nat.zero_le _, rfl, Below.refl _ _⟩
              case round =>
                obtain ⟨k, hk, rfl, hB⟩ := hrel
                have HB8 := Lib.hid hB
                have hs8 := hB.size
                clear hB
                by_cases hlt2 : k < nj
                · obtain ⟨jb, hjb⟩ := getElem?_of_lt (l := js) (k := k) (by rw [HNJ.out]; exact hlt2)
                  obtain ⟨b2, o2, rfl, hb2, j0, j1, j2, j3⟩ := (HR2.out.below HB8.out (Nat.le_refl _)).jb hjb
                  have hf := rests_done HKS.out HSZ.out HSP.out HBZ.out (List.mem_of_getElem? hjb)
                  have d1 : decide (jb.fin < 0) = false := by simp; omega
                  clear hjb
                  go_wp2
                  go_roundw
                  case rel => exact ⟨k + 1, by omega, by go_num, HB8.out.alloc hs8 _⟩
                  case measure => simp [intOf]; omega
                · have hkn : k = nj := by omega
                  subst hkn
                  go_wp2
                  go_ret
                  exact ⟨rfl, HB7.out.trans (HB8.out.mono hs7)⟩
end Go.Proofs.Ytcfhnjdaijdoiaa
