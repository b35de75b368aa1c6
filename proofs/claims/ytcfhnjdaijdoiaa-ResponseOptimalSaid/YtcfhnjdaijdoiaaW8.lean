/-
  The statement ResponseOptimal, walked.
-/
import Derived.Test.YtcfhnjdaijdoiaaW6
import Derived.Test.YtcfhnjdaijdoiaaW7
import Derived.Test.YtcfhnjdaijdoiaaMem3
import Derived.Test.YtcfhnjdaijdoiaaPlain4
import Derived.Test.YtcfhnjdaijdoiaaPlain5
namespace Go.Proofs.Ytcfhnjdaijdoiaa
open Go.RowKit

set_option maxHeartbeats 1000000 in
theorem opt_refused (A A' : Option Addr) (n c n' c' : Nat) (l : List Tsk) (w : World) (hA : Rd w w.heap.size A (tcells l)) (hn : l.length = n) (hc : n ≤ c) (hcc : c ≤ maxLen) (hk : 8 < n ∨ check l ≠ 0) :
    Calls Try.prog 12 #[.slice A n c, .slice A' n' c'] w fun e w' => e = .returned (.bool true) ∧ Below w.heap.size w w' := by
  have h1 := ne_err
  by_cases h8 : 8 < n
  · go_enter Try.func12, Try.ntmps12
    go_wp2_with (fail)
    refine (awake43 _).mono ?_
    rintro e w1 ⟨rfl, hb⟩
    have HB := Lib.hid hb
    clear hb
    go_wp2_with (fail)
    refine (awake43 _).mono ?_
    rintro e w3 ⟨rfl, hb⟩
    have HB3 : Hid (Below w.heap.size w w3) := HB.out.trans (hb.mono HB.out.size)
    clear hb
    go_wp2
    go_ret
    exact ⟨rfl, HB3.out⟩
  · have hk0 : check l ≠ 0 := by omega
    obtain ⟨k, hke⟩ : ∃ k, check l = k := ⟨_, rfl⟩
    have HC : Hid (errV (check l) = .iface 47 (.int .i64 k)) := by rw [hke]; exact errV_ne (by rw [← hke]; exact hk0)
    have HA := Lib.hid hA
    have HN := Lib.hid hn
    clear hk hk0 hke hA hn
    go_enter Try.func12, Try.ntmps12
    go_wp2_with (fail)
    refine (awake43 _).mono ?_
    rintro e w1 ⟨rfl, hb⟩
    have HB := Lib.hid hb
    have hs := hb.size
    clear hb
    go_wp2_with (fail)
    (with_reducible refine (check_any A n c l _ ((HA.out.below HB.out (Nat.le_refl _)).more hs) HN.out hc hcc).mono ?_)
    rintro e w2 ⟨rfl, hb⟩
    rw [HC.out]
    have HB2 : Hid (Below w.heap.size w w2) := HB.out.trans (hb.mono hs)
    clear hb
    go_wp2_with (fail)
    refine (awake43 _).mono ?_
    rintro e w3 ⟨rfl, hb⟩
    have HB3 : Hid (Below w.heap.size w w3) := HB2.out.trans (hb.mono HB2.out.size)
    clear hb
    go_wp2
    go_ret
    exact ⟨rfl, HB3.out⟩

set_option maxHeartbeats 4000000 in
theorem opt_main (A A' : Option Addr) (n c n' c' : Nat) (l : List Tsk) (zs : List Int) (w : World) (hA : Rd w w.heap.size A (tcells l)) (hn : l.length = n) (hc : n ≤ c) (hcc : c ≤ maxLen)
    (hA' : Rd w w.heap.size A' (kcells .u8 zs)) (hn' : zs.length = n') (hcc' : n' ≤ maxLen) (hz : ∀ z ∈ zs, 0 ≤ z ∧ z ≤ 255) (hk : check l = 0) :
    Calls Try.prog 12 #[.slice A n c, .slice A' n' c'] w fun e w' => e = .returned (.bool true) ∧ Below w.heap.size w w' := by
  have h1 := ne_nil
  have h2 := eq_nil
  have hn8 := (good_of_check hk).2
  rw [hn] at hn8
  have HC : Hid (errV (check l) = .nilIface) := by rw [hk]; rfl
  have HK := Lib.hid hk
  have HA := Lib.hid hA
  have HA' := Lib.hid hA'
  have HN := Lib.hid hn
  have HN' := Lib.hid hn'
  have HZ := Lib.hid hz
  have HN5 : Hid ((tcells l).length = n * 5) := by rw [tcells_length, hn]; rfl
  obtain ⟨i0, hi, hz0, hz1, hz2⟩ := info_parts info34
  unfold maxLen at hcc'
  clear hk hA hn hA' hn' hz
  go_enter Try.func12, Try.ntmps12
  go_wp2_with (fail)
  refine (awake43 _).mono ?_
  rintro e w1 ⟨rfl, hb⟩
  have HB := Lib.hid hb
  have hs := hb.size
  clear hb
  go_wp2_with (fail)
  (with_reducible refine (check_any A n c l _ ((HA.out.below HB.out (Nat.le_refl _)).more hs) HN.out hc hcc).mono ?_)
  rintro e w2 ⟨rfl, hb⟩
  rw [HC.out]
  have HB2 : Hid (Below w.heap.size w w2) := HB.out.trans (hb.mono hs)
  have hs2 : w.heap.size ≤ w2.heap.size := HB2.out.size
  clear hb
  have hm0 : 0 ≤ maxLen := Nat.zero_le _
  go_wp2_with (at_builtin; refine wpList_append_rd _ rfl _ _ 22 rfl w.heap.size 34 i0 _ 5 40 Try.underlying22 hi hz0 hz1 hz2 rfl (by omega) _ 0 [] rfl (World.ownsRow_lit w2 #[] 0 hs2 hm0 rfl) w.heap.size A n c (tcells l) rfl (HA.out.below (HB2.out.alloc hs2 _) (Nat.le_refl _)) HN5.out (tcells_one l) ?c3 ?c4 ?c5 ?_)
  case c3 => unfold maxLen; omega
  case c4 => omega
  case c5 => simp; omega
  intro v' w3 hown hgrow hat
  have HB3 : Hid (Below w.heap.size w w3) := (HB2.out.alloc hs2 _).grown hgrow (by simp; omega) (fun k hk => by simp [Value.ownBlock] at hk; omega)
  obtain ⟨X, cx, rfl, hx1, hx2, hform⟩ := own_form hown
  try simp only [Nat.zero_add, List.nil_append] at hown
  try simp only [Nat.zero_add] at hx1
  try simp only [Nat.zero_add] at hform
  have HF := Lib.hid hform
  have HO : Hid (w3.ownsRow w.heap.size 34 5 (.slice X n cx) n (tcells (mapTo numOne l 0))) := by rw [mapTo_zero]; exact hown
  try rw [Nat.zero_add]
  clear hown hgrow hat hform HB hs HB2 hs2 hm0
  go_wp2
  go_loopw [35] (fun i wr => ∃ j : Nat, j ≤ n ∧ i = .int .i64 j ∧ wr.ownsRow w.heap.size 34 5 (.slice X n cx) n (tcells (mapTo numOne l j)) ∧ Below w.heap.size w wr) (fun i wr => n - (intOf i).toNat)
  case atStart => exact ⟨0, Nat.zero_le _, rfl, HO.out, HB3.out⟩
  case round =>
    obtain ⟨j, hj, rfl, hown, hB⟩ := hrel
    have HO2 := Lib.hid hown
    have HB4 := Lib.hid hB
    have hs : w.heap.size ≤ wr.heap.size := hB.size
    clear hown hB HO HB3
    by_cases hlt : j < n
    · obtain ⟨x, hx⟩ := getElem?_of_lt (l := l) (k := j) (by rw [HN.out]; exact hlt)
      obtain ⟨g, rfl, hg1, hg2⟩ := HF.out (by omega)
      have HX : Hid ((mapTo numOne l j)[j]? = some x) := by
        show _ = _
        rw [mapTo_get, hx]
        simp
      have f1 : wr.cell? ⟨g, j * 5 + 4, none⟩ = some (.int .i64 x.q) := own_tsk HO2.out HX.out 4 (by omega)
      have f2 : wr.frozen? ⟨g, j * 5 + 4, none⟩ = false := HO2.out.frozenAt _
      have HO4 : Hid ((wr.setCell ⟨g, j * 5 + 4, none⟩ (.int .i64 j)).ownsRow w.heap.size 34 5 (.slice (some ⟨g, 0, none⟩) n cx) n (tcells (mapTo numOne l (j + 1)))) := by
        rw [mapTo_step numOne l j x hx, tcells_set _ j x (numOne j x) 4 (.int .i64 j) HX.out (by omega) rfl]
        exact (HO2.out.stored (j * 5 + 4) _).1
      have HB5 : Hid (Below w.heap.size w (wr.setCell ⟨g, j * 5 + 4, none⟩ (.int .i64 j))) := HB4.out.setCell (p := ⟨g, j * 5 + 4, none⟩) hg1 _
      clear hx
      go_wp2
      go_roundw
      case rel => exact ⟨j + 1, by omega, by go_num, HO4.out, HB5.out⟩
      case measure => simp [intOf]; omega
    · have hjn : j = n := by omega
      subst hjn
      have HO3 : Hid (∃ m : List Tsk, check m = 0 ∧ m.length = j ∧ wr.ownsRow w.heap.size 34 5 (.slice X j cx) j (tcells m)) :=
        ⟨mapTo numOne l j, num_check HK.out j (by rw [HN.out]; exact Nat.le_refl _), by rw [mapTo_length]; exact HN.out, HO2.out⟩
      clear hlt hj HO2
      go_wp2
      obtain ⟨wo, rfl⟩ : ∃ wo : World, wo = wr := ⟨_, rfl⟩
      go_loopw [46] (fun i wr => ∃ k : Nat, k ≤ n' ∧ i = .int .i64 k ∧ (∃ m : List Tsk, check m = 0 ∧ m.length = j ∧ wr.ownsRow w.heap.size 34 5 (.slice X j cx) j (tcells m)) ∧ Below w.heap.size w wr) (fun i wr => n' - (intOf i).toNat)
      case atStart => exact ⟨0, Nat.zero_le _, rfl, HO3.out, HB4.out⟩
      case round =>
        obtain ⟨k, hk, rfl, ⟨m, hm1, hm2, hown⟩, hB⟩ := hrel
        have HM1 := Lib.hid hm1
        have HM2 := Lib.hid hm2
        have HO5 := Lib.hid hown
        have HB5 := Lib.hid hB
        have hs5 : w.heap.size ≤ wr.heap.size := hB.size
        clear hm1 hm2 hown hB HO3 HB4 hs
        by_cases hkn : k < n'
        · obtain ⟨z, hzk⟩ := getElem?_of_lt (l := zs) (k := k) (by rw [HN'.out]; exact hkn)
          have hzb := HZ.out z (List.mem_of_getElem? hzk)
          obtain ⟨b, off, rfl, hbl, d0⟩ := (HA'.out.below HB5.out (Nat.le_refl _)).kint hzk
          clear hzk
          by_cases hkj : k < j
          · obtain ⟨g, rfl, hg1, hg2⟩ := HF.out (by omega)
            obtain ⟨J, hJ, hJ2⟩ : ∃ J : Nat, z % (j : Int) = (J : Int) ∧ J < j := ⟨(z % (j : Int)).toNat, by have := Int.emod_nonneg z (show (j : Int) ≠ 0 by omega); omega, by have := Int.emod_lt_of_pos z (show (0 : Int) < j by omega); omega⟩
            obtain ⟨x, hx⟩ := getElem?_of_lt (l := m) (k := k) (by rw [HM2.out]; omega)
            obtain ⟨y, hy⟩ := getElem?_of_lt (l := m) (k := J) (by rw [HM2.out]; omega)
            have f1 : wr.cell? ⟨g, k * 5 + 4, none⟩ = some (.int .i64 x.q) := own_tsk HO5.out hx 4 (by omega)
            have f2 : wr.frozen? ⟨g, k * 5 + 4, none⟩ = false := HO5.out.frozenAt _
            have f3 : wr.cell? ⟨g, J * 5 + 4, none⟩ = some (.int .i64 y.q) := own_tsk HO5.out hy 4 (by omega)
            have f4 : wr.frozen? ⟨g, J * 5 + 4, none⟩ = false := HO5.out.frozenAt _
            have HNEW : Hid (((wr.setCell ⟨g, k * 5 + 4, none⟩ (.int .i64 y.q)).setCell ⟨g, J * 5 + 4, none⟩ (.int .i64 x.q)).ownsRow w.heap.size 34 5 (.slice (some ⟨g, 0, none⟩) j cx) j (tcells (swap m k J x y))) := by
              unfold swap
              rw [tcells_set _ J y { y with q := x.q } 4 (.int .i64 x.q) (swap1_at m k J x y hx hy) (by omega) rfl]
              unfold swap1
              rw [tcells_set _ k x { x with q := y.q } 4 (.int .i64 y.q) hx (by omega) rfl]
              exact ((HO5.out.stored (k * 5 + 4) _).1.stored (J * 5 + 4) _).1
            have HBN : Hid (Below w.heap.size w ((wr.setCell ⟨g, k * 5 + 4, none⟩ (.int .i64 y.q)).setCell ⟨g, J * 5 + 4, none⟩ (.int .i64 x.q))) := (HB5.out.setCell (p := ⟨g, k * 5 + 4, none⟩) hg1 _).setCell (p := ⟨g, J * 5 + 4, none⟩) hg1 _
            have HMN : Hid (∃ m : List Tsk, check m = 0 ∧ m.length = j ∧ ((wr.setCell ⟨g, k * 5 + 4, none⟩ (.int .i64 y.q)).setCell ⟨g, J * 5 + 4, none⟩ (.int .i64 x.q)).ownsRow w.heap.size 34 5 (.slice (some ⟨g, 0, none⟩) j cx) j (tcells m)) :=
              ⟨swap m k J x y, swap_check HM1.out k J x y hx hy, by rw [swap_length]; exact HM2.out, HNEW.out⟩
            clear hx hy HNEW
            obtain ⟨v', hv'⟩ : ∃ v', (wr.setCell ⟨g, k * 5 + 4, none⟩ (.int .i64 y.q)).cell? ⟨g, J * 5 + 4, none⟩ = some v' := by
              by_cases e : k = J
              · subst e; exact ⟨_, World.cell?_setCell_same wr _ _ f1⟩
              · exact ⟨_, (World.cell?_setCell_other wr _ _ _ (by simp [e])).trans f3⟩
            go_wp2_with (fail)
            go_region
            go_wp2
            go_roundw
            case rel => exact ⟨k + 1, by omega, by go_num, HMN.out, HBN.out.drew⟩
            case measure => simp [intOf]; omega
          · have htok : True := trivial
            obtain ⟨X2, c2, hv, hc3, hc4, hr⟩ := own_read HO5.out
            obtain ⟨rfl, rfl⟩ : X = X2 ∧ cx = c2 := by simpa using hv
            have HR := Lib.hid hr
            clear hr hv HO5
            go_wp2_with (fail)
            (with_reducible refine (Meets_ok X j cx m _ HR.out HM2.out hx1 hx2 HM1.out).mono ?_)
            rintro e w4 ⟨rfl, hb⟩
            have HR4 : Hid (Rd w4 w4.heap.size X (tcells m)) := (HR.out.below hb (Nat.le_refl _)).more hb.size
            have HB6 : Hid (Below w.heap.size w w4) := HB5.out.trans (hb.mono hs5)
            clear hb
            go_wp2_with (fail)
            (with_reducible refine (Assign_ok X j cx m _ HR4.out HM2.out hx1 hx2 HM1.out).mono ?_)
            rintro e w5 ⟨Y, cy, rfl, hy1, hy2, hr, hb⟩
            have HR5 := Lib.hid hr
            have HB7 : Hid (Below w.heap.size w w5) := HB6.out.trans (hb.mono HB6.out.size)
            clear hr hb
            go_wp2_with (fail)
            (with_reducible refine (Meets_ok Y j cy (assign m) _ HR5.out (by rw [assign_length]; exact HM2.out) hy1 hy2 (assign_check HM1.out)).mono ?_)
            rintro e w6 ⟨rfl, hb⟩
            have HB8 : Hid (Below w.heap.size w w6) := HB7.out.trans (hb.mono HB7.out.size)
            clear hb
            by_cases hm : meets m = true
            · have hm' : meets (assign m) = true := optimal HM1.out hm
              go_wp2
              go_ret
              exact ⟨rfl, HB8.out⟩
            · have hm' : meets m = false := by simpa using hm
              clear hm
              by_cases hq : meets (assign m) = true
              · go_wp2
                go_ret
                exact ⟨rfl, HB8.out⟩
              · have hq' : meets (assign m) = false := by simpa using hq
                clear hq
                go_wp2
                go_ret
                exact ⟨rfl, HB8.out⟩
        · have htok : True := trivial
          obtain ⟨X2, c2, hv, hc3, hc4, hr⟩ := own_read HO5.out
          obtain ⟨rfl, rfl⟩ : X = X2 ∧ cx = c2 := by simpa using hv
          have HR := Lib.hid hr
          clear hr hv HO5
          go_wp2_with (fail)
          (with_reducible refine (Meets_ok X j cx m _ HR.out HM2.out hx1 hx2 HM1.out).mono ?_)
          rintro e w4 ⟨rfl, hb⟩
          have HR4 : Hid (Rd w4 w4.heap.size X (tcells m)) := (HR.out.below hb (Nat.le_refl _)).more hb.size
          have HB6 : Hid (Below w.heap.size w w4) := HB5.out.trans (hb.mono hs5)
          clear hb
          go_wp2_with (fail)
          (with_reducible refine (Assign_ok X j cx m _ HR4.out HM2.out hx1 hx2 HM1.out).mono ?_)
          rintro e w5 ⟨Y, cy, rfl, hy1, hy2, hr, hb⟩
          have HR5 := Lib.hid hr
          have HB7 : Hid (Below w.heap.size w w5) := HB6.out.trans (hb.mono HB6.out.size)
          clear hr hb
          go_wp2_with (fail)
          (with_reducible refine (Meets_ok Y j cy (assign m) _ HR5.out (by rw [assign_length]; exact HM2.out) hy1 hy2 (assign_check HM1.out)).mono ?_)
          rintro e w6 ⟨rfl, hb⟩
          have HB8 : Hid (Below w.heap.size w w6) := HB7.out.trans (hb.mono HB7.out.size)
          clear hb
          by_cases hm : meets m = true
          · have hm' : meets (assign m) = true := optimal HM1.out hm
            go_wp2
            go_ret
            exact ⟨rfl, HB8.out⟩
          · have hm' : meets m = false := by simpa using hm
            clear hm
            by_cases hq : meets (assign m) = true
            · go_wp2
              go_ret
              exact ⟨rfl, HB8.out⟩
            · have hq' : meets (assign m) = false := by simpa using hq
              clear hq
              go_wp2
              go_ret
              exact ⟨rfl, HB8.out⟩
end Go.Proofs.Ytcfhnjdaijdoiaa
