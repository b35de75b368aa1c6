/-
  The statement TasksUrgent, walked.
-/
import Derived.Test.YtcfhnjdaijdoiaaW24
import Derived.Test.YtcfhnjdaijdoiaaPlain18
namespace Go.Proofs.Ytcfhnjdaijdoiaa
open Go.RowKit
set_option linter.unusedVariables false

set_option maxHeartbeats 1000000 in
theorem turg_long (A : Option Addr) (n c : Nat) (a : Int) (w : World) (hn : n ≤ maxLen) (h40 : 40 < n) :
    Calls Try.prog 5 #[.slice A n c, .int .u16 a] w fun e w' => e = .returned (.bool true) ∧ Below w.heap.size w w' := by
  unfold maxLen at hn
  go_enter Try.func5, Try.ntmps5
  go_wp2_with (fail)
  refine (awake42 _).mono ?_
  rintro e w1 ⟨rfl, hb⟩
  have HB := Lib.hid hb
  clear hb
  go_wp2_with (fail)
  refine (awake42 _).mono ?_
  rintro e w3 ⟨rfl, hb⟩
  have HB3 : Hid (Below w.heap.size w w3) := HB.out.trans (hb.mono HB.out.size)
  clear hb
  go_wp2
  go_ret
  exact ⟨rfl, HB3.out⟩

set_option maxRecDepth 100000 in
set_option maxHeartbeats 1000000 in
theorem turg_bad (A : Option Addr) (n c : Nat) (a : Int) (l : List Tsk) (w : World) (hA : Rd w w.heap.size A (tcells l)) (hn : l.length = n) (hc : n ≤ c) (hcc : c ≤ maxLen) (h40 : n ≤ 40) (k : Int) (hk : check l = k) (hk0 : k ≠ 0) :
    Calls Try.prog 5 #[.slice A n c, .int .u16 a] w fun e w' => e = .returned (.bool true) ∧ Below w.heap.size w w' := by
  have HC : Hid (errV (check l) = .iface 47 (.int .i64 k)) := by rw [hk]; exact errV_ne hk0
  have h1 := ne_err
  have HA := Lib.hid hA
  have HN := Lib.hid hn
  clear hk hk0 hA hn
  go_enter Try.func5, Try.ntmps5
  go_wp2_with (fail)
  refine (awake42 _).mono ?_
  rintro e w1 ⟨rfl, hb⟩
  have HB := Lib.hid hb
  have hs := hb.size
  clear hb
  go_wp2_with (fail)
  (with_reducible refine (check_any A n c l _ ((HA.out.below HB.out (Nat.le_refl _)).more hs) HN.out hc hcc).mono ?_)
  rintro e w2 ⟨rfl, hb⟩
  rw [HC.out]
  have HB2 : Hid (Below w.heap.size w w2) := HB.out.trans (hb.mono hs)
  clear hb
  go_wp2_with (fail)
  refine (awake42 _).mono ?_
  rintro e w3 ⟨rfl, hb⟩
  have HB3 : Hid (Below w.heap.size w w3) := HB2.out.trans (hb.mono HB2.out.size)
  clear hb
  go_wp2
  go_ret
  exact ⟨rfl, HB3.out⟩

theorem made_ints (n : Nat) : (madeCells #[.int .i64 0] (n * 1)).toList = icells (List.replicate n 0) := by
  apply List.ext_getElem?
  intro j
  simp only [madeCells, icells, Array.toList_map, Array.toList_range, List.getElem?_map, Nat.mul_one]
  by_cases hj : j < n
  · rw [List.getElem?_range hj, List.getElem?_replicate, if_pos hj]
    simp
    rw [Nat.mod_one]
    rfl
  · rw [List.getElem?_eq_none (by simp; omega), List.getElem?_replicate, if_neg hj]
    rfl

/-- A cell of an owned row of integers. -/
theorem own_int {w : World} {base g n cap : Nat} {l : List Int} (hl : l.length = n) (h : w.ownsRow base 3 1 (.slice (some ⟨g, 0, none⟩) n cap) n (icells l)) {k : Nat} {x : Int} (hx : l[k]? = some x) : w.cell? ⟨g, k, none⟩ = some (.int .i64 x) := by
  have := (List.getElem?_eq_some_iff.1 hx).1
  rw [h.cellAt k (by omega)]
  simp [icells, hx]

theorem own_set_int {w : World} {base g n cap : Nat} {l : List Int} (h : w.ownsRow base 3 1 (.slice (some ⟨g, 0, none⟩) n cap) n (icells l)) (k : Nat) (x : Int) :
    (w.setCell ⟨g, k, none⟩ (.int .i64 x)).ownsRow base 3 1 (.slice (some ⟨g, 0, none⟩) n cap) n (icells (l.set k x)) := by
  have : icells (l.set k x) = (icells l).set k (.int .i64 x) := by simp [icells]
  rw [this]
  exact (h.stored k (.int .i64 x)).1

set_option maxRecDepth 100000 in
set_option maxHeartbeats 8000000 in
theorem turg_main (A : Option Addr) (n c : Nat) (a : Int) (l : List Tsk) (w : World) (hA : Rd w w.heap.size A (tcells l)) (hn : l.length = n) (hc : n ≤ c) (hcc : c ≤ maxLen) (hk : check l = 0) (ha : 0 ≤ a ∧ a < 65536) :
    Calls Try.prog 5 #[.slice A n c, .int .u16 a] w fun e w' => e = .returned (.bool true) ∧ Below w.heap.size w w' := by
  have h1 := ne_nil
  obtain ⟨T, hT⟩ : ∃ T : Nat, a % 300 = T := ⟨(a % 300).toNat, by omega⟩
  have hT3 : T < 300 := by omega
  have hT2 : a.tmod 300 = T := by rw [Int.tmod_eq_emod_of_nonneg ha.1]; exact hT
  obtain ⟨hg, hn8⟩ := good_of_check hk
  rw [hn] at hn8
  obtain ⟨i3, hi3, hz30, hz31, hz32⟩ := info_parts info3
  obtain ⟨nj, hnj⟩ : ∃ nj, (simTo l T).2.1.length = nj := ⟨_, rfl⟩
  have HNJ := Lib.hid hnj
  obtain ⟨os, hos⟩ : ∃ os, (simTo l T).2.2 = os := ⟨_, rfl⟩
  have HOS := Lib.hid hos
  have HSC : Hid (Sched l os) := by rw [← hos]; exact (sim_spec hk T).sched
  have HOL : Hid (os.length = T) := by rw [← hos]; exact sim_out_length l T
  have HRO : Hid (∀ r ∈ os, -1 ≤ r ∧ r < n) := by rw [← hos, ← hn]; exact sim_run_range l T
  have HC : Hid (errV (check l) = .nilIface) := by rw [hk]; rfl
  have HG := Lib.hid hg
  have HA := Lib.hid hA
  have HN := Lib.hid hn
  have HK := Lib.hid hk
  obtain ⟨ha1, ha2⟩ := ha
  clear hA hn hk hg hos hnj
  go_enter Try.func5, Try.ntmps5
  go_wp2_with (fail)
  refine (awake42 _).mono ?_
  rintro e w1 ⟨rfl, hb⟩
  have HB := Lib.hid hb
  have hs := hb.size
  clear hb
  go_wp2_with (fail)
  (with_reducible refine (check_any A n c l _ ((HA.out.below HB.out (Nat.le_refl _)).more hs) HN.out hc hcc).mono ?_)
  rintro e w2 ⟨rfl, hb⟩
  rw [HC.out]
  have HB2 : Hid (Below w.heap.size w w2) := HB.out.trans (hb.mono hs)
  have hs2 := HB2.out.size
  clear hb
  go_wp2_with (fail)
  (with_reducible refine (played_ok A n c T nj l _ ((HA.out.below HB2.out (Nat.le_refl _)).more hs2) HN.out hc hcc HK.out (by omega) HNJ.out).mono ?_)
  rintro e w3 ⟨A1, c1, A2, c2, rfl, c11, c12, c21, c22, hr1, hr2, hb⟩
  rw [HOS.out] at hr1
  have HR1 := Lib.hid hr1
  have HB3 : Hid (Below w.heap.size w w3) := HB2.out.trans (hb.mono hs2)
  have hs3 : w.heap.size ≤ w3.heap.size := HB3.out.size
  clear hb hr1 hr2 HB HB2 hs hs2
  go_wp2_with (at_make; refine wpList_make_full _ rfl _ _ 29 rfl w3.heap.size 3 i3 (.int .i64 0) 1 Try.underlying29 hi3 hz30 hz31 .i64 .i64 (n : Int) (n : Int) n rfl rfl rfl rfl ?c1 ?c2 ?c3 ?_)
  case c1 => rw [hz32]; omega
  case c2 => unfold maxLen; omega
  case c3 => exact Nat.le_refl _
  intro w4 hown hgrow
  have HO4 : Hid (w4.ownsRow w3.heap.size 3 1 (.slice (some ⟨w3.heap.size, 0, none⟩) n n) n (icells (wkAt l os 0 0))) := by
    rw [wkAt_start, HN.out, ← made_ints, Nat.mul_one]
    exact hown
  have HB4 : Hid (Below w3.heap.size w3 w4) := (Below.refl _ _).grown hgrow (Nat.le_refl _) (fun k hk => by cases hk)
  clear hown hgrow
  go_wp2
  go_loopw [46] (fun i wr => ∃ t : Nat, t ≤ T ∧ i = .int .i64 t ∧ wr.ownsRow w3.heap.size 3 1 (.slice (some ⟨w3.heap.size, 0, none⟩) n n) n (icells (wkAt l os t 0)) ∧ Below w3.heap.size w3 wr) (fun i _ => T - (intOf i).toNat)
  case atStart => exact ⟨0, Nat.zero_le _, rfl, HO4.out, HB4.out⟩
  case round =>
    obtain ⟨t, ht, rfl, hO, hB⟩ := hrel
    have HO := Lib.hid hO
    have HBr := Lib.hid hB
    have hsr : w3.heap.size < wr.heap.size := (hO.lt _ rfl).2
    clear hO hB HO4 HB4
    by_cases htT : t < T
    · obtain ⟨r, hr⟩ := getElem?_of_lt (l := os) (k := t) (by rw [HOL.out]; exact htT)
      obtain ⟨b1, o1, rfl, hb1, r0⟩ := (HR1.out.below HBr.out (Nat.le_refl _)).int hr
      obtain ⟨r1, r2⟩ := HRO.out r (List.mem_of_getElem? hr)
      have HRT := Lib.hid hr
      clear hr
      go_wp2
      go_loopw [53] (fun i wr => ∃ m : Nat, m ≤ n ∧ i = .int .i64 m ∧ wr.ownsRow w3.heap.size 3 1 (.slice (some ⟨w3.heap.size, 0, none⟩) n n) n (icells (wkAt l os t m)) ∧ Below w3.heap.size w3 wr) (fun i _ => n - (intOf i).toNat)
      case atStart => exact ⟨0, Nat.zero_le _, rfl, HO.out, HBr.out⟩
      case round =>
        obtain ⟨m, hm, rfl, hO, hB⟩ := hrel
        have HO2 := Lib.hid hO
        have HB2 := Lib.hid hB
        have hs2 : w3.heap.size < wr.heap.size := (hO.lt _ rfl).2
        clear hO hB r0
        by_cases hlt : m < n
        · obtain ⟨x, hx⟩ := getElem?_of_lt (l := l) (k := m) (by rw [HN.out]; exact hlt)
          obtain ⟨b, off, rfl, hbl, x0, x1, x2, x3, x4⟩ := (HA.out.below (HB3.out.trans (HB2.out.mono hs3)) (Nat.le_refl _)).tsk hx
          have hxb := HG.out x (List.mem_of_getElem? hx)
          have hwb := wk_bounds hxb (t := t) (by omega) os m t (by omega)
          have hwk : (wkAt l os t m)[m]? = some (x.c * relN x t - exN os m t) := by rw [wkAt_get, hx, if_neg (by omega)]; rfl
          have HWK := Lib.hid hwk
          simp only [Tsk.bad, not_or, Int.not_lt] at hxb
          obtain ⟨y1, y2, y3, y4, y5, y6, y7⟩ := hxb
          clear hwk
          by_cases hd : due t x
          · have HW2 := Lib.hid (wkAt_due (out := os) hx hd)
            have hto := hd.1
            have hd1 : decide (x.o ≤ (t : Int)) = true := by simp [hd.1]
            have hd2 : (((t : Int) - x.o) % x.p == 0) = true := by rw [hd.2]; rfl
            have hd3 : (((t : Int) - x.o).tmod x.p == 0) = true := by rw [mod_test _ _ _ (by have := hd.1; omega), hd.2]; rfl
            clear hx hd
            generalize x.c * relN x t - exN os m t = v at *
            go_wp2
            have e2 : (wr.alloc (.cells #[.int .i64 x.p, .int .i64 x.o, .int .i64 x.c, .int .i64 x.d, .int .i64 x.q] 34)).cell? ⟨wr.heap.size, 2, none⟩ = some (.int .i64 x.c) := by simp
            have HB5 : Hid (Below w3.heap.size w3 (wr.alloc (.cells #[.int .i64 x.p, .int .i64 x.o, .int .i64 x.c, .int .i64 x.d, .int .i64 x.q] 34))) := HB2.out.alloc (by omega) _
            have HO5 := Lib.hid (HO2.out.alloc (.cells #[.int .i64 x.p, .int .i64 x.o, .int .i64 x.c, .int .i64 x.d, .int .i64 x.q] 34))
            generalize wr.alloc (.cells #[.int .i64 x.p, .int .i64 x.o, .int .i64 x.c, .int .i64 x.d, .int .i64 x.q] 34) = W1 at *
            have f0 := own_int (by rw [wkAt_length]; exact HN.out) HO5.out HWK.out
            have f1 : W1.frozen? ⟨w3.heap.size, m, none⟩ = false := HO5.out.frozenAt _
            have HO6 : Hid ((W1.setCell ⟨w3.heap.size, m, none⟩ (.int .i64 (v + x.c))).ownsRow w3.heap.size 3 1 (.slice (some ⟨w3.heap.size, 0, none⟩) n n) n (icells (wkAt l os t (m + 1)))) := by
              rw [HW2.out]
              exact own_set_int HO5.out m (v + x.c)
            have HB6 : Hid (Below w3.heap.size w3 (W1.setCell ⟨w3.heap.size, m, none⟩ (.int .i64 (v + x.c)))) := HB5.out.setCell (p := ⟨w3.heap.size, m, none⟩) (Nat.le_refl _) _
            go_region
            go_wp2
            go_roundw
            case rel => exact ⟨m + 1, by omega, by go_num, HO6.out, HB6.out.drew⟩
            case measure => simp [intOf]; omega
          · have HW2 := Lib.hid (wkAt_not (out := os) hx hd)
            have hrel2 : Hid ((wr.alloc (.cells #[.int .i64 x.p, .int .i64 x.o, .int .i64 x.c, .int .i64 x.d, .int .i64 x.q] 34)).ownsRow w3.heap.size 3 1 (.slice (some ⟨w3.heap.size, 0, none⟩) n n) n (icells (wkAt l os t (m + 1)))) := by
              rw [HW2.out]
              exact HO2.out.alloc _
            by_cases hto : x.o ≤ (t : Int)
            · have hm1 : ((t : Int) - x.o) % x.p ≠ 0 := fun e => hd ⟨hto, e⟩
              have hd1 : decide (x.o ≤ (t : Int)) = true := by simp [hto]
              have hd2 : (((t : Int) - x.o) % x.p == 0) = false := by simpa using hm1
              have hd3 : (((t : Int) - x.o).tmod x.p == 0) = false := by rw [mod_test _ _ _ (by omega)]; exact hd2
              clear hx hd hm1
              go_wp2
              go_roundw
              case rel => exact ⟨m + 1, by omega, by go_num, hrel2.out, HB2.out.alloc (by omega) _⟩
              case measure => simp [intOf]; omega
            · have hd1 : decide (x.o ≤ (t : Int)) = false := by simp; omega
              clear hx hd
              go_wp2
              go_roundw
              case rel => exact ⟨m + 1, by omega, by go_num, hrel2.out, HB2.out.alloc (by omega) _⟩
              case measure => simp [intOf]; omega
        · have hmn : m = n := by omega
          subst hmn
          go_wp2
          go_loopw [83] (fun i wr => ∃ j : Nat, j ≤ m ∧ i = .int .i64 j ∧ wr.ownsRow w3.heap.size 3 1 (.slice (some ⟨w3.heap.size, 0, none⟩) m m) m (icells (wkAt l os t m)) ∧ Below w3.heap.size w3 wr) (fun i _ => m - (intOf i).toNat)
          case atStart => exact ⟨0, Nat.zero_le _, rfl, HO2.out, HB2.out⟩
          case round =>
            obtain ⟨j, hj, rfl, hO, hB⟩ := hrel
            have HO3 := Lib.hid hO
            have HB3' := Lib.hid hB
            have hs4 : w3.heap.size < wr.heap.size := (hO.lt _ rfl).2
            clear hO hB HO2 HB2
            by_cases hlt : j < m
            · obtain ⟨x, hx⟩ := getElem?_of_lt (l := l) (k := j) (by rw [HN.out]; exact hlt)
              obtain ⟨b, off, rfl, hbl, x0, x1, x2, x3, x4⟩ := (HA.out.below (HB3.out.trans (HB3'.out.mono hs3)) (Nat.le_refl _)).tsk hx
              have hwk : (wkAt l os t m)[j]? = some (x.c * relN x (t + 1) - exN os j t) := by rw [wkAt_get, hx, if_pos hlt]; rfl
              have HWK := Lib.hid hwk
              have HU := Lib.hid (fun hp => urgent HSC.out HG.out HRT.out hx hp)
              clear hwk hx
              go_wp2
              have e4 : (wr.alloc (.cells #[.int .i64 x.p, .int .i64 x.o, .int .i64 x.c, .int .i64 x.d, .int .i64 x.q] 34)).cell? ⟨wr.heap.size, 4, none⟩ = some (.int .i64 x.q) := by simp
              have HB5 : Hid (Below w3.heap.size w3 (wr.alloc (.cells #[.int .i64 x.p, .int .i64 x.o, .int .i64 x.c, .int .i64 x.d, .int .i64 x.q] 34))) := HB3'.out.alloc (by omega) _
              have HO5 := Lib.hid (HO3.out.alloc (.cells #[.int .i64 x.p, .int .i64 x.o, .int .i64 x.c, .int .i64 x.d, .int .i64 x.q] 34))
              have hbw : Below w.heap.size w (wr.alloc (.cells #[.int .i64 x.p, .int .i64 x.o, .int .i64 x.c, .int .i64 x.d, .int .i64 x.q] 34)) := HB3.out.trans (HB5.out.mono hs3)
              generalize wr.alloc (.cells #[.int .i64 x.p, .int .i64 x.o, .int .i64 x.c, .int .i64 x.d, .int .i64 x.q] 34) = W1 at *
              have f0 := own_int (by rw [wkAt_length]; exact HN.out) HO5.out HWK.out
              by_cases hp : 0 < x.c * relN x (t + 1) - exN os j t
              · obtain ⟨k, y, rfl, hy, hlq⟩ := HU.out hp
                obtain ⟨b2, off2, e, _, _, _, _, _, t4⟩ := (HA.out.below hbw (Nat.le_refl _)).tsk hy
                simp only [Option.some.injEq, Addr.mk.injEq] at e
                obtain ⟨rfl, rfl, -⟩ := e
                have hkm : k < m := by omega
                generalize x.c * relN x (t + 1) - exN os j t = v at *
                have g1 : decide (0 < v) = true := by simp [hp]
                have g2 : decide ((k : Int) < 0) = false := by simp
                have g3 : decide (x.q < y.q) = false := by simp; omega
                clear hy hbw
                go_quiet (fail)
                go_wp2
                go_roundw
                case rel => exact ⟨j + 1, by omega, by go_num, HO5.out, Below.drewN HB5.out _⟩
                case measure => simp [intOf]; omega
              · generalize x.c * relN x (t + 1) - exN os j t = v at *
                have g1 : decide (0 < v) = false := by simp; omega
                clear hbw
                go_quiet (fail)
                go_wp2
                go_roundw
                case rel => exact ⟨j + 1, by omega, by go_num, HO5.out, Below.drewN HB5.out _⟩
                case measure => simp [intOf]; omega
            · have hjm : j = m := by omega
              subst hjm
              by_cases hr0 : r < 0
              · have HI : Hid (wkAt l os (t + 1) 0 = wkAt l os t j) := by
                  have := wkAt_idle (l := l) HRT.out hr0
                  rw [HN.out] at this
                  exact this
                have g1 : decide (0 ≤ r) = false := by simp; omega
                go_wp2
                go_roundw
                case rel => exact ⟨t + 1, by omega, by go_num, by rw [HI.out]; exact HO3.out, HB3'.out⟩
                case measure => simp [intOf]; omega
              · obtain ⟨k, rfl⟩ : ∃ k : Nat, r = k := ⟨r.toNat, by omega⟩
                obtain ⟨x, hx, hp⟩ := runs_pos HSC.out HG.out HRT.out
                have hkj : k < j := by omega
                have hwk : (wkAt l os t j)[k]? = some (x.c * relN x (t + 1) - exN os k t) := by rw [wkAt_get, hx, if_pos hkj]; rfl
                have hwb := wk_bounds (HG.out x (List.mem_of_getElem? hx)) (t := t + 1) (by omega) os k t (by omega)
                have f0 := own_int (by rw [wkAt_length]; exact HN.out) HO3.out hwk
                have f1 : wr.frozen? ⟨w3.heap.size, k, none⟩ = false := HO3.out.frozenAt _
                have HI : Hid (wkAt l os (t + 1) 0 = (wkAt l os t j).set k (x.c * relN x (t + 1) - exN os k t - 1)) := by
                  have := wkAt_run HRT.out hx
                  rw [HN.out] at this
                  exact this
                clear hx hwk
                generalize x.c * relN x (t + 1) - exN os k t = v at *
                have g1 : decide (0 ≤ (k : Int)) = true := by simp
                have g2 : decide (v ≤ 0) = false := by simp; omega
                have HO6 : Hid ((wr.setCell ⟨w3.heap.size, k, none⟩ (.int .i64 (v - 1))).ownsRow w3.heap.size 3 1 (.slice (some ⟨w3.heap.size, 0, none⟩) j j) j (icells (wkAt l os (t + 1) 0))) := by
                  rw [HI.out]
                  exact own_set_int HO3.out k (v - 1)
                have HB6 : Hid (Below w3.heap.size w3 (wr.setCell ⟨w3.heap.size, k, none⟩ (.int .i64 (v - 1)))) := HB3'.out.setCell (p := ⟨w3.heap.size, k, none⟩) (Nat.le_refl _) _
                go_wp2
                go_roundw
                case rel => exact ⟨t + 1, by omega, by go_num, HO6.out, HB6.out⟩
                case measure => simp [intOf]; omega
    · have htt : t = T := by omega
      subst htt
      go_wp2
      go_ret
      exact ⟨rfl, HB3.out.trans (HBr.out.mono hs3)⟩
end Go.Proofs.Ytcfhnjdaijdoiaa
