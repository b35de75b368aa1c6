/-
  The statement TasksRepeat, walked.
-/
import Derived.Test.YtcfhnjdaijdoiaaW25
import Derived.Test.YtcfhnjdaijdoiaaPlain21
namespace Go.Proofs.Ytcfhnjdaijdoiaa
open Go.RowKit
set_option linter.unusedVariables false

set_option maxRecDepth 100000 in
set_option maxHeartbeats 1000000 in
theorem trep_long (A : Option Addr) (n c : Nat) (w : World) (hn : n ≤ maxLen) (h40 : 40 < n) :
    Calls Try.prog 8 #[.slice A n c] w fun e w' => e = .returned (.bool true) ∧ Below w.heap.size w w' := by
  unfold maxLen at hn
  go_enter Try.func8, Try.ntmps8
  go_wp2_with (fail)
  refine (awake42 _).mono ?_
  rintro e w1 ⟨rfl, hb⟩
  have HB := Lib.hid hb
  clear hb
  go_wp2_with (fail)
  refine (awake42 _).mono ?_
  rintro e w3 ⟨rfl, hb⟩
  have HB3 : Hid (Below w.heap.size w w3) := HB.out.trans (hb.mono HB.out.size)
  clear hb
  go_wp2
  go_ret
  exact ⟨rfl, HB3.out⟩

set_option maxRecDepth 100000 in
set_option maxHeartbeats 1000000 in
theorem trep_bad (A : Option Addr) (n c : Nat) (l : List Tsk) (w : World) (hA : Rd w w.heap.size A (tcells l)) (hn : l.length = n) (hc : n ≤ c) (hcc : c ≤ maxLen) (h40 : n ≤ 40) (k : Int) (hk : check l = k) (hk0 : k ≠ 0) :
    Calls Try.prog 8 #[.slice A n c] w fun e w' => e = .returned (.bool true) ∧ Below w.heap.size w w' := by
  have HC : Hid (errV (check l) = .iface 47 (.int .i64 k)) := by rw [hk]; exact errV_ne hk0
  have h1 := ne_err
  have HA := Lib.hid hA
  have HN := Lib.hid hn
  clear hk hk0 hA hn
  go_enter Try.func8, Try.ntmps8
  go_wp2_with (fail)
  refine (awake42 _).mono ?_
  rintro e w1 ⟨rfl, hb⟩
  have HB := Lib.hid hb
  have hs := hb.size
  clear hb
  go_wp2_with (fail)
  (with_reducible refine (check_any A n c l _ ((HA.out.below HB.out (Nat.le_refl _)).more hs) HN.out hc hcc).mono ?_)
  rintro e w2 ⟨rfl, hb⟩
  rw [HC.out]
  have HB2 : Hid (Below w.heap.size w w2) := HB.out.trans (hb.mono hs)
  clear hb
  go_wp2_with (fail)
  refine (awake42 _).mono ?_
  rintro e w3 ⟨rfl, hb⟩
  have HB3 : Hid (Below w.heap.size w w3) := HB2.out.trans (hb.mono HB2.out.size)
  clear hb
  go_wp2
  go_ret
  exact ⟨rfl, HB3.out⟩

theorem busyTo_le (out : List Int) (t : Nat) : busyTo out t ≤ t := by
  unfold busyTo
  exact Nat.le_trans List.countP_le_length (List.length_take_le _ _)

theorem busyTo_zero (out : List Int) : busyTo out 0 = 0 := by simp [busyTo]

set_option maxRecDepth 100000 in
set_option maxHeartbeats 8000000 in
theorem trep_main (A : Option Addr) (n c : Nat) (l : List Tsk) (w : World) (hA : Rd w w.heap.size A (tcells l)) (hn : l.length = n) (hc : n ≤ c) (hcc : c ≤ maxLen) (hk : check l = 0) :
    Calls Try.prog 8 #[.slice A n c] w fun e w' => e = .returned (.bool true) ∧ Below w.heap.size w w' := by
  have h1 := ne_nil
  have h2 := eq_nil
  have h3 := ne_err
  obtain ⟨hg, hn8⟩ := good_of_check hk
  rw [hn] at hn8
  have HC : Hid (errV (check l) = .nilIface) := by rw [hk]; rfl
  have HG := Lib.hid hg
  have HA := Lib.hid hA
  have HN := Lib.hid hn
  have HK := Lib.hid hk
  clear hA hn hk hg
  go_enter Try.func8, Try.ntmps8
  go_wp2_with (fail)
  refine (awake42 _).mono ?_
  rintro e w1 ⟨rfl, hb⟩
  have HB := Lib.hid hb
  have hs := hb.size
  clear hb
  go_wp2_with (fail)
  (with_reducible refine (check_any A n c l _ ((HA.out.below HB.out (Nat.le_refl _)).more hs) HN.out hc hcc).mono ?_)
  rintro e w2 ⟨rfl, hb⟩
  rw [HC.out]
  have HB2 : Hid (Below w.heap.size w w2) := HB.out.trans (hb.mono hs)
  have hs2 := HB2.out.size
  clear hb
  go_wp2
  go_loopw [31] (fun i wr => ∃ k : Nat, k ≤ n ∧ i = .int .i64 k ∧ (∀ (j : Nat) (x : Tsk), j < k → l[j]? = some x → x.o = 0) ∧ Below w.heap.size w wr) (fun i _ => n - (intOf i).toNat)
  case atStart => exact ⟨0, Nat.zero_le _, rfl, fun j x h => by omega, HB2.out⟩
  case round =>
    obtain ⟨k, hk, rfl, hz, hB⟩ := hrel
    have HZ := Lib.hid hz
    have HB3 := Lib.hid hB
    have hs3 := hB.size
    clear hz hB
    by_cases hlt : k < n
    · obtain ⟨x, hx⟩ := getElem?_of_lt (l := l) (k := k) (by rw [HN.out]; exact hlt)
      obtain ⟨b, off, rfl, hbl, x0, x1, x2, x3, x4⟩ := (HA.out.below HB3.out (Nat.le_refl _)).tsk hx
      have HX := Lib.hid hx
      clear hx
      by_cases ho : x.o = 0
      · have d1 : (x.o != 0) = false := by simp [ho]
        have HO := Lib.hid ho
        clear ho
        go_wp2
        go_roundw
        case rel =>
          refine ⟨k + 1, by omega, by go_num, fun j y hj hy => ?_, HB3.out.alloc hs3 _⟩
          by_cases e : j = k
          · subst e
            rw [HX.out] at hy
            cases hy
            exact HO.out
          · exact HZ.out j y (by omega) hy
        case measure => simp [intOf]; omega
      · have d1 : (x.o != 0) = true := by simpa using ho
        go_wp2
        go_ret
        exact ⟨rfl, HB3.out.alloc hs3 _⟩
    · have hkn : k = n := by omega
      subst hkn
      have HO : Hid (∀ x ∈ l, x.o = 0) := fun x hx => by
        obtain ⟨j, hj⟩ := List.mem_iff_getElem?.1 hx
        exact HZ.out j x (by rw [← HN.out]; exact (List.getElem?_eq_some_iff.1 hj).1) hj
      clear HZ hlt hk HB HB2 hs hs2
      go_wp2_with (fail)
      (with_reducible refine (Hyper_ok A k c l _ ((HA.out.below HB3.out (Nat.le_refl _)).more hs3) HN.out hc hcc HK.out).mono ?_)
      rintro e w4 ⟨rfl, hb⟩
      have HB4 : Hid (Below w.heap.size w w4) := HB3.out.trans (hb.mono hs3)
      have hs4 := HB4.out.size
      clear hb
      obtain ⟨ho, hho⟩ : ∃ ho, hyper l = ho := ⟨_, rfl⟩
      have HH := Lib.hid hho
      clear hho
      rw [HH.out]
      cases ho with
      | none =>
        simp only [hyperV]
        go_wp2
        go_ret
        exact ⟨rfl, HB4.out⟩
      | some H =>
        obtain ⟨_, hdv, hh1, hh2⟩ := hyperFrom_spec l 1 H HG.out (Nat.le_refl _) (by omega) HH.out
        have HDV := Lib.hid hdv
        clear hdv
        simp only [hyperV]
        by_cases h4 : 400 < H
        · go_wp2
          go_ret
          exact ⟨rfl, HB4.out⟩
        · go_wp2_with (fail)
          (with_reducible refine (Late_ok A k c H l _ ((HA.out.below HB4.out (Nat.le_refl _)).more hs4) HN.out hc hcc HK.out (by omega)).mono ?_)
          rintro e w5 ⟨A3, c3, rfl, c31, c32, hr3, hb⟩
          have HB5 : Hid (Below w.heap.size w w5) := HB4.out.trans (hb.mono hs4)
          have hs5 := HB5.out.size
          clear hb hr3
          obtain ⟨nl, hnl⟩ : ∃ nl, (lateOf l H (simTo l H).2.1).length = nl := ⟨_, rfl⟩
          rw [hnl] at c31 ⊢
          have HNL := Lib.hid hnl
          clear hnl
          by_cases hl0 : 0 < nl
          · go_wp2
            go_ret
            exact ⟨rfl, HB5.out⟩
          · have HLE : Hid (lateOf l H (simTo l H).2.1 = []) := List.eq_nil_of_length_eq_zero (by rw [HNL.out]; omega)
            obtain ⟨T, hT⟩ : ∃ T : Nat, 2 * (H : Int) = T := ⟨2 * H, by simp⟩
            have HT : Hid (T = 2 * H) := by show _ = _; omega
            have hTb : T ≤ 800 := by omega
            have HRP : Hid (∀ t, t < H → (simTo l T).2.2[t]? = (simTo l T).2.2[t + H]?) := fun t ht => repeats HK.out HO.out HDV.out HLE.out HT.out ht
            have HBL : Hid ((busyTo (simTo l T).2.2 H : Int) = loadOf H l) := by
              have h1 := busy_load HK.out HO.out HDV.out HLE.out
              have h2 := ((sim_spec HK.out H).sched).unique ((sim_spec HK.out T).sched.take H) (by rw [sim_out_length, List.length_take, sim_out_length]; have := HT.out; omega)
              rw [h2] at h1
              unfold busyTo at h1 ⊢
              rw [List.take_take, Nat.min_self] at h1
              exact h1
            have HOL := Lib.hid (sim_out_length l T)
            go_wp2_with (fail)
            (with_reducible refine (Timeline_ok A k c T l _ ((HA.out.below HB5.out (Nat.le_refl _)).more hs5) HN.out hc hcc HK.out (by omega)).mono ?_)
            rintro e w6 ⟨A2, c2, rfl, c21, c22, hr2, hb⟩
            have HR2 := Lib.hid hr2
            have HB6 : Hid (Below w.heap.size w w6) := HB5.out.trans (hb.mono hs5)
            have hs6 := HB6.out.size
            clear hb hr2
            go_wp2_with (fail)
            (with_reducible refine (Load_ok A k c l _ ((HA.out.below HB6.out (Nat.le_refl _)).more hs6) HN.out hc hcc HK.out).mono ?_)
            rintro e w7 ⟨rfl, hb⟩
            rw [HH.out]
            simp only [loadV]
            have HR3 : Hid (Rd w7 w7.heap.size A2 (icells (simTo l T).2.2)) := (HR2.out.below hb (Nat.le_refl _)).more hb.size
            have HB7 : Hid (Below w.heap.size w w7) := HB6.out.trans (hb.mono hs6)
            clear hb HR2
            generalize (simTo l T).2.2 = os at *
            obtain ⟨L, hL⟩ : ∃ L, loadOf H l = L := ⟨_, rfl⟩
            rw [hL] at HBL ⊢
            clear hL
            go_wp2
            go_loopw [14, 101] (fun m i wr => ∃ t : Nat, t ≤ H ∧ i = .int .i64 t ∧ m = .int .i64 (busyTo os t) ∧ ∃ q, wr = w7.drewN q) (fun _ i _ => H - (intOf i).toNat)
            case atStart => exact ⟨0, Nat.zero_le _, rfl, by rw [busyTo_zero]; rfl, 0, rfl⟩
            case round =>
              obtain ⟨t, ht, rfl, hm, q, rfl⟩ := hrel
              by_cases htT : t < H
              · obtain ⟨r, hr⟩ := getElem?_of_lt (l := os) (k := t) (by rw [HOL.out]; omega)
                have hr' := hr
                rw [HRP.out t htT] at hr'
                obtain ⟨u, hu⟩ : ∃ u : Nat, (t : Int) + H = u := ⟨t + H, by simp⟩
                rw [show t + H = u by omega] at hr'
                obtain ⟨b2, o2, rfl, hb2, r0⟩ := HR3.out.int hr
                obtain ⟨b2', o2', eA, _, r1⟩ := HR3.out.int hr'
                obtain ⟨rfl, rfl⟩ : b2 = b2' ∧ o2 = o2' := by simpa using eA
                have hbs := busyTo_step hr
                have hbl := busyTo_le os t
                have HBS := Lib.hid hbs
                clear hr hr' eA hbs
                subst hm
                generalize busyTo os t = v at *
                by_cases hr0 : 0 ≤ r
                · have HBS2 : Hid (busyTo os (t + 1) = v + 1) := by have := HBS.out; rw [if_pos hr0] at this; exact this
                  have d1 : decide (0 ≤ r) = true := by simp [hr0]
                  go_wp2
                  go_quiet (fail)
                  go_wp2
                  go_roundw
                  case rel => exact ⟨t + 1, by omega, by go_num, by rw [HBS2.out]; go_num, _, rfl⟩
                  case measure => simp [intOf]; omega
                · have HBS2 : Hid (busyTo os (t + 1) = v) := by have := HBS.out; rw [if_neg hr0] at this; exact this
                  have d1 : decide (0 ≤ r) = false := by simp; omega
                  go_wp2
                  go_quiet (fail)
                  go_wp2
                  go_roundw
                  case rel => exact ⟨t + 1, by omega, by go_num, by rw [HBS2.out], _, rfl⟩
                  case measure => simp [intOf]; omega
              · have htt : t = H := by omega
                subst htt
                rw [HBL.out] at hm
                subst hm
                have d1 : (L == L) = true := by simp
                go_wp2
                go_ret
                exact ⟨rfl, Below.drewN HB7.out q⟩
end Go.Proofs.Ytcfhnjdaijdoiaa
