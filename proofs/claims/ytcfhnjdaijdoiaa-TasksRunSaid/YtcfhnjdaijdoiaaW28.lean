/-
  The statement TasksRun, walked.
-/
import Derived.Test.YtcfhnjdaijdoiaaW27
import Derived.Test.YtcfhnjdaijdoiaaW25
namespace Go.Proofs.Ytcfhnjdaijdoiaa
open Go.RowKit
set_option linter.unusedVariables false

set_option maxHeartbeats 1000000 in
theorem trun_refused (A : Option Addr) (n c : Nat) (T : Int) (l : List Tsk) (w : World) (hA : Rd w w.heap.size A (tcells l)) (hn : l.length = n) (hc : n ≤ c) (hcc : c ≤ maxLen) (hk : fewB n T = false ∨ check l ≠ 0) :
    Calls Try.prog 6 #[.slice A n c, .int .i64 T] w fun e w' => e = .returned (.bool true) ∧ Below w.heap.size w w' := by
  have HA := Lib.hid hA
  have HN := Lib.hid hn
  clear hA hn
  by_cases hf : fewB n T = false
  · have HF := Lib.hid hf
    clear hk hf
    go_enter Try.func6, Try.ntmps6
    go_wp2_with (fail)
    refine (awake42 _).mono ?_
    rintro e w1 ⟨rfl, hb⟩
    have HB := Lib.hid hb
    clear hb
    go_wp2_with (fail)
    (with_reducible refine (few_any A n c T _ (Nat.le_trans hc hcc)).mono ?_)
    rintro e w2 ⟨rfl, rfl⟩
    rw [HF.out]
    go_wp2_with (fail)
    refine (awake42 _).mono ?_
    rintro e w3 ⟨rfl, hb⟩
    have HB3 : Hid (Below w.heap.size w w3) := HB.out.trans (hb.mono HB.out.size)
    clear hb
    go_wp2
    go_ret
    exact ⟨rfl, HB3.out⟩
  · have HF : Hid (fewB n T = true) := by simpa [Hid] using hf
    obtain ⟨k, hck⟩ : ∃ k, check l = k := ⟨_, rfl⟩
    have HK := Lib.hid hck
    have hk0 : k ≠ 0 := by
      rcases hk with h | h
      · exact absurd h hf
      · rw [← hck]; exact h
    have hkb : (k == 0) = false := by simpa using hk0
    clear hk hf hck
    go_enter Try.func6, Try.ntmps6
    go_wp2_with (fail)
    refine (awake42 _).mono ?_
    rintro e w1 ⟨rfl, hb⟩
    have HB := Lib.hid hb
    have hs := hb.size
    clear hb
    go_wp2_with (fail)
    (with_reducible refine (few_any A n c T _ (Nat.le_trans hc hcc)).mono ?_)
    rintro e w2 ⟨rfl, rfl⟩
    rw [HF.out]
    go_wp2_with (fail)
    (with_reducible refine (refCheck_any A n c l _ ((HA.out.below HB.out (Nat.le_refl _)).more hs) HN.out hc hcc).mono ?_)
    rintro e w2 ⟨rfl, hb⟩
    rw [HK.out]
    have HB2 : Hid (Below w.heap.size w w2) := HB.out.trans (hb.mono hs)
    clear hb
    go_wp2_with (fail)
    refine (awake42 _).mono ?_
    rintro e w3 ⟨rfl, hb⟩
    have HB3 : Hid (Below w.heap.size w w3) := HB2.out.trans (hb.mono HB2.out.size)
    clear hb
    go_wp2
    go_ret
    exact ⟨rfl, HB3.out⟩

set_option maxHeartbeats 2000000 in
theorem trun_range (A : Option Addr) (n c : Nat) (T : Int) (l : List Tsk) (w : World) (hA : Rd w w.heap.size A (tcells l)) (hn : l.length = n) (hc : n ≤ c) (hcc : c ≤ maxLen) (hf : fewB n T = true) (hk : check l = 0) (hT : T < 0 ∨ 65536 < T) :
    Calls Try.prog 6 #[.slice A n c, .int .i64 T] w fun e w' => e = .returned (.bool true) ∧ Below w.heap.size w w' := by
  have HA := Lib.hid hA
  have HN := Lib.hid hn
  have HF := Lib.hid hf
  have HK := Lib.hid hk
  have HG : Hid (givenC l T = 3) := by unfold givenC; rw [if_neg (by rw [hk]; simp), if_pos hT]; exact rfl
  clear hA hn hf hk
  go_enter Try.func6, Try.ntmps6
  go_wp2_with (fail)
  refine (awake42 _).mono ?_
  rintro e w1 ⟨rfl, hb⟩
  have HB := Lib.hid hb
  have hs := hb.size
  clear hb
  go_wp2_with (fail)
  (with_reducible refine (few_any A n c T _ (Nat.le_trans hc hcc)).mono ?_)
  rintro e w2 ⟨rfl, rfl⟩
  rw [HF.out]
  go_wp2_with (fail)
  (with_reducible refine (refCheck_any A n c l _ ((HA.out.below HB.out (Nat.le_refl _)).more hs) HN.out hc hcc).mono ?_)
  rintro e w2 ⟨rfl, hb⟩
  rw [HK.out]
  have HB2 : Hid (Below w.heap.size w w2) := HB.out.trans (hb.mono hs)
  have hs2 := HB2.out.size
  clear hb
  go_wp2_with (fail)
  (with_reducible refine (Timeline_err A n c T l _ ((HA.out.below HB2.out (Nat.le_refl _)).more hs2) HN.out hc hcc 3 HG.out (by decide)).mono ?_)
  rintro e w3 ⟨rfl, hb⟩
  have HB3 : Hid (Below w.heap.size w w3) := HB2.out.trans (hb.mono hs2)
  have hs3 := HB3.out.size
  clear hb
  go_wp2_with (fail)
  (with_reducible refine (Jobs_err A n c T l _ ((HA.out.below HB3.out (Nat.le_refl _)).more hs3) HN.out hc hcc 3 HG.out (by decide)).mono ?_)
  rintro e w4 ⟨rfl, hb⟩
  have HB4 : Hid (Below w.heap.size w w4) := HB3.out.trans (hb.mono hs3)
  have hs4 := HB4.out.size
  clear hb
  go_wp2_with (fail)
  (with_reducible refine (Late_err A n c T l _ ((HA.out.below HB4.out (Nat.le_refl _)).more hs4) HN.out hc hcc 3 HG.out (by decide)).mono ?_)
  rintro e w5 ⟨rfl, hb⟩
  have HB5 : Hid (Below w.heap.size w w5) := HB4.out.trans (hb.mono hs4)
  clear hb
  by_cases h0 : T < 0
  · clear hT
    go_wp2_with (fail)
    refine (is_err 3 3 _).mono ?_
    rintro e w6 ⟨rfl, rfl⟩
    go_wp2_with (fail)
    refine (is_err 3 3 _).mono ?_
    rintro e w6 ⟨rfl, rfl⟩
    go_wp2_with (fail)
    refine (is_err 3 3 _).mono ?_
    rintro e w6 ⟨rfl, rfl⟩
    go_wp2
    go_ret
    exact ⟨rfl, HB5.out⟩
  · have h6 : 65536 < T := by omega
    clear hT
    go_wp2_with (fail)
    refine (is_err 3 3 _).mono ?_
    rintro e w6 ⟨rfl, rfl⟩
    go_wp2_with (fail)
    refine (is_err 3 3 _).mono ?_
    rintro e w6 ⟨rfl, rfl⟩
    go_wp2_with (fail)
    refine (is_err 3 3 _).mono ?_
    rintro e w6 ⟨rfl, rfl⟩
    go_wp2
    go_ret
    exact ⟨rfl, HB5.out⟩

set_option maxHeartbeats 4000000 in
theorem trun_main (A : Option Addr) (n c T : Nat) (l : List Tsk) (w : World) (hA : Rd w w.heap.size A (tcells l)) (hn : l.length = n) (hc : n ≤ c) (hcc : c ≤ maxLen) (hf : fewB n T = true) (hk : check l = 0) (hT : T ≤ 65536) :
    Calls Try.prog 6 #[.slice A n c, .int .i64 T] w fun e w' => e = .returned (.bool true) ∧ Below w.heap.size w w' := by
  have h1 := eq_nil
  have hjl := (wf_sim (good_of_check hk).1 (good_of_check hk).2 T).jobs_le
  have hTm : T ≤ maxLen := by unfold maxLen; omega
  obtain ⟨nj, hnj⟩ : ∃ nj, (simTo l T).2.1.length = nj := ⟨_, rfl⟩
  rw [hnj] at hjl
  have HNJ := Lib.hid hnj
  have HOL := Lib.hid (sim_out_length l T)
  have HA := Lib.hid hA
  have HN := Lib.hid hn
  have HF := Lib.hid hf
  have HK := Lib.hid hk
  clear hA hn hf hk hnj
  go_enter Try.func6, Try.ntmps6
  go_wp2_with (fail)
  refine (awake42 _).mono ?_
  rintro e w1 ⟨rfl, hb⟩
  have HB := Lib.hid hb
  have hs := hb.size
  clear hb
  go_wp2_with (fail)
  (with_reducible refine (few_any A n c T _ (Nat.le_trans hc hcc)).mono ?_)
  rintro e w2 ⟨rfl, rfl⟩
  rw [HF.out]
  go_wp2_with (fail)
  (with_reducible refine (refCheck_any A n c l _ ((HA.out.below HB.out (Nat.le_refl _)).more hs) HN.out hc hcc).mono ?_)
  rintro e w2 ⟨rfl, hb⟩
  rw [HK.out]
  have HB2 : Hid (Below w.heap.size w w2) := HB.out.trans (hb.mono hs)
  have hs2 := HB2.out.size
  clear hb
  go_wp2_with (fail)
  (with_reducible refine (Timeline_ok A n c T l _ ((HA.out.below HB2.out (Nat.le_refl _)).more hs2) HN.out hc hcc HK.out hT).mono ?_)
  rintro e w3 ⟨A1, c1, rfl, c11, c12, hr1, hb⟩
  have HR1 := Lib.hid hr1
  have HB3 : Hid (Below w.heap.size w w3) := HB2.out.trans (hb.mono hs2)
  have hs3 := HB3.out.size
  clear hb hr1
  go_wp2_with (fail)
  (with_reducible refine (Jobs_ok A n c T nj l _ ((HA.out.below HB3.out (Nat.le_refl _)).more hs3) HN.out hc hcc HK.out hT HNJ.out).mono ?_)
  rintro e w4 ⟨A2, c2, rfl, c21, c22, hr2, hb⟩
  have HR1b : Hid (Rd w4 w4.heap.size A1 (icells (simTo l T).2.2)) := (HR1.out.below hb (Nat.le_refl _)).more hb.size
  have HR2 := Lib.hid hr2
  have HB4 : Hid (Below w.heap.size w w4) := HB3.out.trans (hb.mono hs3)
  have hs4 := HB4.out.size
  clear hb hr2 HR1
  go_wp2_with (fail)
  (with_reducible refine (Late_ok A n c T l _ ((HA.out.below HB4.out (Nat.le_refl _)).more hs4) HN.out hc hcc HK.out hT).mono ?_)
  rintro e w5 ⟨A3, c3, rfl, c31, c32, hr3, hb⟩
  obtain ⟨nl, hnl⟩ : ∃ nl, (lateOf l T (simTo l T).2.1).length = nl := ⟨_, rfl⟩
  rw [hnl] at c31 ⊢
  have HNL := Lib.hid hnl
  have HR1c : Hid (Rd w5 w5.heap.size A1 (icells (simTo l T).2.2)) := (HR1b.out.below hb (Nat.le_refl _)).more hb.size
  have HR2b : Hid (Rd w5 w5.heap.size A2 (jcells (simTo l T).2.1)) := (HR2.out.below hb (Nat.le_refl _)).more hb.size
  have HR3 := Lib.hid hr3
  have HB5 : Hid (Below w.heap.size w w5) := HB4.out.trans (hb.mono hs4)
  have hs5 := HB5.out.size
  clear hb hr3 HR1b HR2 hnl
  go_wp2_with (fail)
  (with_reducible refine (refTimeline_ok A n c T l _ ((HA.out.below HB5.out (Nat.le_refl _)).more hs5) HN.out HK.out hT).mono ?_)
  rintro e w6 ⟨A4, c4, rfl, c41, c42, hr4, hb⟩
  have HR4 := Lib.hid hr4
  have HR1d : Hid (Rd w6 w6.heap.size A1 (icells (simTo l T).2.2)) := (HR1c.out.below hb (Nat.le_refl _)).more hb.size
  have HR2c : Hid (Rd w6 w6.heap.size A2 (jcells (simTo l T).2.1)) := (HR2b.out.below hb (Nat.le_refl _)).more hb.size
  have HR3b : Hid (Rd w6 w6.heap.size A3 (jcells (lateOf l T (simTo l T).2.1))) := (HR3.out.below hb (Nat.le_refl _)).more hb.size
  have HB6 : Hid (Below w.heap.size w w6) := HB5.out.trans (hb.mono hs5)
  clear hb hr4 HR1c HR2b HR3
  go_wp2_with (fail)
  (with_reducible refine (ints_any A1 A4 T T c1 c4 _ _ _ HR1d.out HR4.out HOL.out HOL.out hTm hTm).mono ?_)
  rintro e w7 ⟨rfl, q, rfl⟩
  rw [decide_eq_true (rfl : (simTo l T).2.2 = (simTo l T).2.2)]
  have HB7 : Hid (Below w.heap.size w (w6.drewN q)) := Below.drewN HB6.out q
  have HR2d : Hid (Rd (w6.drewN q) (w6.drewN q).heap.size A2 (jcells (simTo l T).2.1)) := HR2c.out
  have HR3c : Hid (Rd (w6.drewN q) (w6.drewN q).heap.size A3 (jcells (lateOf l T (simTo l T).2.1))) := HR3b.out
  clear HB6 HR1d HR4 HR2c HR3b
  generalize w6.drewN q = w7 at *
  have hs7 := HB7.out.size
  go_wp2_with (fail)
  (with_reducible refine (refJobs_ok A n c T nj l _ ((HA.out.below HB7.out (Nat.le_refl _)).more hs7) HN.out HK.out hT HNJ.out).mono ?_)
  rintro e w8 ⟨A5, c5, rfl, c51, c52, hr5, hb⟩
  have HR5 := Lib.hid hr5
  have HR2e : Hid (Rd w8 w8.heap.size A2 (jcells (simTo l T).2.1)) := (HR2d.out.below hb (Nat.le_refl _)).more hb.size
  have HR3d : Hid (Rd w8 w8.heap.size A3 (jcells (lateOf l T (simTo l T).2.1))) := (HR3c.out.below hb (Nat.le_refl _)).more hb.size
  have HB8 : Hid (Below w.heap.size w w8) := HB7.out.trans (hb.mono hs7)
  clear hb hr5 HR2d HR3c
  go_wp2_with (fail)
  (with_reducible refine (same_eq A2 A5 nj c2 c5 _ _ HR2e.out HR5.out HNJ.out (Nat.le_trans c21 c22)).mono ?_)
  rintro e w9 ⟨rfl, q, rfl⟩
  have HB9 : Hid (Below w.heap.size w (w8.drewN q)) := Below.drewN HB8.out q
  have HR3e : Hid (Rd (w8.drewN q) (w8.drewN q).heap.size A3 (jcells (lateOf l T (simTo l T).2.1))) := HR3d.out
  clear HB8 HR2e HR5 HR3d
  generalize w8.drewN q = w9 at *
  have hs9 := HB9.out.size
  go_wp2_with (fail)
  (with_reducible refine (refLate_ok A n c T l _ ((HA.out.below HB9.out (Nat.le_refl _)).more hs9) HN.out HK.out hT).mono ?_)
  rintro e w10 ⟨A6, c6, rfl, c61, c62, hr6, hb⟩
  rw [HNL.out] at c61 ⊢
  have HR6 := Lib.hid hr6
  have HR3f : Hid (Rd w10 w10.heap.size A3 (jcells (lateOf l T (simTo l T).2.1))) := (HR3e.out.below hb (Nat.le_refl _)).more hb.size
  have HB10 : Hid (Below w.heap.size w w10) := HB9.out.trans (hb.mono hs9)
  clear hb hr6 HR3e
  go_wp2_with (fail)
  (with_reducible refine (same_eq A3 A6 nl c3 c6 _ _ HR3f.out HR6.out HNL.out (Nat.le_trans c31 c32)).mono ?_)
  rintro e w11 ⟨rfl, q, rfl⟩
  go_wp2
  go_ret
  exact ⟨rfl, Below.drewN HB10.out q⟩

theorem trun_any (A : Option Addr) (n c : Nat) (T : Int) (l : List Tsk) (w : World) (hA : Rd w w.heap.size A (tcells l)) (hn : l.length = n) (hc : n ≤ c) (hcc : c ≤ maxLen) :
    Calls Try.prog 6 #[.slice A n c, .int .i64 T] w fun e w' => e = .returned (.bool true) ∧ Below w.heap.size w w' := by
  by_cases hf : fewB n T = true
  · by_cases hk : check l = 0
    · by_cases hT : T < 0 ∨ 65536 < T
      · exact trun_range A n c T l w hA hn hc hcc hf hk hT
      · obtain ⟨t, rfl⟩ : ∃ t : Nat, T = t := ⟨T.toNat, by omega⟩
        exact trun_main A n c t l w hA hn hc hcc hf hk (by omega)
    · exact trun_refused A n c T l w hA hn hc hcc (.inr hk)
  · exact trun_refused A n c T l w hA hn hc hcc (.inl (by simpa using hf))
end Go.Proofs.Ytcfhnjdaijdoiaa
