/-
  The statement ResponseBounds, walked.
-/
import Derived.Test.YtcfhnjdaijdoiaaW24
import Derived.Test.YtcfhnjdaijdoiaaPlain22
namespace Go.Proofs.Ytcfhnjdaijdoiaa
open Go.RowKit
set_option linter.unusedVariables false

set_option maxRecDepth 100000 in
set_option maxHeartbeats 1000000 in
theorem rbound_long (A : Option Addr) (n c : Nat) (a : Int) (w : World) (hn : n ≤ maxLen) (h40 : 40 < n) :
    Calls Try.prog 13 #[.slice A n c, .int .u16 a] w fun e w' => e = .returned (.bool true) ∧ Below w.heap.size w w' := by
  unfold maxLen at hn
  go_enter Try.func13, Try.ntmps13
  go_wp2_with (fail)
  refine (awake43 _).mono ?_
  rintro e w1 ⟨rfl, hb⟩
  have HB := Lib.hid hb
  clear hb
  go_wp2_with (fail)
  refine (awake43 _).mono ?_
  rintro e w3 ⟨rfl, hb⟩
  have HB3 : Hid (Below w.heap.size w w3) := HB.out.trans (hb.mono HB.out.size)
  clear hb
  go_wp2
  go_ret
  exact ⟨rfl, HB3.out⟩

set_option maxRecDepth 100000 in
set_option maxHeartbeats 1000000 in
theorem rbound_bad (A : Option Addr) (n c : Nat) (a : Int) (l : List Tsk) (w : World) (hA : Rd w w.heap.size A (tcells l)) (hn : l.length = n) (hc : n ≤ c) (hcc : c ≤ maxLen) (h40 : n ≤ 40) (k : Int) (hk : check l = k) (hk0 : k ≠ 0) :
    Calls Try.prog 13 #[.slice A n c, .int .u16 a] w fun e w' => e = .returned (.bool true) ∧ Below w.heap.size w w' := by
  have HC : Hid (errV (check l) = .iface 47 (.int .i64 k)) := by rw [hk]; exact errV_ne hk0
  have h1 := ne_err
  have HA := Lib.hid hA
  have HN := Lib.hid hn
  clear hk hk0 hA hn
  go_enter Try.func13, Try.ntmps13
  go_wp2_with (fail)
  refine (awake43 _).mono ?_
  rintro e w1 ⟨rfl, hb⟩
  have HB := Lib.hid hb
  have hs := hb.size
  clear hb
  go_wp2_with (fail)
  (with_reducible refine (check_any A n c l _ ((HA.out.below HB.out (Nat.le_refl _)).more hs) HN.out hc hcc).mono ?_)
  rintro e w2 ⟨rfl, hb⟩
  rw [HC.out]
  have HB2 : Hid (Below w.heap.size w w2) := HB.out.trans (hb.mono hs)
  clear hb
  go_wp2_with (fail)
  refine (awake43 _).mono ?_
  rintro e w3 ⟨rfl, hb⟩
  have HB3 : Hid (Below w.heap.size w w3) := HB2.out.trans (hb.mono HB2.out.size)
  clear hb
  go_wp2
  go_ret
  exact ⟨rfl, HB3.out⟩

theorem worst_range {l : List Tsk} {x : Tsk} (hb : ¬ x.bad) : 0 ≤ worst l x ∧ worst l x ≤ 4096 := by
  simp only [Tsk.bad, not_or, Int.not_lt] at hb
  by_cases h : worst l x = 0
  · omega
  · have := worst_spec h
    omega

set_option maxRecDepth 100000 in
set_option maxHeartbeats 8000000 in
theorem rbound_main (A : Option Addr) (n c : Nat) (a : Int) (l : List Tsk) (w : World) (hA : Rd w w.heap.size A (tcells l)) (hn : l.length = n) (hc : n ≤ c) (hcc : c ≤ maxLen) (hk : check l = 0) (ha : 0 ≤ a ∧ a < 65536) :
    Calls Try.prog 13 #[.slice A n c, .int .u16 a] w fun e w' => e = .returned (.bool true) ∧ Below w.heap.size w w' := by
  have h1 := ne_nil
  obtain ⟨T, hT⟩ : ∃ T : Nat, a % 300 = T := ⟨(a % 300).toNat, by omega⟩
  have hT3 : T < 300 := by omega
  have hT2 : a.tmod 300 = T := by rw [Int.tmod_eq_emod_of_nonneg ha.1]; exact hT
  obtain ⟨hg, hn8⟩ := good_of_check hk
  have hjl := (wf_sim hg hn8 T).jobs_le
  rw [hn] at hn8
  have HSP := Lib.hid (sim_spec hk T)
  obtain ⟨js, hjs⟩ : ∃ js, (simTo l T).2.1 = js := ⟨_, rfl⟩
  obtain ⟨nj, hnj⟩ : ∃ nj, js.length = nj := ⟨_, rfl⟩
  rw [hjs] at HSP
  rw [hjs, hnj] at hjl
  have HJO : Hid (∀ j ∈ js, JobOk l.length T j) := by rw [← hjs]; exact jobs_ok l T
  have HNJ0 : Hid ((simTo l T).2.1.length = nj) := by rw [hjs]; exact hnj
  have HJS := Lib.hid hjs
  have HNJ := Lib.hid hnj
  have HC : Hid (errV (check l) = .nilIface) := by rw [hk]; rfl
  have HG := Lib.hid hg
  have HA := Lib.hid hA
  have HN := Lib.hid hn
  have HK := Lib.hid hk
  obtain ⟨ha1, ha2⟩ := ha
  clear hA hn hk hg hjs hnj
  go_enter Try.func13, Try.ntmps13
  go_wp2_with (fail)
  refine (awake43 _).mono ?_
  rintro e w1 ⟨rfl, hb⟩
  have HB := Lib.hid hb
  have hs := hb.size
  clear hb
  go_wp2_with (fail)
  (with_reducible refine (check_any A n c l _ ((HA.out.below HB.out (Nat.le_refl _)).more hs) HN.out hc hcc).mono ?_)
  rintro e w2 ⟨rfl, hb⟩
  rw [HC.out]
  have HB2 : Hid (Below w.heap.size w w2) := HB.out.trans (hb.mono hs)
  have hs2 := HB2.out.size
  clear hb
  go_wp2_with (fail)
  (with_reducible refine (Worst_ok A n c l _ ((HA.out.below HB2.out (Nat.le_refl _)).more hs2) HN.out hc hcc HK.out).mono ?_)
  rintro e w3 ⟨A1, c1, rfl, c11, c12, hr1, hb⟩
  have HR1 := Lib.hid hr1
  have HB3 : Hid (Below w.heap.size w w3) := HB2.out.trans (hb.mono hs2)
  have hs3 := HB3.out.size
  clear hb hr1
  go_wp2_with (fail)
  (with_reducible refine (Jobs_ok A n c T nj l _ ((HA.out.below HB3.out (Nat.le_refl _)).more hs3) HN.out hc hcc HK.out (by omega) HNJ0.out).mono ?_)
  rintro e w4 ⟨A2, c2, rfl, c21, c22, hr2, hb⟩
  rw [HJS.out] at hr2
  have HR2 := Lib.hid hr2
  have HR1b : Hid (Rd w4 w4.heap.size A1 (icells (l.map (worst l)))) := (HR1.out.below hb (Nat.le_refl _)).more hb.size
  have HB4 : Hid (Below w.heap.size w w4) := HB3.out.trans (hb.mono hs3)
  have hs4 : w.heap.size ≤ w4.heap.size := HB4.out.size
  have d0 : ((n : Int) != n) = false := by simp
  clear hb hr2 HR1 HB HB2 HB3 hs hs2 hs3
  go_wp2
  go_loopw [55] (fun i wr => ∃ k : Nat, k ≤ nj ∧ i = .int .i64 k ∧ Below w4.heap.size w4 wr) (fun i _ => nj - (intOf i).toNat)
  case atStart => exact ⟨0, Nat.zero_le _, rfl, Below.refl _ _⟩
  case round =>
    obtain ⟨k, hk, rfl, hB⟩ := hrel
    have HB5 := Lib.hid hB
    have hs5 := hB.size
    clear hB
    by_cases hlt : k < nj
    · obtain ⟨jb, hjb⟩ := getElem?_of_lt (l := js) (k := k) (by rw [HNJ.out]; exact hlt)
      obtain ⟨b2, o2, rfl, hb2, j0, j1, j2, j3⟩ := (HR2.out.below HB5.out (Nat.le_refl _)).jb hjb
      have hmem := List.mem_of_getElem? hjb
      obtain ⟨⟨k1, k2⟩, ⟨r1, r2⟩, ⟨s1, s2⟩, ⟨f1, f2⟩⟩ := HJO.out jb hmem
      obtain ⟨i, hki⟩ : ∃ i : Nat, jb.k = i := ⟨jb.k.toNat, by omega⟩
      have hin : i < n := by rw [HN.out] at k2; omega
      obtain ⟨x, hx⟩ := getElem?_of_lt (l := l) (k := i) (by rw [HN.out]; exact hin)
      have hwr := worst_range (l := l) (HG.out x (List.mem_of_getElem? hx))
      have hbj := bound_job HK.out HSP.out hmem hki hx
      have hxw : (l.map (worst l))[i]? = some (worst l x) := by rw [List.getElem?_map, hx]; rfl
      obtain ⟨b1, o1, rfl, hb1, r0⟩ := (HR1b.out.below HB5.out (Nat.le_refl _)).int hxw
      have hb1r : b1 < wr.heap.size := by omega
      rw [hki] at j0
      clear hjb hxw hx hmem
      generalize worst l x = r at *
      by_cases hr0 : r = 0
      · subst hr0
        clear hbj
        go_wp2
        go_roundw
        case rel => exact ⟨k + 1, by omega, by go_num, HB5.out.alloc hs5 _⟩
        case measure => simp [intOf]; omega
      · obtain ⟨q1, q2⟩ := hbj hr0
        have g1 : decide (0 < r) = true := by simp; omega
        have g2 : decide (jb.rel + r < jb.fin) = false := by simp; omega
        by_cases hf : jb.fin < 0
        · have g3 : decide (jb.fin < 0) = true := by simp [hf]
          have g4 : decide (jb.rel + r ≤ (T : Int)) = false := by simp; exact q2 hf
          clear q2 hbj
          go_wp2
          go_roundw
          case rel => exact ⟨k + 1, by omega, by go_num, HB5.out.alloc hs5 _⟩
          case measure => simp [intOf]; omega
        · have g3 : decide (jb.fin < 0) = false := by simp; omega
          clear q2 hbj
          go_wp2
          go_roundw
          case rel => exact ⟨k + 1, by omega, by go_num, HB5.out.alloc hs5 _⟩
          case measure => simp [intOf]; omega
    · have hkn : k = nj := by omega
      subst hkn
      go_wp2
      go_ret
      exact ⟨rfl, HB4.out.trans (HB5.out.mono hs4)⟩
end Go.Proofs.Ytcfhnjdaijdoiaa
