/-
  The statements' fixed fact about the layer tasks, and what they look at.
-/
import Derived.Test.YtcfhnjdaijdoiaaW23
import Derived.Test.YtcfhnjdaijdoiaaW7
namespace Go.Proofs.Ytcfhnjdaijdoiaa
open Go.RowKit
set_option linter.unusedVariables false

def exTasks : List Tsk := [⟨4, 0, 1, 4, 0⟩, ⟨6, 0, 3, 6, 1⟩]
def exLine : List Int := [0, 1, 1, 1, 0, -1, 1, 1, 0, 1, -1, -1]
theorem ex_line : (simTo exTasks 12).2.2 = exLine := by decide +kernel

set_option maxHeartbeats 1000000 in
theorem example42 (w : World) : Calls Try.prog 49 #[] w fun e w' => e = .returned (.slice (some ⟨w.heap.size, 0, none⟩) 2 2) ∧ w' = w.alloc (.cells #[.int .i64 4, .int .i64 0, .int .i64 1, .int .i64 4, .int .i64 0, .int .i64 6, .int .i64 0, .int .i64 3, .int .i64 6, .int .i64 1] 34) := by
  go_enter Try.func49, Try.ntmps49
  go_wp2
  go_ret
  exact ⟨rfl, rfl⟩

set_option maxHeartbeats 1000000 in
theorem awake42 (w : World) : Calls Try.prog 18 #[] w fun e w' => e = .returned (.bool true) ∧ Below w.heap.size w w' := by
  have h1 := eq_nil
  go_enter Try.func18, Try.ntmps18
  go_wp2_with (fail)
  refine (example42 _).mono ?_
  rintro e w0 ⟨rfl, hw0⟩
  have HR : Hid (Rd w0 w0.heap.size (some ⟨w.heap.size, 0, none⟩) (tcells exTasks)) := by
    rw [hw0, World.size_alloc]
    exact Rd.new w _ _ _ rfl
  have HB0 : Hid (Below w.heap.size w w0) := by rw [hw0]; exact (Below.refl _ _).alloc (Nat.le_refl _) _
  clear hw0
  go_wp2_with (fail)
  (refine (Timeline_ok _ 2 2 12 exTasks _ HR.out rfl (Nat.le_refl _) (by unfold maxLen; omega) (by decide) (by omega)).mono ?_)
  rintro e w1 ⟨A, c, rfl, hc1, hc2, hr, hb⟩
  rw [ex_line] at hr
  have HB : Hid (Below w.heap.size w w1) := HB0.out.trans (hb.mono HB0.out.size)
  have HR1 : Hid (Rd w1 w1.heap.size A (icells exLine)) := hr
  have hs : w.heap.size ≤ w1.heap.size := HB.out.size
  clear hr hb HR HB0
  go_wp2_with (fail)
  have HR2 : Hid (Rd (w1.alloc (.cells #[.int .i64 0, .int .i64 1, .int .i64 1, .int .i64 1, .int .i64 0, .int .i64 (-1), .int .i64 1, .int .i64 1, .int .i64 0, .int .i64 1, .int .i64 (-1), .int .i64 (-1)] 3)) (w1.heap.size + 1) (some ⟨w1.heap.size, 0, none⟩) (icells exLine)) := Rd.new w1 _ _ _ rfl
  have HB2 : Hid (Below w1.heap.size w1 (w1.alloc (.cells #[.int .i64 0, .int .i64 1, .int .i64 1, .int .i64 1, .int .i64 0, .int .i64 (-1), .int .i64 1, .int .i64 1, .int .i64 0, .int .i64 1, .int .i64 (-1), .int .i64 (-1)] 3))) := (Below.refl _ _).alloc (Nat.le_refl _) _
  (with_reducible refine (ints_any A _ 12 12 c 12 exLine exLine _ (by rw [World.size_alloc]; exact (HR1.out.below HB2.out (Nat.le_refl _)).more (by omega)) (by rw [World.size_alloc]; exact HR2.out) rfl rfl (by unfold maxLen; omega) (by unfold maxLen; omega)).mono ?_)
  rintro e w2 ⟨rfl, q, rfl⟩
  go_wp2
  go_ret
  exact ⟨rfl, Below.drewN (HB.out.alloc hs _) _⟩

def fewB (n : Nat) (T : Int) : Bool := decide (n ≤ 40) && (decide (T < 0) || decide (65536 < T) || decide (T ≤ 400))

set_option maxHeartbeats 1000000 in
theorem few_any (A : Option Addr) (n c : Nat) (T : Int) (w : World) (hn : n ≤ maxLen) : Calls Try.prog 23 #[.slice A n c, .int .i64 T] w fun e w' => e = .returned (.bool (fewB n T)) ∧ w = w' := by
  unfold maxLen at hn
  go_enter Try.func23, Try.ntmps23
  by_cases g1 : n ≤ 40
  · by_cases g2 : T < 0
    · have HM : Hid (fewB n T = true) := by simp [Hid, fewB, g1, g2]
      go_wp2
      go_ret
      exact ⟨by rw [HM.out]; rfl, rfl⟩
    · by_cases g3 : 65536 < T
      · have HM : Hid (fewB n T = true) := by simp [Hid, fewB, g1, g3]
        go_wp2
        go_ret
        exact ⟨by rw [HM.out]; rfl, rfl⟩
      · have HM : Hid (fewB n T = decide (T ≤ 400)) := by simp [Hid, fewB, g1, g2, g3]
        go_wp2
        go_ret
        exact ⟨by rw [HM.out]; rfl, rfl⟩
  · have HM : Hid (fewB n T = false) := by simp [Hid, fewB, g1]
    go_wp2
    go_ret
    exact ⟨by rw [HM.out]; rfl, rfl⟩

/-- What is looked at further. -/
def PlayedEnd (l : List Tsk) (T nj : Nat) (w : World) (e : Ending) (w' : World) : Prop :=
  ∃ A c A' c', e = .returned (.tuple #[.slice A T c, .slice A' nj c', .bool true]) ∧ T ≤ c ∧ c ≤ maxLen ∧ nj ≤ c' ∧ c' ≤ maxLen ∧
    Rd w' w'.heap.size A (icells (simTo l T).2.2) ∧ Rd w' w'.heap.size A' (jcells (simTo l T).2.1) ∧ Below w.heap.size w w'

set_option maxHeartbeats 2000000 in
theorem played_ok (A : Option Addr) (n c T nj : Nat) (l : List Tsk) (w : World) (hA : Rd w w.heap.size A (tcells l)) (hn : l.length = n) (hc : n ≤ c) (hcc : c ≤ maxLen) (hk : check l = 0) (hT : T ≤ 65536) (hnj : (simTo l T).2.1.length = nj) :
    Calls Try.prog 22 #[.slice A n c, .int .i64 T] w (PlayedEnd l T nj w) := by
  have h1 := ne_nil
  have hjl := (wf_sim (good_of_check hk).1 (good_of_check hk).2 T).jobs_le
  rw [hnj] at hjl
  have HJO := Lib.hid (jobs_ok l T)
  have HRO := Lib.hid (sim_run_range l T)
  have HOL := Lib.hid (sim_out_length l T)
  rw [hn] at HJO HRO
  obtain ⟨hg, hn8⟩ := good_of_check hk
  rw [hn] at hn8
  have HA := Lib.hid hA
  have HN := Lib.hid hn
  have HK := Lib.hid hk
  have HNJ := Lib.hid hnj
  clear hA hn hk hnj hg
  go_enter Try.func22, Try.ntmps22
  go_wp2_with (fail)
  (with_reducible refine (Timeline_ok A n c T l _ HA.out HN.out hc hcc HK.out hT).mono ?_)
  rintro e w1 ⟨A1, c1, rfl, c11, c12, hr1, hb1⟩
  have HB1 := Lib.hid hb1
  have HR1 := Lib.hid hr1
  have hs1 : w.heap.size ≤ w1.heap.size := hb1.size
  clear hb1 hr1
  go_wp2_with (fail)
  (with_reducible refine (Jobs_ok A n c T nj l _ ((HA.out.below HB1.out (Nat.le_refl _)).more hs1) HN.out hc hcc HK.out hT HNJ.out).mono ?_)
  rintro e w2 ⟨A2, c2, rfl, c21, c22, hr2, hb2⟩
  have HB2 : Hid (Below w.heap.size w w2) := HB1.out.trans (hb2.mono hs1)
  have HR3 : Hid (Rd w2 w2.heap.size A1 (icells (simTo l T).2.2)) := (HR1.out.below hb2 (Nat.le_refl _)).more hb2.size
  have HR2 := Lib.hid hr2
  have hs2 : w.heap.size ≤ w2.heap.size := HB2.out.size
  clear hb2 hr2 HR1 HB1 hs1
  have hTT : ((T : Int) == T) = true := by simp
  go_wp2
  obtain ⟨wi, rfl⟩ : ∃ wi : World, wi = w2 := ⟨_, rfl⟩
  go_loopw [41] (fun i wr => ∃ k : Nat, k ≤ T ∧ i = .int .i64 k ∧ wr = wi) (fun i _ => T - (intOf i).toNat)
  case atStart => exact ⟨0, Nat.zero_le _, rfl, rfl⟩
  case round =>
    obtain ⟨k, hk, rfl, rfl⟩ := hrel
    by_cases hlt : k < T
    · obtain ⟨r, hr⟩ := getElem?_of_lt (l := (simTo l T).2.2) (k := k) (by rw [HOL.out]; exact hlt)
      obtain ⟨b, off, rfl, hbl, c0⟩ := HR3.out.int hr
      obtain ⟨r1, r2⟩ := HRO.out r (List.mem_of_getElem? hr)
      have d1 : decide (r < -1) = false := by simp; omega
      have d2 : decide ((n : Int) ≤ r) = false := by simp; omega
      clear hr
      go_wp2
      go_roundw
      case rel => exact ⟨k + 1, by omega, by go_num, trivial⟩
      case measure => simp [intOf]; omega
    · have hkT : k = T := by omega
      subst hkT
      go_wp2
      obtain ⟨wj, rfl⟩ : ∃ wj : World, wj = wr := ⟨_, rfl⟩
      go_loopw [56] (fun i wr => ∃ m : Nat, m ≤ nj ∧ i = .int .i64 m ∧ Below wj.heap.size wj wr) (fun i _ => nj - (intOf i).toNat)
      case atStart => exact ⟨0, Nat.zero_le _, rfl, Below.refl _ _⟩
      case round =>
        obtain ⟨m, hm, rfl, hB⟩ := hrel
        have HB3 := Lib.hid hB
        have hs3 := hB.size
        clear hB
        by_cases hlt : m < nj
        · obtain ⟨j, hj⟩ := getElem?_of_lt (l := (simTo l k).2.1) (k := m) (by rw [HNJ.out]; exact hlt)
          obtain ⟨bj, oj, rfl, hbl, c0, c1, c2, c3⟩ := (HR2.out.below HB3.out (Nat.le_refl _)).jb hj
          obtain ⟨⟨k1, k2⟩, ⟨r1, r2⟩, ⟨s1, s2⟩, ⟨f1, f2⟩⟩ := HJO.out j (List.mem_of_getElem? hj)
          have d1 : decide (j.k < 0) = false := by simp; omega
          have d2 : decide ((n : Int) ≤ j.k) = false := by simp; omega
          have d3 : decide (j.rel < 0) = false := by simp; omega
          have d4 : decide ((k : Int) ≤ j.rel) = false := by simp; omega
          have d5 : decide ((k : Int) ≤ j.st) = false := by simp; omega
          have d6 : decide ((k : Int) < j.fin) = false := by simp; omega
          clear hj
          go_wp2
          go_roundw
          case rel => exact ⟨m + 1, by omega, by go_num, HB3.out.alloc hs3 _⟩
          case measure => simp [intOf]; omega
        · have hmn : m = nj := by omega
          subst hmn
          have HE : Hid (PlayedEnd l k m w (.returned (.tuple #[.slice A1 k c1, .slice A2 m c2, .bool true])) wr) :=
            ⟨A1, c1, A2, c2, rfl, c11, c12, c21, c22, (HR3.out.below HB3.out (Nat.le_refl _)).more hs3, (HR2.out.below HB3.out (Nat.le_refl _)).more hs3, HB2.out.trans (HB3.out.mono hs2)⟩
          go_wp2
          go_ret3
          exact HE.out
end Go.Proofs.Ytcfhnjdaijdoiaa
