/-
  The statement TasksWork, walked.
-/
import Derived.Test.YtcfhnjdaijdoiaaW30
import Derived.Test.YtcfhnjdaijdoiaaPlain19
import Derived.Lib.MinMax
namespace Go.Proofs.Ytcfhnjdaijdoiaa
open Go.RowKit
set_option linter.unusedVariables false

set_option maxRecDepth 100000 in
set_option maxHeartbeats 1000000 in
theorem twork_long (A : Option Addr) (n c : Nat) (a : Int) (w : World) (hn : n ≤ maxLen) (h40 : 40 < n) :
    Calls Try.prog 4 #[.slice A n c, .int .u16 a] w fun e w' => e = .returned (.bool true) ∧ Below w.heap.size w w' := by
  unfold maxLen at hn
  go_enter Try.func4, Try.ntmps4
  go_wp2_with (fail)
  refine (awake42 _).mono ?_
  rintro e w1 ⟨rfl, hb⟩
  have HB := Lib.hid hb
  clear hb
  go_wp2_with (fail)
  refine (awake42 _).mono ?_
  rintro e w3 ⟨rfl, hb⟩
  have HB3 : Hid (Below w.heap.size w w3) := HB.out.trans (hb.mono HB.out.size)
  clear hb
  go_wp2
  go_ret
  exact ⟨rfl, HB3.out⟩

set_option maxRecDepth 100000 in
set_option maxHeartbeats 1000000 in
theorem twork_bad (A : Option Addr) (n c : Nat) (a : Int) (l : List Tsk) (w : World) (hA : Rd w w.heap.size A (tcells l)) (hn : l.length = n) (hc : n ≤ c) (hcc : c ≤ maxLen) (h40 : n ≤ 40) (k : Int) (hk : check l = k) (hk0 : k ≠ 0) :
    Calls Try.prog 4 #[.slice A n c, .int .u16 a] w fun e w' => e = .returned (.bool true) ∧ Below w.heap.size w w' := by
  have HC : Hid (errV (check l) = .iface 47 (.int .i64 k)) := by rw [hk]; exact errV_ne hk0
  have h1 := ne_err
  have HA := Lib.hid hA
  have HN := Lib.hid hn
  clear hk hk0 hA hn
  go_enter Try.func4, Try.ntmps4
  go_wp2_with (fail)
  refine (awake42 _).mono ?_
  rintro e w1 ⟨rfl, hb⟩
  have HB := Lib.hid hb
  have hs := hb.size
  clear hb
  go_wp2_with (fail)
  (with_reducible refine (check_any A n c l _ ((HA.out.below HB.out (Nat.le_refl _)).more hs) HN.out hc hcc).mono ?_)
  rintro e w2 ⟨rfl, hb⟩
  rw [HC.out]
  have HB2 : Hid (Below w.heap.size w w2) := HB.out.trans (hb.mono hs)
  clear hb
  go_wp2_with (fail)
  refine (awake42 _).mono ?_
  rintro e w3 ⟨rfl, hb⟩
  have HB3 : Hid (Below w.heap.size w w3) := HB2.out.trans (hb.mono HB2.out.size)
  clear hb
  go_wp2
  go_ret
  exact ⟨rfl, HB3.out⟩


set_option maxRecDepth 100000 in
set_option maxHeartbeats 8000000 in
theorem twork_main (A : Option Addr) (n c : Nat) (a : Int) (l : List Tsk) (w : World) (hA : Rd w w.heap.size A (tcells l)) (hn : l.length = n) (hc : n ≤ c) (hcc : c ≤ maxLen) (hk : check l = 0) (ha : 0 ≤ a ∧ a < 65536) :
    Calls Try.prog 4 #[.slice A n c, .int .u16 a] w fun e w' => e = .returned (.bool true) ∧ Below w.heap.size w w' := by
  have h1 := ne_nil
  obtain ⟨T, hT⟩ : ∃ T : Nat, a % 300 = T := ⟨(a % 300).toNat, by omega⟩
  have hT3 : T < 300 := by omega
  have hT2 : a.tmod 300 = T := by rw [Int.tmod_eq_emod_of_nonneg ha.1]; exact hT
  obtain ⟨hg, hn8⟩ := good_of_check hk
  have hjl := (wf_sim hg hn8 T).jobs_le
  rw [hn] at hn8
  obtain ⟨i3, hi3, hz30, hz31, hz32⟩ := info_parts info3
  obtain ⟨js, hjs⟩ : ∃ js, (simTo l T).2.1 = js := ⟨_, rfl⟩
  obtain ⟨nj, hnj⟩ : ∃ nj, js.length = nj := ⟨_, rfl⟩
  rw [hjs, hnj] at hjl
  have HNJ0 : Hid ((simTo l T).2.1.length = nj) := by rw [hjs]; exact hnj
  have HNJ := Lib.hid hnj
  obtain ⟨os, hos⟩ : ∃ os, (simTo l T).2.2 = os := ⟨_, rfl⟩
  have HOS := Lib.hid hos
  have HJS := Lib.hid hjs
  have HSP : Hid (SimSpec l T os js) := by rw [← hos, ← hjs]; exact sim_spec hk T
  have HOL : Hid (os.length = T) := by rw [← hos]; exact sim_out_length l T
  have HC : Hid (errV (check l) = .nilIface) := by rw [hk]; rfl
  have HG := Lib.hid hg
  have HA := Lib.hid hA
  have HN := Lib.hid hn
  have HK := Lib.hid hk
  obtain ⟨ha1, ha2⟩ := ha
  clear hA hn hk hg hos hnj hjs
  go_enter Try.func4, Try.ntmps4
  go_wp2_with (fail)
  refine (awake42 _).mono ?_
  rintro e w1 ⟨rfl, hb⟩
  have HB := Lib.hid hb
  have hs := hb.size
  clear hb
  go_wp2_with (fail)
  (with_reducible refine (check_any A n c l _ ((HA.out.below HB.out (Nat.le_refl _)).more hs) HN.out hc hcc).mono ?_)
  rintro e w2 ⟨rfl, hb⟩
  rw [HC.out]
  have HB2 : Hid (Below w.heap.size w w2) := HB.out.trans (hb.mono hs)
  have hs2 := HB2.out.size
  clear hb
  go_wp2_with (fail)
  (with_reducible refine (played_ok A n c T nj l _ ((HA.out.below HB2.out (Nat.le_refl _)).more hs2) HN.out hc hcc HK.out (by omega) HNJ0.out).mono ?_)
  rintro e w3 ⟨A1, c1, A2, c2, rfl, c11, c12, c21, c22, hr1, hr2, hb⟩
  rw [HOS.out] at hr1
  rw [HJS.out] at hr2
  have HR1 := Lib.hid hr1
  have HR2 := Lib.hid hr2
  have HB3 : Hid (Below w.heap.size w w3) := HB2.out.trans (hb.mono hs2)
  have hs3 : w.heap.size ≤ w3.heap.size := HB3.out.size
  clear hb hr1 hr2 HB HB2 hs hs2
  go_wp2_with (at_make; refine wpList_make_full _ rfl _ _ 29 rfl w3.heap.size 3 i3 (.int .i64 0) 1 Try.underlying29 hi3 hz30 hz31 .i64 .i64 (n : Int) (n : Int) n rfl rfl rfl rfl ?c1 ?c2 ?c3 ?_)
  case c1 => rw [hz32]; omega
  case c2 => unfold maxLen; omega
  case c3 => exact Nat.le_refl _
  intro w4 hown hgrow
  have HO4 : Hid (w4.ownsRow w3.heap.size 3 1 (.slice (some ⟨w3.heap.size, 0, none⟩) n n) n (icells (endsTo n js 0))) := by
    rw [endsTo, ← made_ints, Nat.mul_one]
    exact hown
  have HB4 : Hid (Below w3.heap.size w3 w4) := (Below.refl _ _).grown hgrow (Nat.le_refl _) (fun k hk => by cases hk)
  clear hown hgrow
  go_wp2
  go_loopw [46] (fun i wr => ∃ k : Nat, k ≤ nj ∧ i = .int .i64 k ∧ wr.ownsRow w3.heap.size 3 1 (.slice (some ⟨w3.heap.size, 0, none⟩) n n) n (icells (endsTo n js k)) ∧ Below w3.heap.size w3 wr) (fun i _ => nj - (intOf i).toNat)
  case atStart => exact ⟨0, Nat.zero_le _, rfl, HO4.out, HB4.out⟩
  case round =>
    obtain ⟨k, hk, rfl, hO, hB⟩ := hrel
    have HO := Lib.hid hO
    have HBr := Lib.hid hB
    have hsr : w3.heap.size < wr.heap.size := (hO.lt _ rfl).2
    clear hO hB HO4 HB4
    by_cases hlt : k < nj
    · obtain ⟨jb, hjb⟩ := getElem?_of_lt (l := js) (k := k) (by rw [HNJ.out]; exact hlt)
      obtain ⟨b2, o2, rfl, hb2, j0, j1, j2, j3⟩ := (HR2.out.below HBr.out (Nat.le_refl _)).jb hjb
      obtain ⟨i, x, v, hki, hx, hv, hns, hst⟩ := work_facts HG.out HSP.out hjb
      rw [HN.out] at hv
      have hin : i < n := by rw [← HN.out]; exact (List.getElem?_eq_some_iff.1 hx).1
      have hstep := endsTo_step (n := n) hjb
      rw [hki, Int.toNat_natCast] at hstep
      have HST := Lib.hid hstep
      have HV := Lib.hid hv
      have HX := Lib.hid hx
      have HSTT := Lib.hid hst
      rw [hki] at j0
      clear hjb hstep hv hx hst
      by_cases hs0 : jb.st < 0
      · have hf := hns hs0
        rw [hf] at j3
        have hd1 : decide (jb.st < 0) = true := by simp [hs0]
        have HO5 : Hid (((wr.setCell ⟨w3.heap.size, i, none⟩ (.int .i64 (-1))).alloc (.cells #[.int .i64 i, .int .i64 jb.rel, .int .i64 jb.st, .int .i64 (-1)] 40)).ownsRow w3.heap.size 3 1 (.slice (some ⟨w3.heap.size, 0, none⟩) n n) n (icells (endsTo n js (k + 1)))) := by
          rw [HST.out, hf]
          exact (own_set_int HO.out i (-1)).alloc _
        have HB5 : Hid (Below w3.heap.size w3 ((wr.setCell ⟨w3.heap.size, i, none⟩ (.int .i64 (-1))).alloc (.cells #[.int .i64 i, .int .i64 jb.rel, .int .i64 jb.st, .int .i64 (-1)] 40))) :=
          (HBr.out.setCell (p := ⟨w3.heap.size, i, none⟩) (Nat.le_refl _) _).alloc (by simp; omega) _
        have f0 := own_int (by rw [endsTo_length]) (HO.out) HV.out
        have f1 : wr.frozen? ⟨w3.heap.size, i, none⟩ = false := HO.out.frozenAt _
        clear hns
        go_wp2
        go_roundw
        case rel => exact ⟨k + 1, by omega, by go_num, HO5.out, HB5.out⟩
        case measure => simp [intOf]; omega
      · obtain ⟨s, e, hW⟩ := HSTT.out (by omega)
        obtain ⟨w1', w2', w3', w4', w5', w6', w7', w8', w9', w10'⟩ := hW
        have HDN := Lib.hid w9'
        have HNT := Lib.hid w10'
        have HFI := Lib.hid w8'
        have hd1 : decide (jb.st < 0) = false := by simp; omega
        have hcase : (jb.fin < 0 ∧ e = T) ∨ (0 ≤ jb.fin ∧ jb.fin = e) := by
          unfold endOf at w2'
          split at w2' <;> omega
        obtain ⟨b1, o1, rfl, hb1, _⟩ := HR1.out.int w8'
        rw [w1'] at j2
        clear hns w9' w10' w8'
        rcases hcase with ⟨hf, rfl⟩ | ⟨hf, hfe0⟩
        · have hd2 : decide (jb.fin < 0) = true := by simp [hf]
          have hd3 : decide (0 ≤ jb.fin) = false := by simp; omega
          have HCN := Lib.hid (HNT.out hf)
          go_wp2
          have p0 : (wr.alloc (.cells #[.int .i64 i, .int .i64 jb.rel, .int .i64 s, .int .i64 jb.fin] 40)).cell? ⟨wr.heap.size, 0, none⟩ = some (.int .i64 i) := by simp
          have p1 : (wr.alloc (.cells #[.int .i64 i, .int .i64 jb.rel, .int .i64 s, .int .i64 jb.fin] 40)).cell? ⟨wr.heap.size, 1, none⟩ = some (.int .i64 jb.rel) := by simp
          have p2 : (wr.alloc (.cells #[.int .i64 i, .int .i64 jb.rel, .int .i64 s, .int .i64 jb.fin] 40)).cell? ⟨wr.heap.size, 2, none⟩ = some (.int .i64 s) := by simp
          have p3 : (wr.alloc (.cells #[.int .i64 i, .int .i64 jb.rel, .int .i64 s, .int .i64 jb.fin] 40)).cell? ⟨wr.heap.size, 3, none⟩ = some (.int .i64 jb.fin) := by simp
          have HO5 := Lib.hid (HO.out.alloc (.cells #[.int .i64 i, .int .i64 jb.rel, .int .i64 s, .int .i64 jb.fin] 40))
          have HB5 : Hid (Below w3.heap.size w3 (wr.alloc (.cells #[.int .i64 i, .int .i64 jb.rel, .int .i64 s, .int .i64 jb.fin] 40))) := HBr.out.alloc (by omega) _
          generalize wr.alloc (.cells #[.int .i64 i, .int .i64 jb.rel, .int .i64 s, .int .i64 jb.fin] 40) = W1 at *
          have f0 := own_int (by rw [endsTo_length]) (HO5.out) HV.out
          clear j0 j1 j2 j3
          have g1 : decide (v < 0) = false := by simp; omega
          have g2 : decide ((s : Int) < max jb.rel v) = false := by simp; omega
          have g3 : decide ((e : Int) ≤ s) = false := by simp; omega
          go_quiet (fail)
          have q0 : (W1.drewN nq).cell? ⟨wr.heap.size, 0, none⟩ = some (.int .i64 i) := p0
          have q2 : (W1.drewN nq).cell? ⟨wr.heap.size, 2, none⟩ = some (.int .i64 s) := p2
          have q3 : (W1.drewN nq).cell? ⟨wr.heap.size, 3, none⟩ = some (.int .i64 jb.fin) := p3
          have HO6 : Hid ((W1.drewN nq).ownsRow w3.heap.size 3 1 (.slice (some ⟨w3.heap.size, 0, none⟩) n n) n (icells (endsTo n js k))) := HO5.out
          have HB6 : Hid (Below w3.heap.size w3 (W1.drewN nq)) := Below.drewN HB5.out nq
          have hs6 : wr.heap.size < (W1.drewN nq).heap.size := World.block_lt_of_cell? _ _ q0
          clear p0 p1 p2 p3 f0 HO5 HB5
          generalize W1.drewN nq = W2 at *
          go_wp2
          obtain ⟨wj, rfl⟩ : ∃ wj : World, wj = W2 := ⟨_, rfl⟩
          go_loopw [13, 96] (fun m q wr => ∃ j : Nat, s + j ≤ e ∧ q = .int .i64 j ∧ m = .int .i64 ((exN os i (s + j) : Int) - exN os i s) ∧ wr = wj) (fun _ q _ => e - s - (intOf q).toNat)
          case atStart => exact ⟨0, by omega, rfl, by simp, rfl⟩
          case round =>
            obtain ⟨j, hj, rfl, hm, rfl⟩ := hrel
            by_cases hlt2 : s + j < e
            · obtain ⟨r, hr⟩ := getElem?_of_lt (l := os) (k := s + j) (by rw [HOL.out]; omega)
              obtain ⟨b1', o1', eA, _, r0⟩ := (HR1.out.below HB6.out (Nat.le_refl _)).int hr
              obtain ⟨rfl, rfl⟩ : b1 = b1' ∧ o1 = o1' := by simpa using eA
              rw [← Nat.add_assoc] at r0
              have hex := exN_succ i hr
              have hb1' := exN_le os i (s + j)
              have hb2' := exN_mono os i s (s + j) (by omega)
              have HEX := Lib.hid hex
              clear hr eA hex
              subst hm
              generalize exN os i (s + j) = u at *
              by_cases hri : r = (i : Int)
              · have d1 : (r == (i : Int)) = true := by simpa using hri
                have HEX2 : Hid (exN os i (s + (j + 1)) = u + 1) := by rw [← Nat.add_assoc]; have := HEX.out; rw [if_pos hri] at this; exact this
                clear hri
                go_wp2
                go_roundw
                case rel => exact ⟨j + 1, by omega, by go_num, by rw [HEX2.out]; go_num, trivial⟩
                case measure => simp [intOf]; omega
              · have d1 : (r == (i : Int)) = false := by simpa using hri
                have HEX2 : Hid (exN os i (s + (j + 1)) = u) := by rw [← Nat.add_assoc]; have := HEX.out; rw [if_neg hri] at this; exact this
                clear hri
                go_wp2
                go_roundw
                case rel => exact ⟨j + 1, by omega, by go_num, by rw [HEX2.out], trivial⟩
                case measure => simp [intOf]; omega
            · have hje : s + j = e := by omega
              rw [hje] at hm
              obtain ⟨cnt, hcnt⟩ : ∃ cnt : Int, (exN os i e : Int) - exN os i s = cnt := ⟨_, rfl⟩
              have hcl : cnt < x.c := by have := HCN.out; omega
              rw [hcnt] at hm
              have d1 : decide (x.c ≤ cnt) = false := by simp; omega
              clear hcnt
              subst hm
              obtain ⟨b1', o1', eA, _, r0⟩ := (HR1.out.below HB6.out (Nat.le_refl _)).int HFI.out
              obtain ⟨rfl, rfl⟩ : b1 = b1' ∧ o1 = o1' := by simpa using eA
              obtain ⟨b, off, rfl, hbl, _, _, x2, _, _⟩ := (HA.out.below (HB3.out.trans (HB6.out.mono hs3)) (Nat.le_refl _)).tsk HX.out
              have f0 := own_int (by rw [endsTo_length]) (HO6.out) HV.out
              have f1 : wr.frozen? ⟨w3.heap.size, i, none⟩ = false := HO6.out.frozenAt _
              clear eA
              go_wp2
              go_quiet (fail)
              have HO6' : Hid ((wr.drewN nq).ownsRow w3.heap.size 3 1 (.slice (some ⟨w3.heap.size, 0, none⟩) n n) n (icells (endsTo n js k))) := HO6.out
              have HO7 : Hid (((wr.drewN nq).setCell ⟨w3.heap.size, i, none⟩ (.int .i64 jb.fin)).ownsRow w3.heap.size 3 1 (.slice (some ⟨w3.heap.size, 0, none⟩) n n) n (icells (endsTo n js (k + 1)))) := by
                rw [HST.out]
                exact own_set_int HO6'.out i _
              have HB7 : Hid (Below w3.heap.size w3 ((wr.drewN nq).setCell ⟨w3.heap.size, i, none⟩ (.int .i64 jb.fin))) := (Below.drewN HB6.out nq).setCell (p := ⟨w3.heap.size, i, none⟩) (Nat.le_refl _) _
              go_wp2
              go_roundw
              case rel => exact ⟨k + 1, by omega, by go_num, HO7.out, HB7.out⟩
              case measure => simp [intOf]; omega
        · obtain ⟨e1, rfl⟩ : ∃ e1, e = e1 + 1 := ⟨e - 1, by omega⟩
          have hfe : jb.fin = (e1 : Int) + 1 := by omega
          obtain ⟨hcn, hlast⟩ := HDN.out hf
          rw [Nat.add_sub_cancel] at hlast
          have HCN := Lib.hid hcn
          have HLA := Lib.hid hlast
          have hd2 : decide ((e1 : Int) + 1 < 0) = false := by simp; omega
          have hd3 : decide (0 ≤ (e1 : Int) + 1) = true := by simp; omega
          have he1 : (e1 : Int) + 1 ≤ T := by omega
          have hse : (s : Int) < (e1 : Int) + 1 := by omega
          rw [hfe] at j3
          clear hcn hlast
          go_wp2
          have p0 : (wr.alloc (.cells #[.int .i64 i, .int .i64 jb.rel, .int .i64 s, .int .i64 ((e1 : Int) + 1)] 40)).cell? ⟨wr.heap.size, 0, none⟩ = some (.int .i64 i) := by simp
          have p1 : (wr.alloc (.cells #[.int .i64 i, .int .i64 jb.rel, .int .i64 s, .int .i64 ((e1 : Int) + 1)] 40)).cell? ⟨wr.heap.size, 1, none⟩ = some (.int .i64 jb.rel) := by simp
          have p2 : (wr.alloc (.cells #[.int .i64 i, .int .i64 jb.rel, .int .i64 s, .int .i64 ((e1 : Int) + 1)] 40)).cell? ⟨wr.heap.size, 2, none⟩ = some (.int .i64 s) := by simp
          have p3 : (wr.alloc (.cells #[.int .i64 i, .int .i64 jb.rel, .int .i64 s, .int .i64 ((e1 : Int) + 1)] 40)).cell? ⟨wr.heap.size, 3, none⟩ = some (.int .i64 ((e1 : Int) + 1)) := by simp
          have HO5 := Lib.hid (HO.out.alloc (.cells #[.int .i64 i, .int .i64 jb.rel, .int .i64 s, .int .i64 ((e1 : Int) + 1)] 40))
          have HB5 : Hid (Below w3.heap.size w3 (wr.alloc (.cells #[.int .i64 i, .int .i64 jb.rel, .int .i64 s, .int .i64 ((e1 : Int) + 1)] 40))) := HBr.out.alloc (by omega) _
          generalize wr.alloc (.cells #[.int .i64 i, .int .i64 jb.rel, .int .i64 s, .int .i64 ((e1 : Int) + 1)] 40) = W1 at *
          have f0 := own_int (by rw [endsTo_length]) (HO5.out) HV.out
          clear j0 j1 j2 j3
          have g1 : decide (v < 0) = false := by simp; omega
          have g2 : decide ((s : Int) < max jb.rel v) = false := by simp; omega
          have g3 : decide ((e1 : Int) + 1 ≤ s) = false := by simp; omega
          go_quiet (fail)
          have q0 : (W1.drewN nq).cell? ⟨wr.heap.size, 0, none⟩ = some (.int .i64 i) := p0
          have q2 : (W1.drewN nq).cell? ⟨wr.heap.size, 2, none⟩ = some (.int .i64 s) := p2
          have q3 : (W1.drewN nq).cell? ⟨wr.heap.size, 3, none⟩ = some (.int .i64 ((e1 : Int) + 1)) := p3
          have HO6 : Hid ((W1.drewN nq).ownsRow w3.heap.size 3 1 (.slice (some ⟨w3.heap.size, 0, none⟩) n n) n (icells (endsTo n js k))) := HO5.out
          have HB6 : Hid (Below w3.heap.size w3 (W1.drewN nq)) := Below.drewN HB5.out nq
          have hs6 : wr.heap.size < (W1.drewN nq).heap.size := World.block_lt_of_cell? _ _ q0
          clear p0 p1 p2 p3 f0 HO5 HB5
          generalize W1.drewN nq = W2 at *
          go_wp2
          obtain ⟨wj, rfl⟩ : ∃ wj : World, wj = W2 := ⟨_, rfl⟩
          go_loopw [13, 96] (fun m q wr => ∃ j : Nat, s + j ≤ (e1 + 1) ∧ q = .int .i64 j ∧ m = .int .i64 ((exN os i (s + j) : Int) - exN os i s) ∧ wr = wj) (fun _ q _ => (e1 + 1) - s - (intOf q).toNat)
          case atStart => exact ⟨0, by omega, rfl, by simp, rfl⟩
          case round =>
            obtain ⟨j, hj, rfl, hm, rfl⟩ := hrel
            by_cases hlt2 : s + j < (e1 + 1)
            · obtain ⟨r, hr⟩ := getElem?_of_lt (l := os) (k := s + j) (by rw [HOL.out]; omega)
              obtain ⟨b1', o1', eA, _, r0⟩ := (HR1.out.below HB6.out (Nat.le_refl _)).int hr
              obtain ⟨rfl, rfl⟩ : b1 = b1' ∧ o1 = o1' := by simpa using eA
              rw [← Nat.add_assoc] at r0
              have hex := exN_succ i hr
              have hb1' := exN_le os i (s + j)
              have hb2' := exN_mono os i s (s + j) (by omega)
              have HEX := Lib.hid hex
              clear hr eA hex
              subst hm
              generalize exN os i (s + j) = u at *
              by_cases hri : r = (i : Int)
              · have d1 : (r == (i : Int)) = true := by simpa using hri
                have HEX2 : Hid (exN os i (s + (j + 1)) = u + 1) := by rw [← Nat.add_assoc]; have := HEX.out; rw [if_pos hri] at this; exact this
                clear hri
                go_wp2
                go_roundw
                case rel => exact ⟨j + 1, by omega, by go_num, by rw [HEX2.out]; go_num, trivial⟩
                case measure => simp [intOf]; omega
              · have d1 : (r == (i : Int)) = false := by simpa using hri
                have HEX2 : Hid (exN os i (s + (j + 1)) = u) := by rw [← Nat.add_assoc]; have := HEX.out; rw [if_neg hri] at this; exact this
                clear hri
                go_wp2
                go_roundw
                case rel => exact ⟨j + 1, by omega, by go_num, by rw [HEX2.out], trivial⟩
                case measure => simp [intOf]; omega
            · have hje : s + j = (e1 + 1) := by omega
              rw [hje] at hm
              have hcnt : (exN os i (e1 + 1) : Int) - exN os i s = x.c := by have := HCN.out; omega
              rw [hcnt] at hm
              have d1 : (x.c != x.c) = false := by simp
              obtain ⟨b1', o1', eA, _, r1⟩ := (HR1.out.below HB6.out (Nat.le_refl _)).int HLA.out
              obtain ⟨rfl, rfl⟩ : b1 = b1' ∧ o1 = o1' := by simpa using eA
              clear hcnt eA
              subst hm
              obtain ⟨b1', o1', eA, _, r0⟩ := (HR1.out.below HB6.out (Nat.le_refl _)).int HFI.out
              obtain ⟨rfl, rfl⟩ : b1 = b1' ∧ o1 = o1' := by simpa using eA
              obtain ⟨b, off, rfl, hbl, _, _, x2, _, _⟩ := (HA.out.below (HB3.out.trans (HB6.out.mono hs3)) (Nat.le_refl _)).tsk HX.out
              have f0 := own_int (by rw [endsTo_length]) (HO6.out) HV.out
              have f1 : wr.frozen? ⟨w3.heap.size, i, none⟩ = false := HO6.out.frozenAt _
              clear eA
              go_wp2
              go_quiet (fail)
              have HO6' : Hid ((wr.drewN nq).ownsRow w3.heap.size 3 1 (.slice (some ⟨w3.heap.size, 0, none⟩) n n) n (icells (endsTo n js k))) := HO6.out
              have HO7 : Hid (((wr.drewN nq).setCell ⟨w3.heap.size, i, none⟩ (.int .i64 ((e1 : Int) + 1))).ownsRow w3.heap.size 3 1 (.slice (some ⟨w3.heap.size, 0, none⟩) n n) n (icells (endsTo n js (k + 1)))) := by
                rw [HST.out, hfe]
                exact own_set_int HO6'.out i _
              have HB7 : Hid (Below w3.heap.size w3 ((wr.drewN nq).setCell ⟨w3.heap.size, i, none⟩ (.int .i64 ((e1 : Int) + 1)))) := (Below.drewN HB6.out nq).setCell (p := ⟨w3.heap.size, i, none⟩) (Nat.le_refl _) _
              go_wp2
              go_roundw
              case rel => exact ⟨k + 1, by omega, by go_num, HO7.out, HB7.out⟩
              case measure => simp [intOf]; omega
    · have hkn : k = nj := by omega
      subst hkn
      go_wp2
      go_ret
      exact ⟨rfl, HB3.out.trans (HBr.out.mono hs3)⟩
end Go.Proofs.Ytcfhnjdaijdoiaa
