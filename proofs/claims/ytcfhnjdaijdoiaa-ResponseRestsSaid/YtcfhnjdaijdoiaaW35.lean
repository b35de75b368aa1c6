/-
  The statement ResponseAttained, walked.
-/
import Derived.Test.YtcfhnjdaijdoiaaW34
import Derived.Test.YtcfhnjdaijdoiaaPlain23
import Derived.Test.YtcfhnjdaijdoiaaPlain5
import Derived.Lib.MinMax
namespace Go.Proofs.Ytcfhnjdaijdoiaa
open Go.RowKit
set_option linter.unusedVariables false

set_option maxRecDepth 100000 in
set_option maxHeartbeats 1000000 in
theorem ratt_long (A : Option Addr) (n c : Nat) (w : World) (hn : n ≤ maxLen) (h40 : 40 < n) :
    Calls Try.prog 14 #[.slice A n c] w fun e w' => e = .returned (.bool true) ∧ Below w.heap.size w w' := by
  unfold maxLen at hn
  go_enter Try.func14, Try.ntmps14
  go_wp2_with (fail)
  refine (awake43 _).mono ?_
  rintro e w1 ⟨rfl, hb⟩
  have HB := Lib.hid hb
  clear hb
  go_wp2_with (fail)
  refine (awake43 _).mono ?_
  rintro e w3 ⟨rfl, hb⟩
  have HB3 : Hid (Below w.heap.size w w3) := HB.out.trans (hb.mono HB.out.size)
  clear hb
  go_wp2
  go_ret
  exact ⟨rfl, HB3.out⟩

set_option maxRecDepth 100000 in
set_option maxHeartbeats 1000000 in
theorem ratt_bad (A : Option Addr) (n c : Nat) (l : List Tsk) (w : World) (hA : Rd w w.heap.size A (tcells l)) (hn : l.length = n) (hc : n ≤ c) (hcc : c ≤ maxLen) (h40 : n ≤ 40) (k : Int) (hk : check l = k) (hk0 : k ≠ 0) :
    Calls Try.prog 14 #[.slice A n c] w fun e w' => e = .returned (.bool true) ∧ Below w.heap.size w w' := by
  have HC : Hid (errV (check l) = .iface 47 (.int .i64 k)) := by rw [hk]; exact errV_ne hk0
  have h1 := ne_err
  have HA := Lib.hid hA
  have HN := Lib.hid hn
  clear hk hk0 hA hn
  go_enter Try.func14, Try.ntmps14
  go_wp2_with (fail)
  refine (awake43 _).mono ?_
  rintro e w1 ⟨rfl, hb⟩
  have HB := Lib.hid hb
  have hs := hb.size
  clear hb
  go_wp2_with (fail)
  (with_reducible refine (check_any A n c l _ ((HA.out.below HB.out (Nat.le_refl _)).more hs) HN.out hc hcc).mono ?_)
  rintro e w2 ⟨rfl, hb⟩
  rw [HC.out]
  have HB2 : Hid (Below w.heap.size w w2) := HB.out.trans (hb.mono hs)
  clear hb
  go_wp2_with (fail)
  refine (awake43 _).mono ?_
  rintro e w3 ⟨rfl, hb⟩
  have HB3 : Hid (Below w.heap.size w w3) := HB2.out.trans (hb.mono HB2.out.size)
  clear hb
  go_wp2
  go_ret
  exact ⟨rfl, HB3.out⟩

theorem mapTo_still (l : List Tsk) (k : Nat) (h : l.length ≤ k) : mapTo zeroO l k = still l := by
  apply List.ext_getElem?
  intro i
  rw [mapTo_get, still_get]
  cases e : l[i]? with
  | none => rfl
  | some x =>
    have := (List.getElem?_eq_some_iff.1 e).1
    simp [show i < k by omega, zeroO]

/-- The longest period of the first k tasks. -/
def maxTo (l : List Tsk) : Nat → Int
  | 0 => 0
  | k + 1 => match l[k]? with
    | none => maxTo l k
    | some x => max (maxTo l k) x.p

theorem maxTo_step {l : List Tsk} {k : Nat} {x : Tsk} (h : l[k]? = some x) : maxTo l (k + 1) = max (maxTo l k) x.p := by rw [maxTo, h]
theorem maxTo_range {l : List Tsk} (hl : ∀ x ∈ l, ¬ x.bad) : ∀ k, 0 ≤ maxTo l k ∧ maxTo l k ≤ 4096
  | 0 => by simp [maxTo]
  | k + 1 => by
    have ih := maxTo_range hl k
    rw [maxTo]
    split
    · exact ih
    · rename_i x e
      have hb := hl x (List.mem_of_getElem? e)
      simp only [Tsk.bad, not_or, Int.not_lt] at hb
      omega
theorem maxTo_ge {l : List Tsk} : ∀ k, ∀ (i : Nat) (x : Tsk), i < k → l[i]? = some x → x.p ≤ maxTo l k
  | 0, i, _, h, _ => by omega
  | k + 1, i, x, h, hx => by
    by_cases e : i = k
    · subst e
      rw [maxTo_step hx]
      omega
    · have ih := maxTo_ge (l := l) k i x (by omega) hx
      rw [maxTo]
      split
      · exact ih
      · omega

set_option maxRecDepth 100000 in
set_option maxHeartbeats 8000000 in
theorem ratt_main (A : Option Addr) (n c : Nat) (l : List Tsk) (w : World) (hA : Rd w w.heap.size A (tcells l)) (hn : l.length = n) (hc : n ≤ c) (hcc : c ≤ maxLen) (hk : check l = 0) :
    Calls Try.prog 14 #[.slice A n c] w fun e w' => e = .returned (.bool true) ∧ Below w.heap.size w w' := by
  have h1 := ne_nil
  obtain ⟨hg, hn8⟩ := good_of_check hk
  rw [hn] at hn8
  have HC : Hid (errV (check l) = .nilIface) := by rw [hk]; rfl
  have HG := Lib.hid hg
  have HA := Lib.hid hA
  have HN := Lib.hid hn
  have HK := Lib.hid hk
  have HN5 : Hid ((tcells l).length = n * 5) := by rw [tcells_length, hn]; rfl
  obtain ⟨i0, hi, hz0, hz1, hz2⟩ := info_parts info34
  have hm0 : 0 ≤ maxLen := Nat.zero_le _
  have hmr := maxTo_range hg n
  have HMG : Hid (∀ (i : Nat) (x : Tsk), l[i]? = some x → x.p ≤ maxTo l n) := fun i x hx => maxTo_ge n i x (by rw [← hn]; exact (List.getElem?_eq_some_iff.1 hx).1) hx
  have HST : Hid (mapTo zeroO l n = still l) := mapTo_still l n (by rw [hn]; exact Nat.le_refl _)
  have HSL : Hid ((still l).length = n) := by show _ = _; rw [← hn]; simp [still]
  clear hk hA hn hg
  go_enter Try.func14, Try.ntmps14
  go_wp2_with (fail)
  refine (awake43 _).mono ?_
  rintro e w1 ⟨rfl, hb⟩
  have HB := Lib.hid hb
  have hs := hb.size
  clear hb
  go_wp2_with (fail)
  (with_reducible refine (check_any A n c l _ ((HA.out.below HB.out (Nat.le_refl _)).more hs) HN.out hc hcc).mono ?_)
  rintro e w2 ⟨rfl, hb⟩
  rw [HC.out]
  have HB2 : Hid (Below w.heap.size w w2) := HB.out.trans (hb.mono hs)
  have hs2 := HB2.out.size
  clear hb
  go_wp2_with (at_builtin; refine wpList_append_rd _ rfl _ _ 22 rfl w.heap.size 34 i0 _ 5 40 Try.underlying22 hi hz0 hz1 hz2 rfl (by omega) _ 0 [] rfl (World.ownsRow_lit w2 #[] 0 hs2 hm0 rfl) w.heap.size A n c (tcells l) rfl (HA.out.below (HB2.out.alloc hs2 _) (Nat.le_refl _)) HN5.out (tcells_one l) ?c3 ?c4 ?c5 ?_)
  case c3 => unfold maxLen; omega
  case c4 => omega
  case c5 => simp; omega
  intro v' w3 hown hgrow hat
  have HB3 : Hid (Below w.heap.size w w3) := (HB2.out.alloc hs2 _).grown hgrow (by simp; omega) (fun k hk => by simp [Value.ownBlock] at hk; omega)
  obtain ⟨X, cx, rfl, hx1, hx2, hform⟩ := own_form hown
  try simp only [Nat.zero_add, List.nil_append] at hown
  try simp only [Nat.zero_add] at hx1
  try simp only [Nat.zero_add] at hform
  have HF := Lib.hid hform
  have HO : Hid (w3.ownsRow w.heap.size 34 5 (.slice X n cx) n (tcells (mapTo zeroO l 0))) := by rw [mapTo_zero]; exact hown
  try rw [Nat.zero_add]
  clear hown hgrow hat hform HB hs HB2 hs2 hm0
  go_wp2
  go_loopw [4, 30] (fun m i wr => ∃ j : Nat, j ≤ n ∧ i = .int .i64 j ∧ m = .int .i64 (maxTo l j) ∧ wr.ownsRow w.heap.size 34 5 (.slice X n cx) n (tcells (mapTo zeroO l j)) ∧ Below w.heap.size w wr) (fun _ i wr => n - (intOf i).toNat)
  case atStart => exact ⟨0, Nat.zero_le _, rfl, rfl, HO.out, HB3.out⟩
  case round =>
    obtain ⟨j, hj, rfl, hm, hown, hB⟩ := hrel
    have HO2 := Lib.hid hown
    have HB4 := Lib.hid hB
    have hs4 : w.heap.size ≤ wr.heap.size := hB.size
    clear hown hB HO HB3
    by_cases hlt : j < n
    · obtain ⟨x, hx⟩ := getElem?_of_lt (l := l) (k := j) (by rw [HN.out]; exact hlt)
      obtain ⟨g, rfl, hg1, hg2⟩ := HF.out (by omega)
      have hxb := HG.out x (List.mem_of_getElem? hx)
      simp only [Tsk.bad, not_or, Int.not_lt] at hxb
      have hat : (mapTo zeroO l j)[j]? = some x := by rw [mapTo_get, hx]; simp
      have q0 : wr.cell? ⟨g, j * 5, none⟩ = some (.int .i64 x.p) := own_tsk HO2.out hat 0 (by omega)
      have q1 : wr.cell? ⟨g, j * 5 + 1, none⟩ = some (.int .i64 x.o) := own_tsk HO2.out hat 1 (by omega)
      have q2 : wr.frozen? ⟨g, j * 5 + 1, none⟩ = false := HO2.out.frozenAt _
      have HO5 : Hid ((wr.setCell ⟨g, j * 5 + 1, none⟩ (.int .i64 0)).ownsRow w.heap.size 34 5 (.slice (some ⟨g, 0, none⟩) n cx) n (tcells (mapTo zeroO l (j + 1)))) := by
        rw [mapTo_step zeroO l j x hx, tcells_set _ j x (zeroO j x) 1 (.int .i64 0) hat (by omega) rfl]
        exact (HO2.out.stored (j * 5 + 1) _).1
      have HB5 : Hid (Below w.heap.size w (wr.setCell ⟨g, j * 5 + 1, none⟩ (.int .i64 0))) := HB4.out.setCell (p := ⟨g, j * 5 + 1, none⟩) hg1 _
      have HMS := Lib.hid (maxTo_step hx)
      have hmj := maxTo_range HG.out j
      clear hx hat
      subst hm
      generalize maxTo l j = v at *
      go_wp2
      go_roundw
      case rel => exact ⟨j + 1, by omega, by go_num, by rw [HMS.out], HO5.out, HB5.out⟩
      case measure => simp [intOf]; omega
    · have hjn : j = n := by omega
      subst hjn
      subst hm
      obtain ⟨T, hT⟩ : ∃ T : Nat, maxTo l j = T := ⟨(maxTo l j).toNat, by omega⟩
      rw [hT] at HMG hmr ⊢
      clear hT
      by_cases h3 : 300 < T
      · go_wp2
        go_ret
        exact ⟨rfl, HB4.out⟩
      · have HO3 := HO2.out
        rw [HST.out] at HO3
        obtain ⟨X', cx', e, _, _, hr⟩ := own_read HO3
        simp only [Value.slice.injEq] at e
        obtain ⟨rfl, -, rfl⟩ := e
        have HX := Lib.hid hr
        have HKS : Hid (check (still l) = 0) := still_check HK.out
        have HSP := Lib.hid (sim_spec HKS.out T)
        have hjl := (wf_sim (good_of_check HKS.out).1 (good_of_check HKS.out).2 T).jobs_le
        obtain ⟨js, hjs⟩ : ∃ js, (simTo (still l) T).2.1 = js := ⟨_, rfl⟩
        obtain ⟨nj, hnj⟩ : ∃ nj, js.length = nj := ⟨_, rfl⟩
        rw [hjs] at HSP
        rw [hjs, hnj] at hjl
        have HNJ0 : Hid ((simTo (still l) T).2.1.length = nj) := by rw [hjs]; exact hnj
        have HJS := Lib.hid hjs
        have HNJ := Lib.hid hnj
        have HFJ : Hid (∀ (i : Nat) (x : Tsk), l[i]? = some x → ∃ jb, js[i]? = some jb ∧ jb.k = i ∧ jb.rel = 0 ∧ (worst (still l) (zeroO 0 x) ≠ 0 → jb.fin = worst (still l) (zeroO 0 x)) ∧ (worst (still l) (zeroO 0 x) = 0 → ¬ (0 ≤ jb.fin ∧ jb.fin ≤ x.p))) := by
          intro i x hx
          exact first_job HKS.out (still_zero l) HSP.out (x := zeroO 0 x) (by rw [still_get, hx]; rfl) (HMG.out i x hx)
        have hnn : j ≤ nj := by
          by_cases h0 : j = 0
          · omega
          · obtain ⟨x, hx⟩ := getElem?_of_lt (l := l) (k := j - 1) (by rw [HN.out]; omega)
            obtain ⟨jb, h1, _⟩ := HFJ.out (j - 1) x hx
            have := (List.getElem?_eq_some_iff.1 h1).1
            rw [hnj] at this
            omega
        clear HO3 hr hjs hnj hlt hj
        go_wp2_with (fail)
        (with_reducible refine (Worst_ok X j cx (still l) _ HX.out HSL.out hx1 hx2 HKS.out).mono ?_)
        rintro e w5 ⟨A1, c1, rfl, c11, c12, hr1, hb⟩
        have HR1 := Lib.hid hr1
        have HX2 : Hid (Rd w5 w5.heap.size X (tcells (still l))) := (HX.out.below hb (Nat.le_refl _)).more hb.size
        have HB5 : Hid (Below w.heap.size w w5) := HB4.out.trans (hb.mono hs4)
        have hs5 := HB5.out.size
        clear hb hr1 HX
        go_wp2_with (fail)
        (with_reducible refine (Jobs_ok X j cx T nj (still l) _ HX2.out HSL.out hx1 hx2 HKS.out (by omega) HNJ0.out).mono ?_)
        rintro e w6 ⟨A2, c2, rfl, c21, c22, hr2, hb⟩
        rw [HJS.out] at hr2
        have HR2 := Lib.hid hr2
        have HR1b : Hid (Rd w6 w6.heap.size A1 (icells ((still l).map (worst (still l))))) := (HR1.out.below hb (Nat.le_refl _)).more hb.size
        have HB6 : Hid (Below w.heap.size w w6) := HB5.out.trans (hb.mono hs5)
        have hs6 := HB6.out.size
        have d0 : ((j : Int) != j) = false := by simp
        have d1 : decide (nj < j) = false := by simp; omega
        clear hb hr2 HR1 HX2
        go_wp2
        go_loopw [80] (fun i wr => ∃ k : Nat, k ≤ j ∧ i = .int .i64 k ∧ ∃ q, wr = w6.drewN q) (fun i _ => j - (intOf i).toNat)
        case atStart => exact ⟨0, Nat.zero_le _, rfl, 0, rfl⟩
        case round =>
          obtain ⟨k, hk, rfl, q, rfl⟩ := hrel
          by_cases hlt : k < j
          · obtain ⟨x, hx⟩ := getElem?_of_lt (l := l) (k := k) (by rw [HN.out]; exact hlt)
            obtain ⟨jb, hjb, hjk, hjr, hw1, hw0⟩ := HFJ.out k x hx
            obtain ⟨b2, o2, rfl, hb2, j0, j1, j2, j3⟩ := HR2.out.jb hjb
            have hxw : ((still l).map (worst (still l)))[k]? = some (worst (still l) (zeroO 0 x)) := by rw [List.getElem?_map, still_get, hx]; rfl
            obtain ⟨b1, o1, rfl, hb1, r0⟩ := HR1b.out.int hxw
            obtain ⟨b, off, rfl, hbl, x0, _⟩ := (HA.out.below HB6.out (Nat.le_refl _)).tsk hx
            have hwr := worst_range (l := still l) (x := zeroO 0 x) ((good_of_check HKS.out).1 _ (by unfold still; exact List.mem_map.2 ⟨x, List.mem_of_getElem? hx, rfl⟩))
            rw [hjk] at j0
            rw [hjr] at j1
            clear hx hjb hxw
            generalize worst (still l) (zeroO 0 x) = r at *
            by_cases hr0 : r = 0
            · subst hr0
              have hh := hw0 rfl
              clear hw0 hw1
              by_cases hf : 0 ≤ jb.fin
              · have g1 : decide (0 ≤ jb.fin) = true := by simp [hf]
                have g2 : decide (jb.fin ≤ x.p) = false := by simp; omega
                clear hh
                go_wp2
                go_quiet (fail)
                go_wp2
                go_roundw
                case rel => exact ⟨k + 1, by omega, by go_num, _, rfl⟩
                case measure => simp [intOf]; omega
              · have g1 : decide (0 ≤ jb.fin) = false := by simp; omega
                clear hh
                go_wp2
                go_quiet (fail)
                go_wp2
                go_roundw
                case rel => exact ⟨k + 1, by omega, by go_num, _, rfl⟩
                case measure => simp [intOf]; omega
            · have hh := hw1 hr0
              rw [hh] at j3
              have g1 : decide (0 < r) = true := by simp; omega
              have g2 : (r == 0) = false := by simpa using hr0
              have g3 : (r != r) = false := by simp
              clear hw0 hw1 hh
              go_wp2
              go_quiet (fail)
              go_wp2
              go_roundw
              case rel => exact ⟨k + 1, by omega, by go_num, _, rfl⟩
              case measure => simp [intOf]; omega
          · have hkj : k = j := by omega
            subst hkj
            go_wp2
            go_ret
            exact ⟨rfl, Below.drewN HB6.out q⟩
end Go.Proofs.Ytcfhnjdaijdoiaa
