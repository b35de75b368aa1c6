
/-
  dictionary.Check and the reference's Check.
-/
import Derived.Test.YtjdknddnanopaaaBW1
import Derived.Deep.DeepCutAuto
namespace Go.Proofs.Ytjdknddnanopaaa.Bus
open Go.RowKit
set_option linter.unusedVariables false

set_option maxRecDepth 100000 in
set_option maxHeartbeats 8000000 in
theorem check_any (A : Option Addr) (n c : Nat) (l : List Ob) (w : World) (hA : Rd w w.heap.size A (ocells l)) (hn : l.length = n) (hc : n ≤ c) (hcc : c ≤ maxLen) :
    Calls Try.prog 89 #[.slice A n c] w fun e w' => e = .returned (errV (checkO l)) ∧ Below w.heap.size w w' := by
  unfold maxLen at hcc
  have HN := Lib.hid hn
  have HA := Lib.hid hA
  clear hn hA
  by_cases hn8 : 128 < n
  · have HC : Hid (checkO l = 4) := by unfold checkO; rw [if_pos (by rw [HN.out]; exact hn8)]; rfl
    go_enter Try.func89, Try.ntmps89
    go_wp2
    go_ret
    exact ⟨by rw [HC.out]; rfl, Below.refl _ _⟩
  have HF : Hid (checkFrom (prevOf l 0) (l.drop 0) = checkO l) := by
    unfold checkO
    rw [if_neg (by rw [HN.out]; exact hn8)]
    rfl
  go_enter Try.func89, Try.ntmps89
  go_wp2
  go_loopw [14] (fun i wr => ∃ k : Nat, k ≤ n ∧ i = .int .i64 k ∧ checkFrom (prevOf l k) (l.drop k) = checkO l ∧ Below w.heap.size w wr) (fun i wr => n - (intOf i).toNat)
  case atStart => exact ⟨0, Nat.zero_le _, rfl, HF.out, Below.refl _ _⟩
  case round =>
    obtain ⟨k, hk, rfl, hF, hB⟩ := hrel
    by_cases hlt : k < n
    · obtain ⟨x, hx⟩ := getElem?_of_lt (l := l) (k := k) (by rw [HN.out]; exact hlt)
      rw [checkFrom_step l k x hx] at hF
      obtain ⟨b, off, hAe, hbl, c0, c1, c2, c3, c4, c5, c6, c7, c8⟩ := (HA.out.below hB (Nat.le_refl _)).ob hx
      subst hAe
      have HX := Lib.hid hx
      have HFF := Lib.hid hF
      have HB := Lib.hid hB
      have hsz : w.heap.size ≤ wr.heap.size := hB.size
      clear hx hF hB HF
      by_cases hfar : x.far
      · have HM : Hid (checkO l = 3) := by
          have := HFF.out
          rw [if_pos hfar] at this
          exact this.symm
        clear HFF
        unfold Ob.far at hfar
        go_wp2
        all_goals
          go_ret
          exact ⟨by rw [HM.out]; rfl, HB.out.alloc hsz _⟩
      · have HG := HFF.out
        rw [if_neg hfar] at HG
        have HG := Lib.hid HG
        clear HFF
        simp only [Ob.far, not_or, Int.not_lt] at hfar
        obtain ⟨f1, f2, f3, f4⟩ := hfar
        go_wp2
        have e0 : (wr.alloc (.cells #[.int .i64 x.i, .int .i64 x.s, .int .i64 x.t, .int .i64 x.a, .int .i64 x.lo, .int .i64 x.hi, .int .i64 x.v, .bool x.mp, .bool x.hd] 144)).cell? ⟨wr.heap.size, 0, none⟩ = some (.int .i64 x.i) := by simp
        have e1 : (wr.alloc (.cells #[.int .i64 x.i, .int .i64 x.s, .int .i64 x.t, .int .i64 x.a, .int .i64 x.lo, .int .i64 x.hi, .int .i64 x.v, .bool x.mp, .bool x.hd] 144)).cell? ⟨wr.heap.size, 1, none⟩ = some (.int .i64 x.s) := by simp
        have e2 : (wr.alloc (.cells #[.int .i64 x.i, .int .i64 x.s, .int .i64 x.t, .int .i64 x.a, .int .i64 x.lo, .int .i64 x.hi, .int .i64 x.v, .bool x.mp, .bool x.hd] 144)).cell? ⟨wr.heap.size, 2, none⟩ = some (.int .i64 x.t) := by simp
        have e3 : (wr.alloc (.cells #[.int .i64 x.i, .int .i64 x.s, .int .i64 x.t, .int .i64 x.a, .int .i64 x.lo, .int .i64 x.hi, .int .i64 x.v, .bool x.mp, .bool x.hd] 144)).cell? ⟨wr.heap.size, 3, none⟩ = some (.int .i64 x.a) := by simp
        have e4 : (wr.alloc (.cells #[.int .i64 x.i, .int .i64 x.s, .int .i64 x.t, .int .i64 x.a, .int .i64 x.lo, .int .i64 x.hi, .int .i64 x.v, .bool x.mp, .bool x.hd] 144)).cell? ⟨wr.heap.size, 4, none⟩ = some (.int .i64 x.lo) := by simp
        have e5 : (wr.alloc (.cells #[.int .i64 x.i, .int .i64 x.s, .int .i64 x.t, .int .i64 x.a, .int .i64 x.lo, .int .i64 x.hi, .int .i64 x.v, .bool x.mp, .bool x.hd] 144)).cell? ⟨wr.heap.size, 5, none⟩ = some (.int .i64 x.hi) := by simp
        have e6 : (wr.alloc (.cells #[.int .i64 x.i, .int .i64 x.s, .int .i64 x.t, .int .i64 x.a, .int .i64 x.lo, .int .i64 x.hi, .int .i64 x.v, .bool x.mp, .bool x.hd] 144)).cell? ⟨wr.heap.size, 6, none⟩ = some (.int .i64 x.v) := by simp
        have e7 : (wr.alloc (.cells #[.int .i64 x.i, .int .i64 x.s, .int .i64 x.t, .int .i64 x.a, .int .i64 x.lo, .int .i64 x.hi, .int .i64 x.v, .bool x.mp, .bool x.hd] 144)).cell? ⟨wr.heap.size, 7, none⟩ = some (.bool x.mp) := by simp
        have e8 : (wr.alloc (.cells #[.int .i64 x.i, .int .i64 x.s, .int .i64 x.t, .int .i64 x.a, .int .i64 x.lo, .int .i64 x.hi, .int .i64 x.v, .bool x.mp, .bool x.hd] 144)).cell? ⟨wr.heap.size, 8, none⟩ = some (.bool x.hd) := by simp
        have HB3 : Hid (Below w.heap.size w (wr.alloc (.cells #[.int .i64 x.i, .int .i64 x.s, .int .i64 x.t, .int .i64 x.a, .int .i64 x.lo, .int .i64 x.hi, .int .i64 x.v, .bool x.mp, .bool x.hd] 144))) := HB.out.alloc hsz _
        generalize wr.alloc (.cells #[.int .i64 x.i, .int .i64 x.s, .int .i64 x.t, .int .i64 x.a, .int .i64 x.lo, .int .i64 x.hi, .int .i64 x.v, .bool x.mp, .bool x.hd] 144) = W1 at *
        clear c0 c1 c2 c3 c4 c5 c6 c7 c8 HB hsz
        go_cut [72] (fun s wx => s = .bool (decide (backO (prevOf l k) x)) ∧ ∃ q, wx = W1.drewN q)
        case first =>
          by_cases hk0 : k = 0
          · have HV : Hid (decide (backO (prevOf l k) x) = false) := by
              show _ = _
              rw [hk0]; simp [prevOf, backO]
            have hkp : decide (0 < k) = false := by simp; omega
            go_quiet (fail)
            (try go_wp2_with fail)
            go_meet
            exact ⟨by rw [HV.out], _, rfl⟩
          · obtain ⟨k', hk'⟩ : ∃ k' : Nat, k = k' + 1 := ⟨k - 1, by omega⟩
            have hkk : (k : Int) - 1 = k' := by omega
            have hkl : k' < n := by omega
            have hkp : decide (0 < k) = true := by simp; omega
            have hpr : prevOf l k = l[k']? := by unfold prevOf; rw [if_neg hk0]; congr 1; omega
            obtain ⟨y, hy⟩ := getElem?_of_lt (l := l) (k := k') (by rw [HN.out]; exact hkl)
            have HV : Hid (decide (backO (prevOf l k) x) = (decide (x.i < y.i) || ((x.i == y.i) && decide (x.s ≤ y.s)))) := by
              show _ = _
              rw [hpr, hy]
              exact back_dec y x
            obtain ⟨b', off', hAe, _, d0, d1, _⟩ := (HA.out.below HB3.out (Nat.le_refl _)).ob hy
            obtain ⟨rfl, rfl⟩ : b = b' ∧ off = off' := by simpa using hAe
            clear hy hpr hAe hk' hk0
            cases g1 : decide (x.i < y.i)
            · cases g2 : x.i == y.i
              · go_quiet (fail)
                (try go_wp2_with fail)
                go_meet
                exact ⟨by (rw [HV.out, g1, g2]) <;> rfl, _, rfl⟩
              · cases g3 : decide (x.s ≤ y.s)
                · go_quiet (fail)
                  (try go_wp2_with fail)
                  go_meet
                  exact ⟨by (rw [HV.out, g1, g2, g3]) <;> rfl, _, rfl⟩
                · go_quiet (fail)
                  (try go_wp2_with fail)
                  go_meet
                  exact ⟨by (rw [HV.out, g1, g2, g3]) <;> rfl, _, rfl⟩
            · go_quiet (fail)
              (try go_wp2_with fail)
              go_meet
              exact ⟨by (rw [HV.out, g1]) <;> rfl, _, rfl⟩
        case rest =>
          obtain ⟨rfl, q, rfl⟩ := hcut
          have HB4 : Hid (Below w.heap.size w (W1.drewN q)) := Below.drewN HB3.out q
          have E2 : (W1.drewN q).cell? ⟨wr.heap.size, 2, none⟩ = some (.int .i64 x.t) := e2
          have E3 : (W1.drewN q).cell? ⟨wr.heap.size, 3, none⟩ = some (.int .i64 x.a) := e3
          have E4 : (W1.drewN q).cell? ⟨wr.heap.size, 4, none⟩ = some (.int .i64 x.lo) := e4
          have E5 : (W1.drewN q).cell? ⟨wr.heap.size, 5, none⟩ = some (.int .i64 x.hi) := e5
          have E6 : (W1.drewN q).cell? ⟨wr.heap.size, 6, none⟩ = some (.int .i64 x.v) := e6
          clear e0 e1 e2 e3 e4 e5 e6 e7 e8 HB3
          generalize W1.drewN q = W2 at *
          obtain ⟨kd, hkd⟩ : ∃ kd, kindOf x.t = kd := ⟨_, rfl⟩
          have HKD := Lib.hid hkd
          have HGG := HG.out
          rw [hkd] at HGG
          have HG := Lib.hid HGG
          clear HGG hkd
          cases gb : decide (backO (prevOf l k) x)
          · have HG2 : Hid ((if kd.n = 0 then 7 else if x.odd then 21 else if x.wide then 3 else checkFrom (prevOf l (k + 1)) (l.drop (k + 1))) = checkO l) := by
              have := HG.out
              rw [if_neg (by simpa using gb)] at this
              exact this
            clear gb HG
            go_wp2_with (fail)
            (with_reducible refine (kind_any x.t _).mono ?_)
            rintro e W3 ⟨rfl, rfl⟩
            rw [HKD.out]
            simp only [kindV]
            by_cases hn0 : kd.n = 0
            · have HM : Hid (checkO l = 7) := by
                have := HG2.out
                rw [if_pos hn0] at this
                exact this.symm
              rw [hn0]
              clear hn0
              go_wp2
              go_ret
              exact ⟨by rw [HM.out]; rfl, HB4.out⟩
            · have HG3 : Hid ((if x.odd then 21 else if x.wide then 3 else checkFrom (prevOf l (k + 1)) (l.drop (k + 1))) = checkO l) := by
                have := HG2.out
                rw [if_neg hn0] at this
                exact this
              have hn1 : ((kd.n : Int) == 0) = false := by simpa using hn0
              clear HG2 hn0
              go_upto_region 13 with (fail)
              go_cut [96] (fun s wx => s = .bool (decide x.odd) ∧ wx = W2)
              case first =>
                by_cases o0 : x.a = 0
                · have HV : Hid (decide x.odd = false) := by simp [Hid, Ob.odd, o0]
                  rw [o0] at E3
                  go_wp2_with (fail)
                  go_meet
                  exact ⟨by (rw [HV.out]) <;> rfl, rfl⟩
                by_cases o1 : x.a = 1
                · have HV : Hid (decide x.odd = false) := by simp [Hid, Ob.odd, o1]
                  rw [o1] at E3
                  go_wp2_with (fail)
                  go_meet
                  exact ⟨by (rw [HV.out]) <;> rfl, rfl⟩
                by_cases o2 : x.a = 2
                · have HV : Hid (decide x.odd = false) := by simp [Hid, Ob.odd, o2]
                  rw [o2] at E3
                  go_wp2_with (fail)
                  go_meet
                  exact ⟨by (rw [HV.out]) <;> rfl, rfl⟩
                have HV : Hid (decide x.odd = true) := by simp [Hid, Ob.odd, o0, o1, o2]
                have a0 : (x.a != 0) = true := by simpa using o0
                have a1 : (x.a != 1) = true := by simpa using o1
                have a2 : (x.a != 2) = true := by simpa using o2
                go_wp2_with (fail)
                go_meet
                exact ⟨by (rw [HV.out]) <;> rfl, rfl⟩
              case rest =>
                obtain ⟨rfl, rfl⟩ := hcut
                cases go : decide x.odd
                · have HG4 : Hid ((if x.wide then 3 else checkFrom (prevOf l (k + 1)) (l.drop (k + 1))) = checkO l) := by
                    have := HG3.out
                    rw [if_neg (by simpa using go)] at this
                    exact this
                  clear go HG3
                  go_upto_region 15 with (fail)
                  go_cut [133] (fun s wx => s = .bool (decide x.wide) ∧ wx = wc)
                  case first =>
                    have HV : Hid (decide x.wide = (decide (x.lo < kd.lo) || (decide (kd.hi < x.lo) || (decide (x.hi < kd.lo) || (decide (kd.hi < x.hi) || (decide (x.v < x.lo) || decide (x.hi < x.v))))))) := by
                      exact wide_dec HKD.out
                    cases b0 : decide (x.lo < kd.lo)
                    · cases b1 : decide (kd.hi < x.lo)
                      · cases b2 : decide (x.hi < kd.lo)
                        · cases b3 : decide (kd.hi < x.hi)
                          · cases b4 : decide (x.v < x.lo)
                            · cases b5 : decide (x.hi < x.v)
                              · go_wp2_with (fail)
                                go_meet
                                exact ⟨by (rw [HV.out, b0, b1, b2, b3, b4, b5]) <;> rfl, rfl⟩
                              · go_wp2_with (fail)
                                go_meet
                                exact ⟨by (rw [HV.out, b0, b1, b2, b3, b4, b5]) <;> rfl, rfl⟩
                            · go_wp2_with (fail)
                              go_meet
                              exact ⟨by (rw [HV.out, b0, b1, b2, b3, b4]) <;> rfl, rfl⟩
                          · go_wp2_with (fail)
                            go_meet
                            exact ⟨by (rw [HV.out, b0, b1, b2, b3]) <;> rfl, rfl⟩
                        · go_wp2_with (fail)
                          go_meet
                          exact ⟨by (rw [HV.out, b0, b1, b2]) <;> rfl, rfl⟩
                      · go_wp2_with (fail)
                        go_meet
                        exact ⟨by (rw [HV.out, b0, b1]) <;> rfl, rfl⟩
                    · go_wp2_with (fail)
                      go_meet
                      exact ⟨by (rw [HV.out, b0]) <;> rfl, rfl⟩
                  case rest =>
                    obtain ⟨rfl, rfl⟩ := hcut
                    cases gw : decide x.wide
                    · have HM : Hid (checkFrom (prevOf l (k + 1)) (l.drop (k + 1)) = checkO l) := by
                        have := HG4.out
                        rw [if_neg (by simpa using gw)] at this
                        exact this
                      clear gw HG4
                      go_wp2
                      go_roundw
                      case rel => exact ⟨k + 1, by omega, by go_num, HM.out, HB4.out⟩
                      case measure => simp [intOf]; omega
                    · have HM : Hid (checkO l = 3) := by
                        have := HG4.out
                        rw [if_pos (by simpa using gw)] at this
                        exact this.symm
                      clear gw HG4
                      go_wp2
                      go_ret
                      exact ⟨by rw [HM.out]; rfl, HB4.out⟩
                · have HM : Hid (checkO l = 21) := by
                    have := HG3.out
                    rw [if_pos (by simpa using go)] at this
                    exact this.symm
                  clear go HG3
                  go_wp2
                  go_ret
                  exact ⟨by rw [HM.out]; rfl, HB4.out⟩
          · have HM : Hid (checkO l = 26) := by
              have := HG.out
              rw [if_pos (by simpa using gb)] at this
              exact this.symm
            clear gb HG
            go_wp2
            go_ret
            exact ⟨by rw [HM.out]; rfl, HB4.out⟩
    · have : k = n := by omega
      subst this
      have HM : Hid (checkO l = 0) := by
        rw [← hF, List.drop_eq_nil_of_le (by rw [HN.out]; omega)]; rfl
      clear hF HF
      go_wp2
      go_ret
      exact ⟨by rw [HM.out]; rfl, hB⟩

set_option maxRecDepth 100000 in
set_option maxHeartbeats 8000000 in
theorem refCheck_any (A : Option Addr) (n c : Nat) (l : List Ob) (w : World) (hA : Rd w w.heap.size A (ocells l)) (hn : l.length = n) (hc : n ≤ c) (hcc : c ≤ maxLen) :
    Calls Try.prog 43 #[.slice A n c] w fun e w' => e = .returned (.int .i64 (checkO l)) ∧ Below w.heap.size w w' := by
  unfold maxLen at hcc
  have HN := Lib.hid hn
  have HA := Lib.hid hA
  clear hn hA
  by_cases hn8 : 128 < n
  · have HC : Hid (checkO l = 4) := by unfold checkO; rw [if_pos (by rw [HN.out]; exact hn8)]; rfl
    go_enter Try.func43, Try.ntmps43
    go_wp2
    go_ret
    exact ⟨by rw [HC.out]; rfl, Below.refl _ _⟩
  have HF : Hid (checkFrom (prevOf l 0) (l.drop 0) = checkO l) := by
    unfold checkO
    rw [if_neg (by rw [HN.out]; exact hn8)]
    rfl
  go_enter Try.func43, Try.ntmps43
  go_wp2
  go_loopw [13] (fun i wr => ∃ k : Nat, k ≤ n ∧ i = .int .i64 k ∧ checkFrom (prevOf l k) (l.drop k) = checkO l ∧ Below w.heap.size w wr) (fun i wr => n - (intOf i).toNat)
  case atStart => exact ⟨0, Nat.zero_le _, rfl, HF.out, Below.refl _ _⟩
  case round =>
    obtain ⟨k, hk, rfl, hF, hB⟩ := hrel
    by_cases hlt : k < n
    · obtain ⟨x, hx⟩ := getElem?_of_lt (l := l) (k := k) (by rw [HN.out]; exact hlt)
      rw [checkFrom_step l k x hx] at hF
      obtain ⟨b, off, hAe, hbl, c0, c1, c2, c3, c4, c5, c6, c7, c8⟩ := (HA.out.below hB (Nat.le_refl _)).ob hx
      subst hAe
      have HX := Lib.hid hx
      have HFF := Lib.hid hF
      have HB := Lib.hid hB
      have hsz : w.heap.size ≤ wr.heap.size := hB.size
      clear hx hF hB HF
      by_cases hfar : x.far
      · have HM : Hid (checkO l = 3) := by
          have := HFF.out
          rw [if_pos hfar] at this
          exact this.symm
        clear HFF
        unfold Ob.far at hfar
        go_wp2
        all_goals
          go_ret
          exact ⟨by rw [HM.out]; rfl, HB.out.alloc hsz _⟩
      · have HG := HFF.out
        rw [if_neg hfar] at HG
        have HG := Lib.hid HG
        clear HFF
        simp only [Ob.far, not_or, Int.not_lt] at hfar
        obtain ⟨f1, f2, f3, f4⟩ := hfar
        go_wp2
        have e0 : (wr.alloc (.cells #[.int .i64 x.i, .int .i64 x.s, .int .i64 x.t, .int .i64 x.a, .int .i64 x.lo, .int .i64 x.hi, .int .i64 x.v, .bool x.mp, .bool x.hd] 144)).cell? ⟨wr.heap.size, 0, none⟩ = some (.int .i64 x.i) := by simp
        have e1 : (wr.alloc (.cells #[.int .i64 x.i, .int .i64 x.s, .int .i64 x.t, .int .i64 x.a, .int .i64 x.lo, .int .i64 x.hi, .int .i64 x.v, .bool x.mp, .bool x.hd] 144)).cell? ⟨wr.heap.size, 1, none⟩ = some (.int .i64 x.s) := by simp
        have e2 : (wr.alloc (.cells #[.int .i64 x.i, .int .i64 x.s, .int .i64 x.t, .int .i64 x.a, .int .i64 x.lo, .int .i64 x.hi, .int .i64 x.v, .bool x.mp, .bool x.hd] 144)).cell? ⟨wr.heap.size, 2, none⟩ = some (.int .i64 x.t) := by simp
        have e3 : (wr.alloc (.cells #[.int .i64 x.i, .int .i64 x.s, .int .i64 x.t, .int .i64 x.a, .int .i64 x.lo, .int .i64 x.hi, .int .i64 x.v, .bool x.mp, .bool x.hd] 144)).cell? ⟨wr.heap.size, 3, none⟩ = some (.int .i64 x.a) := by simp
        have e4 : (wr.alloc (.cells #[.int .i64 x.i, .int .i64 x.s, .int .i64 x.t, .int .i64 x.a, .int .i64 x.lo, .int .i64 x.hi, .int .i64 x.v, .bool x.mp, .bool x.hd] 144)).cell? ⟨wr.heap.size, 4, none⟩ = some (.int .i64 x.lo) := by simp
        have e5 : (wr.alloc (.cells #[.int .i64 x.i, .int .i64 x.s, .int .i64 x.t, .int .i64 x.a, .int .i64 x.lo, .int .i64 x.hi, .int .i64 x.v, .bool x.mp, .bool x.hd] 144)).cell? ⟨wr.heap.size, 5, none⟩ = some (.int .i64 x.hi) := by simp
        have e6 : (wr.alloc (.cells #[.int .i64 x.i, .int .i64 x.s, .int .i64 x.t, .int .i64 x.a, .int .i64 x.lo, .int .i64 x.hi, .int .i64 x.v, .bool x.mp, .bool x.hd] 144)).cell? ⟨wr.heap.size, 6, none⟩ = some (.int .i64 x.v) := by simp
        have e7 : (wr.alloc (.cells #[.int .i64 x.i, .int .i64 x.s, .int .i64 x.t, .int .i64 x.a, .int .i64 x.lo, .int .i64 x.hi, .int .i64 x.v, .bool x.mp, .bool x.hd] 144)).cell? ⟨wr.heap.size, 7, none⟩ = some (.bool x.mp) := by simp
        have e8 : (wr.alloc (.cells #[.int .i64 x.i, .int .i64 x.s, .int .i64 x.t, .int .i64 x.a, .int .i64 x.lo, .int .i64 x.hi, .int .i64 x.v, .bool x.mp, .bool x.hd] 144)).cell? ⟨wr.heap.size, 8, none⟩ = some (.bool x.hd) := by simp
        have HB3 : Hid (Below w.heap.size w (wr.alloc (.cells #[.int .i64 x.i, .int .i64 x.s, .int .i64 x.t, .int .i64 x.a, .int .i64 x.lo, .int .i64 x.hi, .int .i64 x.v, .bool x.mp, .bool x.hd] 144))) := HB.out.alloc hsz _
        generalize wr.alloc (.cells #[.int .i64 x.i, .int .i64 x.s, .int .i64 x.t, .int .i64 x.a, .int .i64 x.lo, .int .i64 x.hi, .int .i64 x.v, .bool x.mp, .bool x.hd] 144) = W1 at *
        clear c0 c1 c2 c3 c4 c5 c6 c7 c8 HB hsz
        go_cut [70] (fun s wx => s = .bool (decide (backO (prevOf l k) x)) ∧ ∃ q, wx = W1.drewN q)
        case first =>
          by_cases hk0 : k = 0
          · have HV : Hid (decide (backO (prevOf l k) x) = false) := by
              show _ = _
              rw [hk0]; simp [prevOf, backO]
            have hkp : decide (0 < k) = false := by simp; omega
            go_quiet (fail)
            (try go_wp2_with fail)
            go_meet
            exact ⟨by rw [HV.out], _, rfl⟩
          · obtain ⟨k', hk'⟩ : ∃ k' : Nat, k = k' + 1 := ⟨k - 1, by omega⟩
            have hkk : (k : Int) - 1 = k' := by omega
            have hkl : k' < n := by omega
            have hkp : decide (0 < k) = true := by simp; omega
            have hpr : prevOf l k = l[k']? := by unfold prevOf; rw [if_neg hk0]; congr 1; omega
            obtain ⟨y, hy⟩ := getElem?_of_lt (l := l) (k := k') (by rw [HN.out]; exact hkl)
            have HV : Hid (decide (backO (prevOf l k) x) = (decide (x.i < y.i) || ((x.i == y.i) && decide (x.s ≤ y.s)))) := by
              show _ = _
              rw [hpr, hy]
              exact back_dec y x
            obtain ⟨b', off', hAe, _, d0, d1, _⟩ := (HA.out.below HB3.out (Nat.le_refl _)).ob hy
            obtain ⟨rfl, rfl⟩ : b = b' ∧ off = off' := by simpa using hAe
            clear hy hpr hAe hk' hk0
            cases g1 : decide (x.i < y.i)
            · cases g2 : x.i == y.i
              · go_quiet (fail)
                (try go_wp2_with fail)
                go_meet
                exact ⟨by (rw [HV.out, g1, g2]) <;> rfl, _, rfl⟩
              · cases g3 : decide (x.s ≤ y.s)
                · go_quiet (fail)
                  (try go_wp2_with fail)
                  go_meet
                  exact ⟨by (rw [HV.out, g1, g2, g3]) <;> rfl, _, rfl⟩
                · go_quiet (fail)
                  (try go_wp2_with fail)
                  go_meet
                  exact ⟨by (rw [HV.out, g1, g2, g3]) <;> rfl, _, rfl⟩
            · go_quiet (fail)
              (try go_wp2_with fail)
              go_meet
              exact ⟨by (rw [HV.out, g1]) <;> rfl, _, rfl⟩
        case rest =>
          obtain ⟨rfl, q, rfl⟩ := hcut
          have HB4 : Hid (Below w.heap.size w (W1.drewN q)) := Below.drewN HB3.out q
          have E2 : (W1.drewN q).cell? ⟨wr.heap.size, 2, none⟩ = some (.int .i64 x.t) := e2
          have E3 : (W1.drewN q).cell? ⟨wr.heap.size, 3, none⟩ = some (.int .i64 x.a) := e3
          have E4 : (W1.drewN q).cell? ⟨wr.heap.size, 4, none⟩ = some (.int .i64 x.lo) := e4
          have E5 : (W1.drewN q).cell? ⟨wr.heap.size, 5, none⟩ = some (.int .i64 x.hi) := e5
          have E6 : (W1.drewN q).cell? ⟨wr.heap.size, 6, none⟩ = some (.int .i64 x.v) := e6
          clear e0 e1 e2 e3 e4 e5 e6 e7 e8 HB3
          generalize W1.drewN q = W2 at *
          obtain ⟨kd, hkd⟩ : ∃ kd, kindOf x.t = kd := ⟨_, rfl⟩
          have HKD := Lib.hid hkd
          have HGG := HG.out
          rw [hkd] at HGG
          have HG := Lib.hid HGG
          clear HGG hkd
          cases gb : decide (backO (prevOf l k) x)
          · have HG2 : Hid ((if kd.n = 0 then 7 else if x.odd then 21 else if x.wide then 3 else checkFrom (prevOf l (k + 1)) (l.drop (k + 1))) = checkO l) := by
              have := HG.out
              rw [if_neg (by simpa using gb)] at this
              exact this
            clear gb HG
            go_wp2_with (fail)
            (with_reducible refine (lim_any x.t _).mono ?_)
            rintro e W3 ⟨rfl, rfl⟩
            rw [HKD.out]
            simp only [limV]
            by_cases hn0 : kd.n = 0
            · have HM : Hid (checkO l = 7) := by
                have := HG2.out
                rw [if_pos hn0] at this
                exact this.symm
              rw [hn0]
              clear hn0
              go_wp2
              go_ret
              exact ⟨by rw [HM.out]; rfl, HB4.out⟩
            · have HG3 : Hid ((if x.odd then 21 else if x.wide then 3 else checkFrom (prevOf l (k + 1)) (l.drop (k + 1))) = checkO l) := by
                have := HG2.out
                rw [if_neg hn0] at this
                exact this
              have hn1 : ((kd.n : Int) == 0) = false := by simpa using hn0
              clear HG2 hn0
              go_upto_region 13 with (fail)
              go_cut [81] (fun s wx => s = .bool (decide x.odd) ∧ wx = W2)
              case first =>
                have HV : Hid (decide x.odd = (decide (x.a < 0) || decide (2 < x.a))) := by
                  show _ = _
                  rw [← Bool.decide_or]
                  congr 1
                  unfold Ob.odd
                  exact propext ⟨fun h => by omega, fun h => by omega⟩
                cases b0 : decide (x.a < 0)
                · cases b1 : decide (2 < x.a)
                  · go_wp2_with (fail)
                    go_meet
                    exact ⟨by (rw [HV.out, b0, b1]) <;> rfl, rfl⟩
                  · go_wp2_with (fail)
                    go_meet
                    exact ⟨by (rw [HV.out, b0, b1]) <;> rfl, rfl⟩
                · go_wp2_with (fail)
                  go_meet
                  exact ⟨by (rw [HV.out, b0]) <;> rfl, rfl⟩
              case rest =>
                obtain ⟨rfl, rfl⟩ := hcut
                cases go : decide x.odd
                · have HG4 : Hid ((if x.wide then 3 else checkFrom (prevOf l (k + 1)) (l.drop (k + 1))) = checkO l) := by
                    have := HG3.out
                    rw [if_neg (by simpa using go)] at this
                    exact this
                  clear go HG3
                  go_upto_region 15 with (fail)
                  go_cut [90] (fun s wx => s = .bool (decide x.wide) ∧ wx = wc)
                  case first =>
                    have HV : Hid (decide x.wide = (decide (x.lo < kd.lo) || (decide (kd.hi < x.lo) || (decide (x.hi < kd.lo) || (decide (kd.hi < x.hi) || (decide (x.v < x.lo) || decide (x.hi < x.v))))))) := by
                      exact wide_dec HKD.out
                    cases b0 : decide (x.lo < kd.lo)
                    · cases b1 : decide (kd.hi < x.lo)
                      · cases b2 : decide (x.hi < kd.lo)
                        · cases b3 : decide (kd.hi < x.hi)
                          · cases b4 : decide (x.v < x.lo)
                            · cases b5 : decide (x.hi < x.v)
                              · go_wp2_with (fail)
                                go_meet
                                exact ⟨by (rw [HV.out, b0, b1, b2, b3, b4, b5]) <;> rfl, rfl⟩
                              · go_wp2_with (fail)
                                go_meet
                                exact ⟨by (rw [HV.out, b0, b1, b2, b3, b4, b5]) <;> rfl, rfl⟩
                            · go_wp2_with (fail)
                              go_meet
                              exact ⟨by (rw [HV.out, b0, b1, b2, b3, b4]) <;> rfl, rfl⟩
                          · go_wp2_with (fail)
                            go_meet
                            exact ⟨by (rw [HV.out, b0, b1, b2, b3]) <;> rfl, rfl⟩
                        · go_wp2_with (fail)
                          go_meet
                          exact ⟨by (rw [HV.out, b0, b1, b2]) <;> rfl, rfl⟩
                      · go_wp2_with (fail)
                        go_meet
                        exact ⟨by (rw [HV.out, b0, b1]) <;> rfl, rfl⟩
                    · go_wp2_with (fail)
                      go_meet
                      exact ⟨by (rw [HV.out, b0]) <;> rfl, rfl⟩
                  case rest =>
                    obtain ⟨rfl, rfl⟩ := hcut
                    cases gw : decide x.wide
                    · have HM : Hid (checkFrom (prevOf l (k + 1)) (l.drop (k + 1)) = checkO l) := by
                        have := HG4.out
                        rw [if_neg (by simpa using gw)] at this
                        exact this
                      clear gw HG4
                      go_wp2
                      go_roundw
                      case rel => exact ⟨k + 1, by omega, by go_num, HM.out, HB4.out⟩
                      case measure => simp [intOf]; omega
                    · have HM : Hid (checkO l = 3) := by
                        have := HG4.out
                        rw [if_pos (by simpa using gw)] at this
                        exact this.symm
                      clear gw HG4
                      go_wp2
                      go_ret
                      exact ⟨by rw [HM.out]; rfl, HB4.out⟩
                · have HM : Hid (checkO l = 21) := by
                    have := HG3.out
                    rw [if_pos (by simpa using go)] at this
                    exact this.symm
                  clear go HG3
                  go_wp2
                  go_ret
                  exact ⟨by rw [HM.out]; rfl, HB4.out⟩
          · have HM : Hid (checkO l = 26) := by
              have := HG.out
              rw [if_pos (by simpa using gb)] at this
              exact this.symm
            clear gb HG
            go_wp2
            go_ret
            exact ⟨by rw [HM.out]; rfl, HB4.out⟩
    · have : k = n := by omega
      subst this
      have HM : Hid (checkO l = 0) := by
        rw [← hF, List.drop_eq_nil_of_le (by rw [HN.out]; omega)]; rfl
      clear hF HF
      go_wp2
      go_ret
      exact ⟨by rw [HM.out]; rfl, hB⟩

end Go.Proofs.Ytjdknddnanopaaa.Bus
