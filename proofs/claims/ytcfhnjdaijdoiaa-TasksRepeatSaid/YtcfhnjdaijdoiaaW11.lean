/-
  The reference's Check, worst, Worst, Meets, Assign; the statements' short.
-/
import Derived.Test.YtcfhnjdaijdoiaaW2
import Derived.Test.YtcfhnjdaijdoiaaW4
import Derived.Test.YtcfhnjdaijdoiaaPlain3
import Derived.Test.YtcfhnjdaijdoiaaMem2
namespace Go.Proofs.Ytcfhnjdaijdoiaa
open Go.RowKit
set_option linter.unusedVariables false

set_option maxHeartbeats 1000000 in
theorem refCheck_any (A : Option Addr) (n c : Nat) (l : List Tsk) (w : World) (hA : Rd w w.heap.size A (tcells l)) (hn : l.length = n) (hc : n ≤ c) (hcc : c ≤ maxLen) :
    Calls Try.prog 24 #[.slice A n c] w fun e w' => e = .returned (.int .i64 (check l)) ∧ Below w.heap.size w w' := by
  unfold maxLen at hcc
  have HN := Lib.hid hn
  clear hn
  have HA := Lib.hid hA
  clear hA
  by_cases hn8 : 8 < n
  · have HC : Hid (check l = 4) := by unfold check; rw [if_pos (by rw [HN.out]; exact hn8)]; rfl
    go_enter Try.func24, Try.ntmps24
    go_wp2
    go_ret
    exact ⟨by rw [HC.out]; rfl, Below.refl _ _⟩
  have HF : Hid (checkFrom (l.take 0) (l.drop 0) = check l) := by
    unfold check
    rw [if_neg (by rw [HN.out]; exact hn8)]
    rfl
  go_enter Try.func24, Try.ntmps24
  go_wp2
  go_loopw [12] (fun i wr => ∃ k : Nat, k ≤ n ∧ i = .int .i64 k ∧ checkFrom (l.take k) (l.drop k) = check l ∧ Below w.heap.size w wr) (fun i wr => n - (intOf i).toNat)
  case atStart => exact ⟨0, Nat.zero_le _, rfl, HF.out, Below.refl _ _⟩
  case round =>
    obtain ⟨k, hk, rfl, hF, hB⟩ := hrel
    by_cases hlt : k < n
    · obtain ⟨x, hx⟩ := getElem?_of_lt (l := l) (k := k) (by rw [HN.out]; exact hlt)
      rw [checkFrom_step l k x hx] at hF
      obtain ⟨b, off, hAe, hbl, c0, c1, c2, c3, c4⟩ := (HA.out.below hB (Nat.le_refl _)).tsk hx
      subst hAe
      have HX := Lib.hid hx
      have HFF := Lib.hid hF
      have HB := Lib.hid hB
      have hsz : w.heap.size ≤ wr.heap.size := hB.size
      clear hx hF hB
      by_cases hbad : x.bad
      · have HM : Hid (check l = 3) := by
          have := HFF.out
          rw [if_pos hbad] at this
          exact this.symm
        clear HFF
        unfold Tsk.bad at hbad
        go_wp2
        all_goals
          go_ret
          exact ⟨by rw [HM.out]; rfl, HB.out.alloc hsz _⟩
      · have HG : Hid ((if hasPrio x.q (l.take k) then 6 else checkFrom (l.take (k + 1)) (l.drop (k + 1))) = check l) := by
          have := HFF.out
          rw [if_neg hbad] at this
          exact this
        clear HFF
        simp only [Tsk.bad, not_or, Int.not_lt, Int.not_le] at hbad
        obtain ⟨b1, b2, b3, b4, b5, b6, b7⟩ := hbad
        go_wp2
        obtain ⟨wo, rfl⟩ : ∃ wo : World, wo = wr := ⟨_, rfl⟩
        go_loopw [60] (fun i wr => ∃ j : Nat, j ≤ k ∧ i = .int .i64 j ∧ hasPrio x.q (l.take j) = false ∧ Below w.heap.size w wr ∧ wr.cell? ⟨wo.heap.size, 4, none⟩ = some (.int .i64 x.q)) (fun i wr => k - (intOf i).toNat)
        case atStart =>
          refine ⟨0, Nat.zero_le _, rfl, rfl, HB.out.alloc (by omega) _, ?_⟩
          simp
        case round =>
          obtain ⟨j, hj, rfl, hpj, hB2, hq⟩ := hrel
          by_cases hjk : j < k
          · obtain ⟨y, hy⟩ := getElem?_of_lt (l := l) (k := j) (by rw [HN.out]; omega)
            obtain ⟨b', off', hAe, hbl', d0, d1, d2, d3, d4⟩ := (HA.out.below hB2 (Nat.le_refl _)).tsk hy
            obtain ⟨rfl, rfl⟩ : b = b' ∧ off = off' := by simpa using hAe
            have hlt2 : wo.heap.size < wr.heap.size := World.block_lt_of_cell? wr _ hq
            have HP := Lib.hid (hasPrio_step x.q l j y hy hpj)
            have HB2 := Lib.hid hB2
            have hs2 : w.heap.size ≤ wr.heap.size := hB2.size
            clear hy hAe hpj hB2
            by_cases he : y.q = x.q
            · have he' : (y.q == x.q) = true := by simpa using he
              have HM : Hid (check l = 6) := by
                have h1 : hasPrio x.q (l.take k) = true := hasPrio_mono _ _ (j + 1) _ (by rw [HP.out]; simpa using he) (by omega)
                have := HG.out
                rw [h1] at this
                exact this.symm
              clear he
              go_wp2
              go_ret
              exact ⟨by rw [HM.out]; rfl, HB2.out.alloc hs2 _⟩
            · have he' : (y.q == x.q) = false := by simpa using he
              have HM : Hid (hasPrio x.q (l.take (j + 1)) = false) := by
                show _ = _
                rw [HP.out]; simpa using he
              clear he
              go_wp2
              go_roundw
              case rel => exact ⟨j + 1, by omega, by go_num, HM.out, HB2.out.alloc hs2 _, by rw [World.cell?_alloc_past _ _ _ hlt2]; exact hq⟩
              case measure => simp [intOf]; omega
          · have hjk2 : j = k := by omega
            subst hjk2
            have HM : Hid (checkFrom (l.take (j + 1)) (l.drop (j + 1)) = check l) := by
              have := HG.out
              rw [hpj] at this
              exact this
            clear hpj
            go_wp2
            go_roundw
            case rel => exact ⟨j + 1, by omega, by go_num, HM.out, hB2⟩
            case measure => simp [intOf]; omega
    · have : k = n := by omega
      subst this
      have HM : Hid (check l = 0) := by
        rw [← hF, List.drop_eq_nil_of_le (by rw [HN.out]; omega)]; rfl
      clear hF
      go_wp2
      go_ret
      exact ⟨by rw [HM.out]; rfl, hB⟩
theorem ceil_t (y : Tsk) (r : Int) (w : World) (hp : 1 ≤ y.p) (hp2 : y.p ≤ 4096) (hn : 0 ≤ r) (hn2 : r ≤ 65536) :
    Calls Try.prog 57 #[.int .i64 r, .int .i64 y.p] w fun e w' => e = .returned (.int .i64 (times y r)) ∧ w = w' := ceil_any r y.p w hn hn2 hp hp2

set_option maxHeartbeats 1000000 in
theorem refworst_any (A : Option Addr) (n c i : Nat) (l : List Tsk) (x : Tsk) (w : World) (hA : Rd w w.heap.size A (tcells l)) (hn : l.length = n) (hn8 : n ≤ 8) (hg : ∀ x ∈ l, ¬ x.bad) (hi : l[i]? = some x) :
    Calls Try.prog 58 #[.slice A n c, .int .i64 i] w fun e w' => e = .returned (.int .i64 (worst l x)) ∧ Below w.heap.size w w' := by
  have hin : i < n := by have := (List.getElem?_eq_some_iff.1 hi).1; omega
  have hxb : ¬ x.bad := hg x (List.mem_of_getElem? hi)
  obtain ⟨b, off, hAe, hbl, c0, c1, c2, c3, c4⟩ := hA.tsk hi
  subst hAe
  have HX : Hid (¬ x.bad) := hxb
  simp only [Tsk.bad, not_or, Int.not_lt] at hxb
  obtain ⟨b1, b2, b3, b4, b5, b6, b7⟩ := hxb
  have HN := Lib.hid hn
  have HA := Lib.hid hA
  have HG := Lib.hid hg
  have HI := Lib.hid hi
  clear hn hA hg hi
  have HC0 : Hid (∀ wr, Below w.heap.size w wr → wr.cell? ⟨b, off + i * 5, none⟩ = some (.int .i64 x.p) ∧ wr.cell? ⟨b, off + i * 5 + 2, none⟩ = some (.int .i64 x.c) ∧ wr.cell? ⟨b, off + i * 5 + 4, none⟩ = some (.int .i64 x.q)) :=
    fun wr hB => ⟨(hB.cell (p := ⟨b, _, none⟩) hbl).trans c0, (hB.cell (p := ⟨b, _, none⟩) hbl).trans c2, (hB.cell (p := ⟨b, _, none⟩) hbl).trans c4⟩
  go_enter Try.func58, Try.ntmps58
  go_wp2
  go_loopw [5] (fun s wr => ∃ r : Int, s = .int .i64 r ∧ 1 ≤ r ∧ r ≤ x.p + 1 ∧ (∀ t, 1 ≤ t → t < r → resp l x t ≠ t) ∧ Below w.heap.size w wr) (fun s _ => (x.p + 1 - intOf s).toNat)
  case atStart => exact ⟨1, rfl, by omega, by omega, fun t h1 h2 => by omega, Below.refl _ _⟩
  case round =>
    obtain ⟨r, rfl, r1, r2, r3, hB⟩ := hrel
    obtain ⟨d0, d2, d4⟩ := HC0.out wr hB
    have HB := Lib.hid hB
    have HR3 := Lib.hid r3
    clear c0 c1 c2 c3 c4 hB r3
    by_cases hend : x.p < r
    · have HM : Hid (worst l x = 0) := worst_miss (fun t t1 t2 => HR3.out t t1 (by omega))
      go_wp2
      go_ret
      exact ⟨by rw [HM.out]; rfl, HB.out⟩
    have hrp : r ≤ x.p := by omega
    clear hend
    go_wp2
    obtain ⟨wo, rfl⟩ : ∃ wo : World, wo = wr := ⟨_, rfl⟩
    clear d0 d2 d4
    go_loopw [6, 25] (fun s k wr => ∃ j : Nat, j ≤ n ∧ k = .int .i64 j ∧ s = .int .i64 (x.c + sumLow x.q r (l.take j)) ∧ 0 ≤ sumLow x.q r (l.take j) ∧ sumLow x.q r (l.take j) ≤ j * 268435456 ∧ Below w.heap.size w wr) (fun _ k _ => n - (intOf k).toNat)
    case atStart => exact ⟨0, Nat.zero_le _, rfl, by simp [sumLow], by simp [sumLow], by simp [sumLow], HB.out⟩
    case round =>
      obtain ⟨j, hj, rfl, rfl, s1, s2, hB⟩ := hrel
      obtain ⟨d0, d2, d4⟩ := HC0.out wr hB
      by_cases hlt : j < n
      · obtain ⟨y, hy⟩ := getElem?_of_lt (l := l) (k := j) (by rw [HN.out]; exact hlt)
        have hyb := HG.out y (List.mem_of_getElem? hy)
        have hym := times_mul y r hyb r1 (by omega)
        have hyt := times_nonneg y r (by simp only [Tsk.bad] at hyb; omega) (by omega)
        have hyl := times_le y r (by simp only [Tsk.bad] at hyb; omega) r1
        obtain ⟨b', off', hAe, hbl', e0, e1, e2, e3, e4⟩ := (HA.out.below hB (Nat.le_refl _)).tsk hy
        obtain ⟨rfl, rfl⟩ : b = b' ∧ off = off' := by simpa using hAe
        have HS := Lib.hid (sumLow_step x.q r l j y hy)
        have HB2 := Lib.hid hB
        have hs2 : w.heap.size ≤ wr.heap.size := hB.size
        have hbw : b < wr.heap.size := by omega
        simp only [Tsk.bad, not_or, Int.not_lt] at hyb
        obtain ⟨y1, y2, y3, y4, y5, y6, y7⟩ := hyb
        clear hy hAe hB
        by_cases hq : y.q < x.q
        · go_wp2
          go_quiet (fail)
          go_wp2
          have e0 : ((wr.alloc (.cells #[.int .i64 y.p, .int .i64 y.o, .int .i64 y.c, .int .i64 y.d, .int .i64 y.q] 34)).drewN nq).cell? ⟨wr.heap.size, 0, none⟩ = some (.int .i64 y.p) := by simp
          have e1 : ((wr.alloc (.cells #[.int .i64 y.p, .int .i64 y.o, .int .i64 y.c, .int .i64 y.d, .int .i64 y.q] 34)).drewN nq).cell? ⟨wr.heap.size, 1, none⟩ = some (.int .i64 y.o) := by simp
          have e2 : ((wr.alloc (.cells #[.int .i64 y.p, .int .i64 y.o, .int .i64 y.c, .int .i64 y.d, .int .i64 y.q] 34)).drewN nq).cell? ⟨wr.heap.size, 2, none⟩ = some (.int .i64 y.c) := by simp
          have e3 : ((wr.alloc (.cells #[.int .i64 y.p, .int .i64 y.o, .int .i64 y.c, .int .i64 y.d, .int .i64 y.q] 34)).drewN nq).cell? ⟨wr.heap.size, 3, none⟩ = some (.int .i64 y.d) := by simp
          have e4 : ((wr.alloc (.cells #[.int .i64 y.p, .int .i64 y.o, .int .i64 y.c, .int .i64 y.d, .int .i64 y.q] 34)).drewN nq).cell? ⟨wr.heap.size, 4, none⟩ = some (.int .i64 y.q) := by simp
          have HB3 : Hid (Below w.heap.size w ((wr.alloc (.cells #[.int .i64 y.p, .int .i64 y.o, .int .i64 y.c, .int .i64 y.d, .int .i64 y.q] 34)).drewN nq)) := Below.drewN (HB2.out.alloc hs2 _) nq
          generalize (wr.alloc (.cells #[.int .i64 y.p, .int .i64 y.o, .int .i64 y.c, .int .i64 y.d, .int .i64 y.q] 34)).drewN nq = W1 at *
          have hs3 : wr.heap.size < W1.heap.size := World.block_lt_of_cell? W1 _ e0
          have hs4 : w.heap.size ≤ W1.heap.size := HB3.out.size
          have HM : Hid (sumLow x.q r (l.take (j + 1)) = sumLow x.q r (l.take j) + times y r * y.c) := by
            have := HS.out
            rw [if_pos hq] at this
            exact this
          have HW1 : Hid (IntKind.i64.wrap (times y r * y.c) = times y r * y.c) := IntWalk.i64_in _ (by omega)
          have HW2 : Hid (IntKind.i64.wrap (x.c + sumLow x.q r (l.take j) + times y r * y.c) = x.c + sumLow x.q r (l.take j) + times y r * y.c) := IntWalk.i64_in _ (by omega)
          go_region_held3 (fun w' => w'.cell? ⟨wr.heap.size, 0, none⟩ = some (.int .i64 y.p) ∧ w'.cell? ⟨wr.heap.size, 1, none⟩ = some (.int .i64 y.o) ∧ w'.cell? ⟨wr.heap.size, 2, none⟩ = some (.int .i64 y.c) ∧ w'.cell? ⟨wr.heap.size, 3, none⟩ = some (.int .i64 y.d) ∧ w'.cell? ⟨wr.heap.size, 4, none⟩ = some (.int .i64 y.q)) (go_keep) (first | (go_at_call 57; refine (ceil_t y r _ (by omega) (by omega) (by omega) (by omega)).mono ?_; rintro e w' ⟨rfl, rfl⟩))
          all_goals go_wp2
          go_wp2
          rw [HW1.out, HW2.out]
          go_roundw
          case rel => exact ⟨j + 1, by omega, by go_num, by rw [HM.out]; go_num, by rw [HM.out]; omega, by rw [HM.out]; omega, Below.drewN HB3.out _⟩
          case measure => simp [intOf]; omega
        · have hqd : decide (y.q < x.q) = false := by simpa using hq
          have HM : Hid (sumLow x.q r (l.take (j + 1)) = sumLow x.q r (l.take j)) := by
            have := HS.out
            rw [if_neg hq] at this
            show _ = _
            omega
          go_wp2
          go_quiet (fail)
          go_wp2
          go_roundw
          case rel => exact ⟨j + 1, by omega, by go_num, by rw [HM.out], by rw [HM.out]; omega, by rw [HM.out]; omega, Below.drewN (HB2.out.alloc hs2 _) _⟩
          case measure => simp [intOf]; omega
      · have hjn : j = n := by omega
        subst hjn
        have HT : Hid (x.c + sumLow x.q r (l.take j) = resp l x r) := by
          rw [List.take_of_length_le (by rw [HN.out]; omega)]; rfl
        have HB2 := Lib.hid hB
        have ht : x.c + sumLow x.q r (l.take j) ≤ 8 * 268435456 + 4096 := by omega
        clear hB
        by_cases heq : x.c + sumLow x.q r (l.take j) = r
        · have heq' : (x.c + sumLow x.q r (l.take j) == r) = true := by simpa using heq
          have HM : Hid (worst l x = r) := worst_hit (by rw [← HT.out]; exact heq) r1 hrp HR3.out
          clear heq
          go_wp2
          go_ret
          exact ⟨by rw [HM.out]; rfl, HB2.out⟩
        · have heq' : (x.c + sumLow x.q r (l.take j) == r) = false := by simpa using heq
          have HM : Hid (resp l x r ≠ r) := by rw [← HT.out]; exact heq
          clear heq
          go_wp2
          go_roundw
          case rel =>
            refine ⟨r + 1, rfl, by omega, by omega, fun t t1 t2 => ?_, HB2.out⟩
            by_cases e : t = r
            · subst e; exact HM.out
            · exact HR3.out t t1 (by omega)
          case measure => simp [intOf]; omega

set_option maxHeartbeats 1000000 in
theorem refWorst_any (A : Option Addr) (n c : Nat) (l : List Tsk) (w : World) (hA : Rd w w.heap.size A (tcells l)) (hn : l.length = n) (hk : check l = 0) :
    Calls Try.prog 47 #[.slice A n c] w fun e w' => ∃ A' c', e = .returned (.slice A' n c') ∧ n ≤ c' ∧ c' ≤ maxLen ∧ Rd w' w'.heap.size A' (icells (l.map (worst l))) ∧ Below w.heap.size w w' := by
  obtain ⟨hg, hn8⟩ := good_of_check hk
  rw [hn] at hn8
  have HG := Lib.hid hg
  have HA := Lib.hid hA
  have HN := Lib.hid hn
  clear hk hg hA
  obtain ⟨i0, hi, hz0, hz1, hz2⟩ := info_parts info3
  obtain ⟨ws, hws⟩ : ∃ ws, ws = l.map (worst l) := ⟨_, rfl⟩
  rw [← hws]
  have HWS : Hid (∀ (j : Nat) (x : Tsk), l[j]? = some x → ws[j]? = some (worst l x)) := fun j x hx => by rw [hws]; simp [hx]
  have HWN : Hid (ws.length = n) := by rw [hws, List.length_map]; exact hn
  clear hws hn
  go_enter Try.func47, Try.ntmps47
  go_wp2
  go_loopw [3, 7] (fun o k wr => ∃ j : Nat, j ≤ n ∧ k = .int .i64 j ∧ wr.ownsRow w.heap.size 3 1 o j (icells (ws.take j)) ∧ Below w.heap.size w wr) (fun _ k _ => n - (intOf k).toNat)
  case atStart => exact ⟨0, Nat.zero_le _, rfl, World.ownsRow_nil .., Below.refl _ _⟩
  case round =>
    obtain ⟨j, hj, rfl, hown, hB⟩ := hrel
    have HO := Lib.hid hown
    have HB2 := Lib.hid hB
    have hs : w.heap.size ≤ wr.heap.size := hB.size
    clear hown hB
    by_cases hlt : j < n
    · obtain ⟨x, hx⟩ := getElem?_of_lt (l := l) (k := j) (by rw [HN.out]; exact hlt)
      have HX := Lib.hid hx
      clear hx
      go_wp2_with (fail)
      (with_reducible refine (refworst_any A n c j l x _ ((HA.out.below HB2.out (Nat.le_refl _)).more hs) HN.out hn8 HG.out HX.out).mono ?_)
      rintro e w2 ⟨rfl, hb2⟩
      have HO2 := Lib.hid (own_below HO.out hb2)
      have HB3 : Hid (Below w.heap.size w w2) := HB2.out.trans (hb2.mono hs)
      have hs2 : w.heap.size ≤ w2.heap.size := HB3.out.size
      clear hb2
      go_wp2_with (at_builtin; refine wpList_append_own _ rfl _ _ 29 rfl w.heap.size 3 i0 (.int .i64 0) 1 8 Try.underlying29 hi hz0 hz1 hz2 rfl (by omega) _ _ _ rfl (HO2.out.alloc _) ⟨w2.heap.size, 0, none⟩ 1 1 [.int .i64 (worst l x)] rfl rfl ?c1 ?c2 ?c3 ?c4 ?c5 ?_)
      case c1 => exact cell_one_new _ _ _
      case c2 => simp [Value.oneCell']
      case c3 => unfold maxLen; omega
      case c4 => omega
      case c5 => simp; omega
      intro v' w3 hown3 hgrow3 _
      have HO3 : Hid (w3.ownsRow w.heap.size 3 1 v' (j + 1) (icells (ws.take (j + 1)))) := by
        rw [icells_snoc (HWS.out j x HX.out)]
        exact hown3
      have HB4 : Hid (Below w.heap.size w w3) := (HB3.out.alloc hs2 _).grown hgrow3 (by simp; omega) (fun k hk => (HO2.out.lt k hk).1)
      clear hown3 hgrow3
      go_wp2
      go_roundw
      case rel => exact ⟨j + 1, by omega, by go_num, HO3.out, HB4.out⟩
      case measure => simp [intOf]; omega
    · have hjn : j = n := by omega
      subst hjn
      obtain ⟨A', c', hv, hc1, hc2, hr⟩ := own_read HO.out
      have HR : Hid (Rd wr wr.heap.size A' (icells ws)) := by
        rw [List.take_of_length_le (by rw [HWN.out]; omega)] at hr
        exact hr
      subst hv
      clear hr HO
      go_wp2
      go_ret
      exact ⟨A', c', rfl, hc1, hc2, HR.out, HB2.out⟩
set_option maxHeartbeats 1000000 in
theorem refMeets_any (A : Option Addr) (n c : Nat) (l : List Tsk) (w : World) (hA : Rd w w.heap.size A (tcells l)) (hn : l.length = n) (hk : check l = 0) :
    Calls Try.prog 48 #[.slice A n c] w fun e w' => e = .returned (.bool (meets l)) ∧ Below w.heap.size w w' := by
  have hn8 := (good_of_check hk).2
  rw [hn] at hn8
  obtain ⟨ws, hws⟩ : ∃ ws, ws = l.map (worst l) := ⟨_, rfl⟩
  have HWS : Hid (∀ (j : Nat) (x : Tsk), l[j]? = some x → ws[j]? = some (worst l x)) := fun j x hx => by rw [hws]; simp [hx]
  have HK := Lib.hid hk
  have HN := Lib.hid hn
  have HA := Lib.hid hA
  have HW := Lib.hid hws
  clear hws hk hn hA
  go_enter Try.func48, Try.ntmps48
  go_wp2_with (fail)
  (with_reducible refine (refWorst_any A n c l _ HA.out HN.out HK.out).mono ?_)
  rintro e w1 ⟨A', c', rfl, hc1, hc2, hr, hb⟩
  rw [← HW.out] at hr
  have HR := Lib.hid hr
  have HB := Lib.hid hb
  clear hr hb
  unfold maxLen at hc2
  go_wp2
  go_loop [8] (fun i => ∃ j : Nat, j ≤ n ∧ i = .int .i64 j ∧ meetsOf l (l.drop j) = meets l) (fun i => n - (intOf i).toNat)
  case atStart => exact ⟨0, Nat.zero_le _, rfl, rfl⟩
  case round =>
    obtain ⟨j, hj, rfl, hm⟩ := hrel
    have HM := Lib.hid hm
    clear hm
    by_cases hlt : j < n
    · obtain ⟨x, hx⟩ := getElem?_of_lt (l := l) (k := j) (by rw [HN.out]; exact hlt)
      obtain ⟨b, off, rfl, hbl, c0, c1, c2, c3, c4⟩ := (HA.out.below HB.out (Nat.le_refl _)).tsk hx
      obtain ⟨b', off', rfl, hbl', d0⟩ := HR.out.int (HWS.out j x hx)
      have HS : Hid ((if worst l x = 0 ∨ x.d < worst l x then false else meetsOf l (l.drop (j + 1))) = meets l) := by
        rw [← HM.out, meetsOf_step l l j x hx]; rfl
      have HX := Lib.hid hx
      clear hx c0 c1 c2 c4
      generalize worst l x = r at *
      by_cases h0 : r = 0
      · have h0' : (r == 0) = true := by simpa using h0
        have HE : Hid (meets l = false) := by
          have := HS.out
          rw [if_pos (Or.inl h0)] at this
          exact this.symm
        clear h0
        go_wp2
        go_ret
        exact ⟨by rw [HE.out]; rfl, HB.out⟩
      · have h0' : (r == 0) = false := by simpa using h0
        by_cases hd : x.d < r
        · have HE : Hid (meets l = false) := by
            have := HS.out
            rw [if_pos (Or.inr hd)] at this
            exact this.symm
          clear h0
          go_wp2
          go_ret
          exact ⟨by rw [HE.out]; rfl, HB.out⟩
        · have HE : Hid (meetsOf l (l.drop (j + 1)) = meets l) := by
            have := HS.out
            rw [if_neg (by omega)] at this
            exact this
          clear h0
          go_wp2
          go_round
          case rel => exact ⟨j + 1, by omega, by go_num, HE.out⟩
          case measure => simp [intOf]; omega
    · have hjn : j = n := by omega
      subst hjn
      have HE : Hid (meets l = true) := by
        rw [← HM.out, List.drop_eq_nil_of_le (by rw [HN.out]; omega)]; rfl
      go_wp2
      go_ret
      exact ⟨by rw [HE.out]; rfl, HB.out⟩
theorem info34r : (Try.prog.info? 34).map (fun i => (i.zero, i.size, i.bytes)) = some (some (.agg #[.int .i64 0, .int .i64 0, .int .i64 0, .int .i64 0, .int .i64 0]), 5, 40) := by kernel_rfl

set_option maxHeartbeats 2000000 in
theorem refAssign_any (A : Option Addr) (n c : Nat) (l : List Tsk) (w : World) (hA : Rd w w.heap.size A (tcells l)) (hn : l.length = n) (hc : n ≤ c) (hcc : c ≤ maxLen) (hk : check l = 0) :
    Calls Try.prog 42 #[.slice A n c] w fun e w' => ∃ A' c', e = .returned (.tuple #[.slice A' n c', .bool (meets (assign l))]) ∧ n ≤ c' ∧ c' ≤ maxLen ∧ Rd w' w'.heap.size A' (tcells (assign l)) ∧ Below w.heap.size w w' := by
  have hn8 := (good_of_check hk).2
  rw [hn] at hn8
  have HK2 := Lib.hid (assign_check hk)
  have HA := Lib.hid hA
  have HN := Lib.hid hn
  have HN5 : Hid ((tcells l).length = n * 5) := by rw [tcells_length, hn]; rfl
  obtain ⟨i0, hi, hz0, hz1, hz2⟩ := info_parts info34r
  clear hk hn hA
  go_enter Try.func42, Try.ntmps42
  have HB : Hid (Below w.heap.size w w) := Below.refl _ _
  have hs : w.heap.size ≤ w.heap.size := Nat.le_refl _
  have hm0 : 0 ≤ maxLen := Nat.zero_le _
  go_wp2_with (at_builtin; refine wpList_append_rd _ rfl _ _ 22 rfl w.heap.size 34 i0 _ 5 40 Try.underlying22 hi hz0 hz1 hz2 rfl (by omega) _ 0 [] rfl (World.ownsRow_lit w #[] 0 hs hm0 rfl) w.heap.size A n c (tcells l) rfl (HA.out.below (HB.out.alloc hs _) (Nat.le_refl _)) HN5.out (tcells_one l) ?c3 ?c4 ?c5 ?_)
  case c3 => unfold maxLen; omega
  case c4 => omega
  case c5 => simp
  intro v' w2 hown hgrow hat
  have HB2 : Hid (Below w.heap.size w w2) := (HB.out.alloc hs _).grown hgrow (by simp) (fun k hk => by simp [Value.ownBlock] at hk; omega)
  obtain ⟨A', c', rfl, hc1, hc2, hform⟩ := own_form hown
  try simp only [Nat.zero_add, List.nil_append] at hown
  try simp only [Nat.zero_add] at hc1
  try simp only [Nat.zero_add] at hform
  have HF := Lib.hid hform
  have HO : Hid (w2.ownsRow w.heap.size 34 5 (.slice A' n c') n (tcells (assignTo l 0))) := by rw [assignTo_zero]; exact hown
  try rw [Nat.zero_add]
  clear hown hgrow hat hform HB hs
  go_wp2
  go_loopw [15] (fun i wr => ∃ j : Nat, j ≤ n ∧ i = .int .i64 j ∧ wr.ownsRow w.heap.size 34 5 (.slice A' n c') n (tcells (assignTo l j)) ∧ Below w.heap.size w wr) (fun i wr => n - (intOf i).toNat)
  case atStart => exact ⟨0, Nat.zero_le _, rfl, HO.out, HB2.out⟩
  case round =>
    obtain ⟨j, hj, rfl, hown, hB⟩ := hrel
    have HO2 := Lib.hid hown
    have HB3 := Lib.hid hB
    have hs : w.heap.size ≤ wr.heap.size := hB.size
    clear hown hB HO HB2
    by_cases hlt : j < n
    · obtain ⟨x, hx⟩ := getElem?_of_lt (l := l) (k := j) (by rw [HN.out]; exact hlt)
      obtain ⟨b, off, hAe, hbl, d0, d1, d2, d3, d4⟩ := (HA.out.below HB3.out (Nat.le_refl _)).tsk hx
      subst hAe
      have HX := Lib.hid hx
      clear hx
      go_wp2
      obtain ⟨wo, rfl⟩ : ∃ wo : World, wo = wr := ⟨_, rfl⟩
      clear d0 d1 d2 d3 d4
      go_loopw [7, 22] (fun p i wr => ∃ k : Nat, k ≤ n ∧ i = .int .i64 k ∧ p = .int .i64 (rank j x.d 0 (l.take k)) ∧ 0 ≤ rank j x.d 0 (l.take k) ∧ rank j x.d 0 (l.take k) ≤ k ∧ wr.ownsRow w.heap.size 34 5 (.slice A' n c') n (tcells (assignTo l j)) ∧ Below w.heap.size w wr ∧ wr.cell? ⟨wo.heap.size, 3, none⟩ = some (.int .i64 x.d)) (fun _ i _ => n - (intOf i).toNat)
      case atStart =>
        refine ⟨0, Nat.zero_le _, rfl, by simp [rank], by simp [rank], by simp [rank], HO2.out.alloc _, HB3.out.alloc hs _, by simp⟩
      case round =>
        obtain ⟨k, hk, rfl, rfl, p1, p2, hown, hB, hxd⟩ := hrel
        have HO3 := Lib.hid hown
        have HB4 := Lib.hid hB
        have hs2 : w.heap.size ≤ wr.heap.size := hB.size
        have hlt2 : wo.heap.size < wr.heap.size := World.block_lt_of_cell? wr _ hxd
        clear hown hB
        by_cases hkn : k < n
        · obtain ⟨y, hy⟩ := getElem?_of_lt (l := l) (k := k) (by rw [HN.out]; exact hkn)
          obtain ⟨b', off', hAe, hbl', e0, e1, e2, e3, e4⟩ := (HA.out.below HB4.out (Nat.le_refl _)).tsk hy
          obtain ⟨rfl, rfl⟩ : b = b' ∧ off = off' := by simpa using hAe
          have HS := Lib.hid (rank_step j x.d l k y hy)
          clear hy hAe
          by_cases h1 : y.d < x.d
          · have HR : Hid (rank j x.d 0 (l.take (k + 1)) = rank j x.d 0 (l.take k) + 1) := by
              have := HS.out
              rw [if_pos (Or.inl h1)] at this
              exact this
            go_wp2
            go_roundw
            case rel => exact ⟨k + 1, by omega, by go_num, by rw [HR.out], by rw [HR.out]; omega, by rw [HR.out]; omega, HO3.out.alloc _, HB4.out.alloc hs2 _, by rw [World.cell?_alloc_past _ _ _ hlt2]; exact hxd⟩
            case measure => simp [intOf]; omega
          · by_cases h2 : y.d = x.d
            · have h2' : (y.d == x.d) = true := by simpa using h2
              by_cases h3 : k < j
              · have HR : Hid (rank j x.d 0 (l.take (k + 1)) = rank j x.d 0 (l.take k) + 1) := by
                  have := HS.out
                  rw [if_pos (Or.inr ⟨h2, h3⟩)] at this
                  exact this
                clear h2
                go_wp2
                go_roundw
                case rel => exact ⟨k + 1, by omega, by go_num, by rw [HR.out], by rw [HR.out]; omega, by rw [HR.out]; omega, HO3.out.alloc _, HB4.out.alloc hs2 _, by rw [World.cell?_alloc_past _ _ _ hlt2]; exact hxd⟩
                case measure => simp [intOf]; omega
              · have HR : Hid (rank j x.d 0 (l.take (k + 1)) = rank j x.d 0 (l.take k)) := by
                  have := HS.out
                  rw [if_neg (by omega), Int.add_zero] at this
                  exact this
                clear h2
                go_wp2
                go_roundw
                case rel => exact ⟨k + 1, by omega, by go_num, by rw [HR.out], by rw [HR.out]; omega, by rw [HR.out]; omega, HO3.out.alloc _, HB4.out.alloc hs2 _, by rw [World.cell?_alloc_past _ _ _ hlt2]; exact hxd⟩
                case measure => simp [intOf]; omega
            · have h2' : (y.d == x.d) = false := by simpa using h2
              have HR : Hid (rank j x.d 0 (l.take (k + 1)) = rank j x.d 0 (l.take k)) := by
                have := HS.out
                rw [if_neg (by omega), Int.add_zero] at this
                exact this
              clear h2
              go_wp2
              go_roundw
              case rel => exact ⟨k + 1, by omega, by go_num, by rw [HR.out], by rw [HR.out]; omega, by rw [HR.out]; omega, HO3.out.alloc _, HB4.out.alloc hs2 _, by rw [World.cell?_alloc_past _ _ _ hlt2]; exact hxd⟩
              case measure => simp [intOf]; omega
        · have hkn2 : k = n := by omega
          subst hkn2
          obtain ⟨g, rfl, hg1, hg2⟩ := HF.out (by omega)
          have HT : Hid (l.take k = l) := List.take_of_length_le (by rw [HN.out]; exact Nat.le_refl _)
          have HX2 : Hid ((assignTo l j)[j]? = some x) := by
            show _ = _
            rw [assignTo_get, HX.out]
            simp
          have f1 : wr.cell? ⟨g, j * 5 + 4, none⟩ = some (.int .i64 x.q) := own_tsk HO3.out HX2.out 4 (by omega)
          have f2 : wr.frozen? ⟨g, j * 5 + 4, none⟩ = false := HO3.out.frozenAt _
          have HO4 : Hid ((wr.setCell ⟨g, j * 5 + 4, none⟩ (.int .i64 (rank j x.d 0 (l.take k)))).ownsRow w.heap.size 34 5 (.slice (some ⟨g, 0, none⟩) k c') k (tcells (assignTo l (j + 1)))) := by
            rw [assignTo_step l j x HX.out, tcells_set _ j x (assignOne l j x) 4 (.int .i64 (rank j x.d 0 (l.take k))) HX2.out (by omega) (by rw [HT.out]; rfl)]
            exact (HO3.out.stored (j * 5 + 4) _).1
          have HB5 : Hid (Below w.heap.size w (wr.setCell ⟨g, j * 5 + 4, none⟩ (.int .i64 (rank j x.d 0 (l.take k))))) := HB4.out.setCell (p := ⟨g, j * 5 + 4, none⟩) hg1 _
          go_wp2
          go_roundw
          case rel => exact ⟨j + 1, by omega, by go_num, HO4.out, HB5.out⟩
          case measure => simp [intOf]; omega
    · have hjn : j = n := by omega
      subst hjn
      have HO3 : Hid (wr.ownsRow w.heap.size 34 5 (.slice A' j c') j (tcells (assign l))) := by
        have := HO2.out
        rw [assignTo_all l j (by rw [HN.out]; exact Nat.le_refl _)] at this
        exact this
      obtain ⟨A2, c2, hv, hc3, hc4, hr⟩ := own_read HO3.out
      obtain ⟨rfl, rfl⟩ : A' = A2 ∧ c' = c2 := by simpa using hv
      have HR := Lib.hid hr
      clear hr hv
      go_wp2_with (fail)
      (with_reducible refine (refMeets_any A' j c' (assign l) _ HR.out (by rw [assign_length]; exact HN.out) HK2.out).mono ?_)
      rintro e w3 ⟨rfl, hb3⟩
      have HR2 : Hid (Rd w3 w3.heap.size A' (tcells (assign l))) := (HR.out.below hb3 (Nat.le_refl _)).more hb3.size
      have HB4 : Hid (Below w.heap.size w w3) := HB3.out.trans (hb3.mono hs)
      clear hb3
      go_wp2
      go_ret2
      exact ⟨A', c', rfl, hc1, hc2, HR2.out, HB4.out⟩

def shortB : List Tsk → Bool
  | [] => true
  | x :: r => if 200 < x.p then false else shortB r

set_option maxHeartbeats 1000000 in
theorem short_any (A : Option Addr) (n c : Nat) (l : List Tsk) (w : World) (hA : Rd w w.heap.size A (tcells l)) (hn : l.length = n) (hc : n ≤ c) (hcc : c ≤ maxLen) :
    Calls Try.prog 40 #[.slice A n c] w fun e w' => e = .returned (.bool (decide (check l = 0) && shortB l)) ∧ Below w.heap.size w w' := by
  have HA := Lib.hid hA
  have HN := Lib.hid hn
  clear hA hn
  by_cases hk : check l = 0
  · have hn8 := (good_of_check hk).2
    rw [HN.out] at hn8
    have HK := Lib.hid hk
    clear hk
    go_enter Try.func40, Try.ntmps40
    go_wp2_with (fail)
    (with_reducible refine (refCheck_any A n c l _ HA.out HN.out hc hcc).mono ?_)
    rintro e w1 ⟨rfl, hb⟩
    rw [HK.out]
    have HB := Lib.hid hb
    clear hb
    go_wp2
    go_loopw [10] (fun i wr => ∃ k : Nat, k ≤ n ∧ i = .int .i64 k ∧ shortB (l.drop k) = shortB l ∧ Below w.heap.size w wr) (fun i _ => n - (intOf i).toNat)
    case atStart => exact ⟨0, Nat.zero_le _, rfl, rfl, HB.out⟩
    case round =>
      obtain ⟨k, hk, rfl, hS, hB⟩ := hrel
      have HB2 := Lib.hid hB
      have hs : w.heap.size ≤ wr.heap.size := hB.size
      clear hB
      by_cases hlt : k < n
      · obtain ⟨x, hx⟩ := getElem?_of_lt (l := l) (k := k) (by rw [HN.out]; exact hlt)
        rw [drop_cons_get l k x hx, shortB] at hS
        obtain ⟨b, off, rfl, hbl, c0, c1, c2, c3, c4⟩ := (HA.out.below HB2.out (Nat.le_refl _)).tsk hx
        have HS := Lib.hid hS
        clear hx hS
        by_cases hp : 200 < x.p
        · have HM : Hid (shortB l = false) := by
            have := HS.out
            rw [if_pos hp] at this
            exact this.symm
          go_wp2
          go_ret
          exact ⟨by rw [HM.out, HK.out]; rfl, HB2.out.alloc hs _⟩
        · have HM : Hid (shortB (l.drop (k + 1)) = shortB l) := by
            have := HS.out
            rw [if_neg hp] at this
            exact this
          go_wp2
          go_roundw
          case rel => exact ⟨k + 1, by omega, by go_num, HM.out, HB2.out.alloc hs _⟩
          case measure => simp [intOf]; omega
      · have hkn : k = n := by omega
        subst hkn
        have HM : Hid (shortB l = true) := by
          rw [← hS, List.drop_eq_nil_of_le (by rw [HN.out]; omega)]; rfl
        clear hS
        go_wp2
        go_ret
        exact ⟨by rw [HM.out, HK.out]; rfl, HB2.out⟩
  · have HK : Hid (decide (check l = 0) = false) := decide_eq_false hk
    have hne : (check l != 0) = true := by simpa using hk
    clear hk
    go_enter Try.func40, Try.ntmps40
    go_wp2_with (fail)
    (with_reducible refine (refCheck_any A n c l _ HA.out HN.out hc hcc).mono ?_)
    rintro e w1 ⟨rfl, hb⟩
    have HB := Lib.hid hb
    clear hb
    go_wp2
    go_ret
    exact ⟨by rw [HK.out]; rfl, HB.out⟩
end Go.Proofs.Ytcfhnjdaijdoiaa
