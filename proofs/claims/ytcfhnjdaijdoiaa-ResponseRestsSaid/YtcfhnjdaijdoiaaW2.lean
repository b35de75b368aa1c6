/-
  response.times, response.worst, the reference's ceil and worst.
-/
import Derived.Test.YtcfhnjdaijdoiaaChecked
import Derived.Test.YtcfhnjdaijdoiaaMem
import Derived.WalkSpells
import Derived.WalkLawsBesides
import Derived.Deep.QuietTactic
import Derived.BigQuiet
import Derived.Deep.RegionHeld3
namespace Go.Proofs.Ytcfhnjdaijdoiaa
open Go.RowKit

theorem times_any (x : Tsk) (n : Int) (w : World) (hp : 1 ≤ x.p) (hp2 : x.p ≤ 4096) (hn : 0 ≤ n) (hn2 : n ≤ 65536) :
    Calls Try.prog 56 #[.agg #[.int .i64 x.p, .int .i64 x.o, .int .i64 x.c, .int .i64 x.d, .int .i64 x.q], .int .i64 n] w fun e w' =>
      e = .returned (.int .i64 (times x n)) ∧ w.alloc (.cells #[.int .i64 x.p, .int .i64 x.o, .int .i64 x.c, .int .i64 x.d, .int .i64 x.q] 34) = w' := by
  go_enter Try.func56, Try.ntmps56
  go_wp2
  go_ret
  exact ⟨rfl, rfl⟩

theorem ceil_any (a b : Int) (w : World) (ha : 0 ≤ a) (ha2 : a ≤ 65536) (hb : 1 ≤ b) (hb2 : b ≤ 4096) :
    Calls Try.prog 57 #[.int .i64 a, .int .i64 b] w fun e w' => e = .returned (.int .i64 ((a + b - 1) / b)) ∧ w = w' := by
  go_enter Try.func57, Try.ntmps57
  go_wp2
  go_ret
  exact ⟨rfl, rfl⟩

set_option maxHeartbeats 1000000 in
theorem worst_any (A : Option Addr) (n c i : Nat) (l : List Tsk) (x : Tsk) (w : World) (hA : Rd w w.heap.size A (tcells l)) (hn : l.length = n) (hn8 : n ≤ 8) (hg : ∀ x ∈ l, ¬ x.bad) (hi : l[i]? = some x) :
    Calls Try.prog 55 #[.slice A n c, .int .i64 i] w fun e w' => e = .returned (.int .i64 (worst l x)) ∧ Below w.heap.size w w' := by
  have hin : i < n := by have := (List.getElem?_eq_some_iff.1 hi).1; omega
  have hxb : ¬ x.bad := hg x (List.mem_of_getElem? hi)
  obtain ⟨b, off, hAe, hbl, c0, c1, c2, c3, c4⟩ := hA.tsk hi
  subst hAe
  have HX : Hid (¬ x.bad) := hxb
  simp only [Tsk.bad, not_or, Int.not_lt] at hxb
  obtain ⟨b1, b2, b3, b4, b5, b6, b7⟩ := hxb
  have HN := Lib.hid hn
  have HA := Lib.hid hA
  have HG := Lib.hid hg
  have HI := Lib.hid hi
  clear hn hA hg hi
  have HC0 : Hid (∀ wr, Below w.heap.size w wr → wr.cell? ⟨b, off + i * 5, none⟩ = some (.int .i64 x.p) ∧ wr.cell? ⟨b, off + i * 5 + 2, none⟩ = some (.int .i64 x.c) ∧ wr.cell? ⟨b, off + i * 5 + 4, none⟩ = some (.int .i64 x.q)) :=
    fun wr hB => ⟨(hB.cell (p := ⟨b, _, none⟩) hbl).trans c0, (hB.cell (p := ⟨b, _, none⟩) hbl).trans c2, (hB.cell (p := ⟨b, _, none⟩) hbl).trans c4⟩
  go_enter Try.func55, Try.ntmps55
  go_wp2
  go_loopw [5] (fun s wr => ∃ r : Int, s = .int .i64 r ∧ 1 ≤ r ∧ r ≤ x.p ∧ (∀ t, 1 ≤ t → t < r → resp l x t ≠ t) ∧ r ≤ resp l x r ∧ Below w.heap.size w wr) (fun s _ => (x.p - intOf s).toNat)
  case atStart =>
    refine ⟨x.c, rfl, by omega, by omega, ?_, resp_ge x HG.out (by omega), Below.refl _ _⟩
    intro t h1 h2 e
    have := resp_ge x HG.out h1
    omega
  case round =>
    obtain ⟨r, rfl, r1, r2, r3, r4, hB⟩ := hrel
    obtain ⟨d0, d2, d4⟩ := HC0.out wr hB
    have HB := Lib.hid hB
    have HR3 := Lib.hid r3
    have HR4 := Lib.hid r4
    clear c0 c1 c2 c3 c4 hB r3 r4
    go_wp2
    obtain ⟨wo, rfl⟩ : ∃ wo : World, wo = wr := ⟨_, rfl⟩
    clear d0 d2 d4
    go_loopw [6, 21] (fun s k wr => ∃ j : Nat, j ≤ n ∧ k = .int .i64 j ∧ s = .int .i64 (x.c + sumLow x.q r (l.take j)) ∧ 0 ≤ sumLow x.q r (l.take j) ∧ sumLow x.q r (l.take j) ≤ j * 268435456 ∧ Below w.heap.size w wr) (fun _ k _ => n - (intOf k).toNat)
    case atStart => exact ⟨0, Nat.zero_le _, rfl, by simp [sumLow], by simp [sumLow], by simp [sumLow], HB.out⟩
    case round =>
      obtain ⟨j, hj, rfl, rfl, s1, s2, hB⟩ := hrel
      obtain ⟨d0, d2, d4⟩ := HC0.out wr hB
      by_cases hlt : j < n
      · obtain ⟨y, hy⟩ := getElem?_of_lt (l := l) (k := j) (by rw [HN.out]; exact hlt)
        have hyb := HG.out y (List.mem_of_getElem? hy)
        have hym := times_mul y r hyb r1 (by omega)
        have hyt := times_nonneg y r (by simp only [Tsk.bad] at hyb; omega) (by omega)
        have hyl := times_le y r (by simp only [Tsk.bad] at hyb; omega) r1
        obtain ⟨b', off', hAe, hbl', e0, e1, e2, e3, e4⟩ := (HA.out.below hB (Nat.le_refl _)).tsk hy
        obtain ⟨rfl, rfl⟩ : b = b' ∧ off = off' := by simpa using hAe
        have HS := Lib.hid (sumLow_step x.q r l j y hy)
        have HB2 := Lib.hid hB
        have hs2 : w.heap.size ≤ wr.heap.size := hB.size
        have hbw : b < wr.heap.size := by omega
        simp only [Tsk.bad, not_or, Int.not_lt] at hyb
        obtain ⟨y1, y2, y3, y4, y5, y6, y7⟩ := hyb
        clear hy hAe hB
        by_cases hq : y.q < x.q
        · go_wp2
          go_quiet (fail)
          go_wp2
          have e0 : ((wr.alloc (.cells #[.int .i64 y.p, .int .i64 y.o, .int .i64 y.c, .int .i64 y.d, .int .i64 y.q] 34)).drewN nq).cell? ⟨wr.heap.size, 0, none⟩ = some (.int .i64 y.p) := by simp
          have e1 : ((wr.alloc (.cells #[.int .i64 y.p, .int .i64 y.o, .int .i64 y.c, .int .i64 y.d, .int .i64 y.q] 34)).drewN nq).cell? ⟨wr.heap.size, 1, none⟩ = some (.int .i64 y.o) := by simp
          have e2 : ((wr.alloc (.cells #[.int .i64 y.p, .int .i64 y.o, .int .i64 y.c, .int .i64 y.d, .int .i64 y.q] 34)).drewN nq).cell? ⟨wr.heap.size, 2, none⟩ = some (.int .i64 y.c) := by simp
          have e3 : ((wr.alloc (.cells #[.int .i64 y.p, .int .i64 y.o, .int .i64 y.c, .int .i64 y.d, .int .i64 y.q] 34)).drewN nq).cell? ⟨wr.heap.size, 3, none⟩ = some (.int .i64 y.d) := by simp
          have e4 : ((wr.alloc (.cells #[.int .i64 y.p, .int .i64 y.o, .int .i64 y.c, .int .i64 y.d, .int .i64 y.q] 34)).drewN nq).cell? ⟨wr.heap.size, 4, none⟩ = some (.int .i64 y.q) := by simp
          have HB3 : Hid (Below w.heap.size w ((wr.alloc (.cells #[.int .i64 y.p, .int .i64 y.o, .int .i64 y.c, .int .i64 y.d, .int .i64 y.q] 34)).drewN nq)) := Below.drewN (HB2.out.alloc hs2 _) nq
          generalize (wr.alloc (.cells #[.int .i64 y.p, .int .i64 y.o, .int .i64 y.c, .int .i64 y.d, .int .i64 y.q] 34)).drewN nq = W1 at *
          have hs3 : wr.heap.size < W1.heap.size := World.block_lt_of_cell? W1 _ e0
          have hs4 : w.heap.size ≤ W1.heap.size := HB3.out.size
          have HM : Hid (sumLow x.q r (l.take (j + 1)) = sumLow x.q r (l.take j) + times y r * y.c) := by
            have := HS.out
            rw [if_pos hq] at this
            exact this
          have HW1 : Hid (IntKind.i64.wrap (times y r * y.c) = times y r * y.c) := IntWalk.i64_in _ (by omega)
          have HW2 : Hid (IntKind.i64.wrap (x.c + sumLow x.q r (l.take j) + times y r * y.c) = x.c + sumLow x.q r (l.take j) + times y r * y.c) := IntWalk.i64_in _ (by omega)
          go_region_held3 (fun w' => w'.cell? ⟨wr.heap.size, 0, none⟩ = some (.int .i64 y.p) ∧ w'.cell? ⟨wr.heap.size, 1, none⟩ = some (.int .i64 y.o) ∧ w'.cell? ⟨wr.heap.size, 2, none⟩ = some (.int .i64 y.c) ∧ w'.cell? ⟨wr.heap.size, 3, none⟩ = some (.int .i64 y.d) ∧ w'.cell? ⟨wr.heap.size, 4, none⟩ = some (.int .i64 y.q)) (go_keep) (first | (go_at_call 56; refine (times_any y r _ (by omega) (by omega) (by omega) (by omega)).mono ?_; rintro e w' ⟨rfl, rfl⟩))
          all_goals go_wp2
          go_wp2
          rw [HW1.out, HW2.out]
          go_roundw
          case rel => exact ⟨j + 1, by omega, by go_num, by rw [HM.out]; go_num, by rw [HM.out]; omega, by rw [HM.out]; omega, Below.drewN (HB3.out.alloc hs4 _) _⟩
          case measure => simp [intOf]; omega
        · have hqd : decide (y.q < x.q) = false := by simpa using hq
          have HM : Hid (sumLow x.q r (l.take (j + 1)) = sumLow x.q r (l.take j)) := by
            have := HS.out
            rw [if_neg hq] at this
            show _ = _
            omega
          go_wp2
          go_quiet (fail)
          go_wp2
          go_roundw
          case rel => exact ⟨j + 1, by omega, by go_num, by rw [HM.out], by rw [HM.out]; omega, by rw [HM.out]; omega, Below.drewN (HB2.out.alloc hs2 _) _⟩
          case measure => simp [intOf]; omega
      · have hjn : j = n := by omega
        subst hjn
        have HT : Hid (x.c + sumLow x.q r (l.take j) = resp l x r) := by
          rw [List.take_of_length_le (by rw [HN.out]; omega)]; rfl
        have HB2 := Lib.hid hB
        have ht : x.c + sumLow x.q r (l.take j) ≤ 8 * 268435456 + 4096 := by omega
        clear hB
        by_cases hbig : x.p < x.c + sumLow x.q r (l.take j)
        · have HM : Hid (worst l x = 0) := worst_miss (fun t t1 t2 e => by
            by_cases htr : t < r
            · exact HR3.out t t1 htr e
            · have := resp_mono x HG.out (show r ≤ t by omega)
              rw [HT.out] at hbig
              omega)
          go_wp2
          go_ret
          exact ⟨by rw [HM.out]; rfl, HB2.out⟩
        · by_cases heq : x.c + sumLow x.q r (l.take j) = r
          · have heq' : (x.c + sumLow x.q r (l.take j) == r) = true := by simpa using heq
            have HM : Hid (worst l x = r) := worst_hit (by rw [← HT.out]; exact heq) r1 r2 HR3.out
            clear heq
            go_wp2
            go_ret
            exact ⟨by rw [HM.out]; rfl, HB2.out⟩
          · have heq' : (x.c + sumLow x.q r (l.take j) == r) = false := by simpa using heq
            have HM : Hid (x.c + sumLow x.q r (l.take j) ≠ r) := heq
            have hge : r ≤ x.c + sumLow x.q r (l.take j) := by rw [HT.out]; exact HR4.out
            go_wp2
            go_roundw
            case rel =>
              refine ⟨_, rfl, by omega, by omega, ?_, ?_, HB2.out⟩
              · rw [HT.out]
                exact resp_next x HG.out HR3.out (by rw [← HT.out]; exact HM.out)
              · have := resp_mono x HG.out hge
                rw [← HT.out] at this
                rw [HT.out] at this ⊢
                exact this
            case measure => simp [intOf]; have := HM.out; omega
end Go.Proofs.Ytcfhnjdaijdoiaa
