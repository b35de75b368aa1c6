/-
  response.Busy.
-/
import Derived.Test.YtcfhnjdaijdoiaaW2
import Derived.Test.YtcfhnjdaijdoiaaW6
import Derived.Test.YtcfhnjdaijdoiaaW14
import Derived.Test.YtcfhnjdaijdoiaaMem4
namespace Go.Proofs.Ytcfhnjdaijdoiaa
open Go.RowKit
set_option linter.unusedVariables false

set_option maxHeartbeats 1000000 in
theorem Busy_err (A : Option Addr) (n c : Nat) (l : List Tsk) (i : Int) (w : World) (hA : Rd w w.heap.size A (tcells l)) (hn : l.length = n) (hc : n ≤ c) (hcc : c ≤ maxLen) (k : Int) (hk : check l = k) (hk0 : k ≠ 0) :
    Calls Try.prog 44 #[.slice A n c, .int .i64 i] w fun e w' => e = .returned (.tuple #[.int .i64 0, .iface 47 (.int .i64 k)]) ∧ Below w.heap.size w w' := by
  have HC : Hid (errV (check l) = .iface 47 (.int .i64 k)) := by rw [hk]; exact errV_ne hk0
  have h1 := ne_err
  clear hk hk0
  go_enter Try.func44, Try.ntmps44
  go_wp2_with (fail)
  (with_reducible refine (check_any A n c l _ hA hn hc hcc).mono ?_)
  rintro e w1 ⟨rfl, hb⟩
  rw [HC.out]
  have HB := Lib.hid hb
  clear hb
  go_wp2
  go_ret2
  exact ⟨rfl, HB.out⟩

set_option maxHeartbeats 1000000 in
theorem Busy_index (A : Option Addr) (n c : Nat) (l : List Tsk) (i : Int) (w : World) (hA : Rd w w.heap.size A (tcells l)) (hn : l.length = n) (hc : n ≤ c) (hcc : c ≤ maxLen) (hk : check l = 0) (hi : i < 0 ∨ n ≤ i) :
    Calls Try.prog 44 #[.slice A n c, .int .i64 i] w fun e w' => e = .returned (.tuple #[.int .i64 0, .iface 47 (.int .i64 10)]) ∧ Below w.heap.size w w' := by
  have HC : Hid (errV (check l) = .nilIface) := by rw [hk]; rfl
  have h1 := ne_nil
  have HA := Lib.hid hA
  have HN := Lib.hid hn
  clear hk hA hn
  by_cases h0 : i < 0
  · clear hi
    go_enter Try.func44, Try.ntmps44
    go_wp2_with (fail)
    (with_reducible refine (check_any A n c l _ HA.out HN.out hc hcc).mono ?_)
    rintro e w1 ⟨rfl, hb⟩
    rw [HC.out]
    have HB := Lib.hid hb
    clear hb
    go_wp2
    go_ret2
    exact ⟨rfl, HB.out⟩
  · have hi' : (n : Int) ≤ i := by omega
    clear hi
    go_enter Try.func44, Try.ntmps44
    go_wp2_with (fail)
    (with_reducible refine (check_any A n c l _ HA.out HN.out hc hcc).mono ?_)
    rintro e w1 ⟨rfl, hb⟩
    rw [HC.out]
    have HB := Lib.hid hb
    clear hb
    go_wp2
    go_ret2
    exact ⟨rfl, HB.out⟩

/-- The longest busy time of tasks, or the number of an error. -/
def BusyRes (m : List Tsk) (v k : Int) : Prop :=
  (hyper m = none ∧ v = 0 ∧ k = 4) ∨ (∃ H : Nat, hyper m = some H ∧ (H : Int) < loadOf H m ∧ v = 0 ∧ k = 23) ∨ (∃ H : Nat, hyper m = some H ∧ loadOf H m ≤ H ∧ BusyIs m v ∧ k = 0)

theorem BusyRes.unique {m : List Tsk} {v k v' k' : Int} (h : BusyRes m v k) (h' : BusyRes m v' k') : v = v' ∧ k = k' := by
  rcases h with ⟨a, rfl, rfl⟩ | ⟨H, a, b, rfl, rfl⟩ | ⟨H, a, b, c, rfl⟩ <;> rcases h' with ⟨a', rfl, rfl⟩ | ⟨H', a', b', rfl, rfl⟩ | ⟨H', a', b', c', rfl⟩ <;> rw [a] at a' <;> simp at a' <;> try subst a'
  · exact ⟨rfl, rfl⟩
  · exact ⟨rfl, rfl⟩
  · omega
  · omega
  · exact ⟨c.unique c', rfl⟩

def BusyEnd (m : List Tsk) (w : World) (e : Ending) (w' : World) : Prop := ∃ v k, BusyRes m v k ∧ e = .returned (.tuple #[.int .i64 v, errV k]) ∧ Below w.heap.size w w'

theorem sumT_bounds (r : Int) (hr : 1 ≤ r) (hr2 : r ≤ 65536) : ∀ (l : List Tsk), (∀ x ∈ l, ¬ x.bad) → 0 ≤ sumT r l ∧ sumT r l ≤ l.length * 268435456
  | [], _ => by simp [sumT]
  | x :: l, h => by
    have ih := sumT_bounds r hr hr2 l (fun y hy => h y (List.mem_cons_of_mem _ hy))
    have := times_mul x r (h x (List.mem_cons_self ..)) hr hr2
    simp only [sumT, List.length_cons]
    omega

set_option maxHeartbeats 2000000 in
/-- The list of the tasks of this priority or a more urgent one is made. -/
theorem Busy_ok (A : Option Addr) (n c i : Nat) (l : List Tsk) (x : Tsk) (w : World) (hA : Rd w w.heap.size A (tcells l)) (hn : l.length = n) (hc : n ≤ c) (hcc : c ≤ maxLen) (hk : check l = 0) (hx : l[i]? = some x) :
    Calls Try.prog 44 #[.slice A n c, .int .i64 i] w (BusyEnd (upTo x.q l) w) := by
  have HC : Hid (errV (check l) = .nilIface) := by rw [hk]; rfl
  have h1 := ne_nil
  have h2 := ne_err
  have hin : i < n := by rw [← hn]; exact (List.getElem?_eq_some_iff.1 hx).1
  obtain ⟨hg, hn8⟩ := good_of_check hk
  rw [hn] at hn8
  obtain ⟨b, off, hAe, hbl, _, _, _, _, d4⟩ := hA.tsk hx
  subst hAe
  have HD : Hid (∀ wr, Below w.heap.size w wr → wr.cell? ⟨b, off + i * 5 + 4, none⟩ = some (.int .i64 x.q)) := fun wr hB => (hB.cell (p := ⟨b, _, none⟩) hbl).trans d4
  have HG := Lib.hid hg
  have HK := Lib.hid hk
  have HA := Lib.hid hA
  have HN := Lib.hid hn
  have HX := Lib.hid hx
  have hcm := hcc
  unfold maxLen at hcm
  obtain ⟨i0, hi, hz0, hz1, hz2⟩ := info_parts info34
  have hdn : decide (n ≤ i) = false := by simpa using hin
  have hdi : decide ((i : Int) < 0) = false := by simp
  clear hk hg hA hn hx d4
  go_enter Try.func44, Try.ntmps44
  go_wp2_with (fail)
  (with_reducible refine (check_any _ n c l _ HA.out HN.out hc hcc).mono ?_)
  rintro e w1 ⟨rfl, hb⟩
  rw [HC.out]
  have HB := Lib.hid hb
  clear hb
  go_wp2
  go_loopw [7, 33] (fun o k wr => ∃ j : Nat, j ≤ n ∧ k = .int .i64 j ∧ wr.ownsRow w.heap.size 34 5 o (upTo x.q (l.take j)).length (tcells (upTo x.q (l.take j))) ∧ Below w.heap.size w wr) (fun _ k _ => n - (intOf k).toNat)
  case atStart => exact ⟨0, Nat.zero_le _, rfl, World.ownsRow_nil .., HB.out⟩
  case round =>
    obtain ⟨j, hj, rfl, hown, hB⟩ := hrel
    have HO := Lib.hid hown
    have HB2 := Lib.hid hB
    have hs : w.heap.size ≤ wr.heap.size := hB.size
    clear hown hB
    by_cases hlt : j < n
    · obtain ⟨y, hy⟩ := getElem?_of_lt (l := l) (k := j) (by rw [HN.out]; exact hlt)
      obtain ⟨b', off', hAe, hbl', c0, c1, c2, c3, c4⟩ := (HA.out.below HB2.out (Nat.le_refl _)).tsk hy
      obtain ⟨rfl, rfl⟩ : b = b' ∧ off = off' := by simpa using hAe
      have HS := Lib.hid (upTo_step x.q l j y hy)
      have hlen : (upTo x.q (l.take j)).length ≤ j := Nat.le_trans (List.length_filter_le _ _) (List.length_take_le _ _)
      clear hy hAe
      go_wp2
      have e0 : (wr.alloc (.cells #[.int .i64 y.p, .int .i64 y.o, .int .i64 y.c, .int .i64 y.d, .int .i64 y.q] 34)).cell? ⟨wr.heap.size, 0, none⟩ = some (.int .i64 y.p) := by simp
      have e1 : (wr.alloc (.cells #[.int .i64 y.p, .int .i64 y.o, .int .i64 y.c, .int .i64 y.d, .int .i64 y.q] 34)).cell? ⟨wr.heap.size, 1, none⟩ = some (.int .i64 y.o) := by simp
      have e2 : (wr.alloc (.cells #[.int .i64 y.p, .int .i64 y.o, .int .i64 y.c, .int .i64 y.d, .int .i64 y.q] 34)).cell? ⟨wr.heap.size, 2, none⟩ = some (.int .i64 y.c) := by simp
      have e3 : (wr.alloc (.cells #[.int .i64 y.p, .int .i64 y.o, .int .i64 y.c, .int .i64 y.d, .int .i64 y.q] 34)).cell? ⟨wr.heap.size, 3, none⟩ = some (.int .i64 y.d) := by simp
      have e4 : (wr.alloc (.cells #[.int .i64 y.p, .int .i64 y.o, .int .i64 y.c, .int .i64 y.d, .int .i64 y.q] 34)).cell? ⟨wr.heap.size, 4, none⟩ = some (.int .i64 y.q) := by simp
      have HB3 : Hid (Below w.heap.size w (wr.alloc (.cells #[.int .i64 y.p, .int .i64 y.o, .int .i64 y.c, .int .i64 y.d, .int .i64 y.q] 34))) := HB2.out.alloc hs _
      have HO3 := Lib.hid (HO.out.alloc (.cells #[.int .i64 y.p, .int .i64 y.o, .int .i64 y.c, .int .i64 y.d, .int .i64 y.q] 34))
      generalize wr.alloc (.cells #[.int .i64 y.p, .int .i64 y.o, .int .i64 y.c, .int .i64 y.d, .int .i64 y.q] 34) = W1 at *
      have f4 := HD.out W1 HB3.out
      clear c0 c1 c2 c3 c4
      have hs1 : w.heap.size ≤ W1.heap.size := HB3.out.size
      by_cases hq : y.q ≤ x.q
      · have HM : Hid (upTo x.q (l.take (j + 1)) = upTo x.q (l.take j) ++ [y]) := by
          have := HS.out
          rw [if_pos hq] at this
          exact this
        go_quiet (fail)
        have HB4 : Hid (Below w.heap.size w (W1.drewN nq)) := Below.drewN HB3.out nq
        have HO4 : Hid ((W1.drewN nq).ownsRow w.heap.size 34 5 u7 (upTo x.q (l.take j)).length (tcells (upTo x.q (l.take j)))) := HO3.out
        have e0' : (W1.drewN nq).cell? ⟨wr.heap.size, 0, none⟩ = some (.int .i64 y.p) := e0
        have e1' : (W1.drewN nq).cell? ⟨wr.heap.size, 1, none⟩ = some (.int .i64 y.o) := e1
        have e2' : (W1.drewN nq).cell? ⟨wr.heap.size, 2, none⟩ = some (.int .i64 y.c) := e2
        have e3' : (W1.drewN nq).cell? ⟨wr.heap.size, 3, none⟩ = some (.int .i64 y.d) := e3
        have e4' : (W1.drewN nq).cell? ⟨wr.heap.size, 4, none⟩ = some (.int .i64 y.q) := e4
        have hs2 : w.heap.size ≤ (W1.drewN nq).heap.size := hs1
        clear e0 e1 e2 e3 e4 f4 HB3 HO3 HB HB2 HO hs1
        generalize W1.drewN nq = W2 at *
        go_wp2_with (at_builtin; refine wpList_append_own _ rfl _ _ 22 rfl w.heap.size 34 i0 _ 5 40 Try.underlying22 hi hz0 hz1 hz2 rfl (by omega) _ _ _ rfl (HO4.out.alloc _) ⟨W2.heap.size, 0, none⟩ 1 1 y.cells rfl rfl (cells_new W2 _ _ _ rfl) (tsk_one y) ?c3 ?c4 ?c5 ?_)
        case c3 => unfold maxLen; omega
        case c4 => omega
        case c5 => simp; omega
        intro v' w3 hown3 hgrow3 _
        have HO5 : Hid (w3.ownsRow w.heap.size 34 5 v' (upTo x.q (l.take (j + 1))).length (tcells (upTo x.q (l.take (j + 1))))) := by
          rw [HM.out, tcells_append, tcells_single, List.length_append]
          exact hown3
        have HB5 : Hid (Below w.heap.size w w3) := (HB4.out.alloc hs2 _).grown hgrow3 (by simp; omega) (fun k hk => (HO4.out.lt k hk).1)
        clear hown3 hgrow3
        go_wp2
        go_roundw
        case rel => exact ⟨j + 1, by omega, by go_num, HO5.out, HB5.out⟩
        case measure => simp [intOf]; omega
      · have HM : Hid (upTo x.q (l.take (j + 1)) = upTo x.q (l.take j)) := by
          have := HS.out
          rw [if_neg hq, List.append_nil] at this
          exact this
        go_quiet (fail)
        go_wp2
        go_roundw
        case rel => exact ⟨j + 1, by omega, by go_num, by rw [HM.out]; exact HO3.out, Below.drewN HB3.out _⟩
        case measure => simp [intOf]; omega
    · have hjn : j = n := by omega
      subst hjn
      have HT : Hid (l.take j = l) := List.take_of_length_le (by rw [HN.out]; exact Nat.le_refl _)
      have HO2 : Hid (wr.ownsRow w.heap.size 34 5 u7 (upTo x.q l).length (tcells (upTo x.q l))) := by
        have := HO.out
        rw [HT.out] at this
        exact this
      have HKM := Lib.hid (upTo_check HK.out x.q)
      have HNE : Hid (upTo x.q l ≠ []) := fun e => by
        have : x ∈ upTo x.q l := List.mem_filter.2 ⟨List.mem_of_getElem? HX.out, by simp⟩
        rw [e] at this
        simp at this
      generalize upTo x.q l = m at *
      obtain ⟨A', c', rfl, hc1, hc2, hr⟩ := own_read HO2.out
      have HR := Lib.hid hr
      obtain ⟨nm, hnm⟩ : ∃ nm, m.length = nm := ⟨_, rfl⟩
      rw [hnm] at hc1 ⊢
      have HNM := Lib.hid hnm
      obtain ⟨hmg, hm8⟩ := good_of_check HKM.out
      rw [hnm] at hm8
      have HMG := Lib.hid hmg
      clear hr hmg hnm HO HO2 HB hlt
      go_wp2_with (fail)
      (with_reducible refine (Load_ok A' nm c' m _ HR.out HNM.out hc1 hc2 HKM.out).mono ?_)
      rintro e w4 ⟨rfl, hb⟩
      have HB4 : Hid (Below w.heap.size w w4) := HB2.out.trans (hb.mono hs)
      have HR4 : Hid (Rd w4 w4.heap.size A' (tcells m)) := (HR.out.below hb (Nat.le_refl _)).more hb.size
      have hs4 : w.heap.size ≤ w4.heap.size := HB4.out.size
      have hsr : wr.heap.size ≤ w4.heap.size := hb.size
      clear hb HR HB2
      obtain ⟨ho, hho⟩ : ∃ ho, hyper m = ho := ⟨_, rfl⟩
      have HH := Lib.hid hho
      clear hho
      rw [HH.out]
      cases ho with
      | none =>
        unfold loadV
        go_wp2
        go_ret2
        exact ⟨0, 4, .inl ⟨HH.out, rfl, rfl⟩, rfl, HB4.out⟩
      | some H =>
        obtain ⟨_, _, H1, H2⟩ := hyperFrom_spec m 1 H HMG.out (Nat.le_refl _) (by omega) HH.out
        unfold loadV
        by_cases hl : (H : Int) < loadOf H m
        · go_wp2
          go_ret2
          exact ⟨0, 23, .inr (.inl ⟨H, HH.out, hl, rfl, rfl⟩), rfl, HB4.out⟩
        · obtain ⟨N, hN, hNH⟩ := busy_exists HKM.out HNE.out HH.out (by omega)
          obtain ⟨N1, N2, N3, N4⟩ := hN
          have HN3 := Lib.hid N3
          have HN4 := Lib.hid N4
          have HL : Hid (loadOf H m ≤ H) := by show _ ≤ _; omega
          clear N3 N4
          go_wp2
          clear hl
          go_loopw [13] (fun o wr => ∃ r : Int, o = .int .i64 r ∧ 1 ≤ r ∧ r ≤ N ∧ r ≤ sumT r m ∧ Below w.heap.size w wr ∧ Below w4.heap.size w4 wr) (fun o _ => (N - intOf o).toNat)
          case atStart => exact ⟨1, rfl, Int.le_refl _, N1, sumT_pos 1 (Int.le_refl _) m HMG.out HNE.out, HB4.out, Below.refl _ _⟩
          case round =>
            obtain ⟨r, rfl, r1, r2, r3, hB, hB4⟩ := hrel
            have HR3 := Lib.hid r3
            have HB5 := Lib.hid hB
            have HB6 := Lib.hid hB4
            clear r3 hB hB4 HB4
            go_wp2
            obtain ⟨wo, rfl⟩ : ∃ wo : World, wo = wr := ⟨_, rfl⟩
            go_loopw [14, 65] (fun o k wr => ∃ j : Nat, j ≤ nm ∧ k = .int .i64 j ∧ o = .int .i64 (sumT r (m.take j)) ∧ 0 ≤ sumT r (m.take j) ∧ sumT r (m.take j) ≤ j * 268435456 ∧ Below w.heap.size w wr ∧ Below w4.heap.size w4 wr) (fun _ k _ => nm - (intOf k).toNat)
            case atStart => exact ⟨0, Nat.zero_le _, rfl, rfl, by simp [sumT], by simp [sumT], HB5.out, HB6.out⟩
            case round =>
              obtain ⟨j, hj, rfl, rfl, s1, s2, hB, hB4⟩ := hrel
              have HB7 := Lib.hid hB
              have HB8 := Lib.hid hB4
              have hs7 : w.heap.size ≤ wr.heap.size := hB.size
              have hs8 : w4.heap.size ≤ wr.heap.size := hB4.size
              clear hB hB4
              by_cases hlt : j < nm
              · obtain ⟨y, hy⟩ := getElem?_of_lt (l := m) (k := j) (by rw [HNM.out]; exact hlt)
                have hyb := HMG.out y (List.mem_of_getElem? hy)
                have hym := times_mul y r hyb r1 (by omega)
                obtain ⟨g, o, rfl, hbl', c0, c1, c2, c3, c4⟩ := (HR4.out.below HB8.out (Nat.le_refl _)).tsk hy
                have HS := Lib.hid (sumT_step r m j y hy)
                simp only [Tsk.bad, not_or, Int.not_lt] at hyb
                obtain ⟨y1, y2, y3, y4, y5, y6, y7⟩ := hyb
                clear hy
                go_wp2
                have e0 : (wr.alloc (.cells #[.int .i64 y.p, .int .i64 y.o, .int .i64 y.c, .int .i64 y.d, .int .i64 y.q] 34)).cell? ⟨wr.heap.size, 0, none⟩ = some (.int .i64 y.p) := by simp
                have e1 : (wr.alloc (.cells #[.int .i64 y.p, .int .i64 y.o, .int .i64 y.c, .int .i64 y.d, .int .i64 y.q] 34)).cell? ⟨wr.heap.size, 1, none⟩ = some (.int .i64 y.o) := by simp
                have e2 : (wr.alloc (.cells #[.int .i64 y.p, .int .i64 y.o, .int .i64 y.c, .int .i64 y.d, .int .i64 y.q] 34)).cell? ⟨wr.heap.size, 2, none⟩ = some (.int .i64 y.c) := by simp
                have e3 : (wr.alloc (.cells #[.int .i64 y.p, .int .i64 y.o, .int .i64 y.c, .int .i64 y.d, .int .i64 y.q] 34)).cell? ⟨wr.heap.size, 3, none⟩ = some (.int .i64 y.d) := by simp
                have e4 : (wr.alloc (.cells #[.int .i64 y.p, .int .i64 y.o, .int .i64 y.c, .int .i64 y.d, .int .i64 y.q] 34)).cell? ⟨wr.heap.size, 4, none⟩ = some (.int .i64 y.q) := by simp
                have HB9 : Hid (Below w.heap.size w (wr.alloc (.cells #[.int .i64 y.p, .int .i64 y.o, .int .i64 y.c, .int .i64 y.d, .int .i64 y.q] 34))) := HB7.out.alloc hs7 _
                have HB10 : Hid (Below w4.heap.size w4 (wr.alloc (.cells #[.int .i64 y.p, .int .i64 y.o, .int .i64 y.c, .int .i64 y.d, .int .i64 y.q] 34))) := HB8.out.alloc hs8 _
                generalize wr.alloc (.cells #[.int .i64 y.p, .int .i64 y.o, .int .i64 y.c, .int .i64 y.d, .int .i64 y.q] 34) = W1 at *
                have hs9 : wr.heap.size < W1.heap.size := World.block_lt_of_cell? W1 _ e0
                have hs10 : w.heap.size ≤ W1.heap.size := HB9.out.size
                have hs11 : w4.heap.size ≤ W1.heap.size := HB10.out.size
                have HW1 : Hid (IntKind.i64.wrap (times y r * y.c) = times y r * y.c) := IntWalk.i64_in _ (by omega)
                have HW2 : Hid (IntKind.i64.wrap (sumT r (m.take j) + times y r * y.c) = sumT r (m.take j) + times y r * y.c) := IntWalk.i64_in _ (by omega)
                clear c0 c1 c2 c3 c4
                go_region_held3 (fun w' => w'.cell? ⟨wr.heap.size, 0, none⟩ = some (.int .i64 y.p) ∧ w'.cell? ⟨wr.heap.size, 1, none⟩ = some (.int .i64 y.o) ∧ w'.cell? ⟨wr.heap.size, 2, none⟩ = some (.int .i64 y.c) ∧ w'.cell? ⟨wr.heap.size, 3, none⟩ = some (.int .i64 y.d) ∧ w'.cell? ⟨wr.heap.size, 4, none⟩ = some (.int .i64 y.q)) (go_keep) (first | (go_at_call 56; refine (times_any y r _ (by omega) (by omega) (by omega) (by omega)).mono ?_; rintro e w' ⟨rfl, rfl⟩))
                go_wp2
                rw [HW1.out, HW2.out]
                go_roundw
                case rel => exact ⟨j + 1, by omega, by go_num, by rw [HS.out], by rw [HS.out]; omega, by rw [HS.out]; omega, Below.drewN (HB9.out.alloc hs10 _) _, Below.drewN (HB10.out.alloc hs11 _) _⟩
                case measure => simp [intOf]; omega
              · have hjn : j = nm := by omega
                subst hjn
                have HT2 : Hid (m.take j = m) := List.take_of_length_le (by rw [HNM.out]; exact Nat.le_refl _)
                rw [HT2.out]
                by_cases heq : sumT r m = r
                · have heq' : (sumT r m == r) = true := by simpa using heq
                  have HM : Hid (r = N) := by
                    by_cases e : r < N
                    · exact absurd heq (HN4.out r r1 e)
                    · show _ = _; omega
                  clear heq s1 s2
                  go_wp2
                  go_ret2
                  exact ⟨r, 0, .inr (.inr ⟨H, HH.out, HL.out, by rw [HM.out]; exact ⟨N1, N2, HN3.out, HN4.out⟩, rfl⟩), rfl, HB7.out⟩
                · have heq' : (sumT r m == r) = false := by simpa using heq
                  have hle : sumT r m ≤ N := by
                    have := sumT_mono r N r2 m HMG.out
                    rw [HN3.out] at this
                    exact this
                  have hge : r ≤ sumT r m := HR3.out
                  have HGE : Hid (sumT r m ≤ sumT (sumT r m) m) := sumT_mono _ _ hge m HMG.out
                  have hgt : r < sumT r m := by omega
                  clear heq s1 s2
                  generalize sumT r m = S at *
                  go_wp2
                  go_roundw
                  case rel => exact ⟨S, rfl, by omega, hle, HGE.out, HB7.out, HB8.out⟩
                  case measure => simp [intOf]; omega
end Go.Proofs.Ytcfhnjdaijdoiaa
