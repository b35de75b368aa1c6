
/-
  mapping: object, bits, size, Missed.
-/
import Derived.Test.YtjdknddnanopaaaBW6
import Derived.Test.YtjdknddnanopaaaBPlain5
import Derived.Test.YtjdknddnanopaaaBPlain9
import Derived.Test.YtjdknddnanopaaaBPlain10
import Derived.Deep.DeepCutAuto
import Derived.Laws.ResultCell
namespace Go.Proofs.Ytjdknddnanopaaa.Bus
open Go.RowKit
set_option linter.unusedVariables false

/-- No object. -/
def obN : Ob := ⟨0, 0, 0, 0, 0, 0, 0, false, false⟩
/-- What object returns. -/
def objV (l : List Ob) (i s : Int) : Value := match locO l i s with
  | some p => .tuple #[.agg (l[p]?.getD default).cells.toArray, .nilIface]
  | none => .tuple #[.agg obN.cells.toArray, .iface 77 (.int .i64 (ferr l i))]

set_option maxHeartbeats 1000000 in
theorem bits_any (t : Int) (w : World) : Calls Try.prog 93 #[.int .i64 t] w fun e w' => e = .returned (.int .i64 (bitsO t : Nat)) ∧ Below w.heap.size w w' := by
  by_cases h0 : t = 0
  · subst h0
    go_enter Try.func93, Try.ntmps93
    go_wp2
    go_ret
    exact ⟨rfl, Below.refl _ _⟩
  have h0' : (t == 0) = false := by simpa using h0
  have HB : Hid (bitsO t = 8 * (bytesO t 0).1.length) := by
    show _ = _
    rw [bytes_zero]
    unfold bitsO
    rw [if_neg h0]
  have hle := bitsO_le t
  obtain ⟨q, hq⟩ : ∃ q, (bytesO t 0).1.length = q := ⟨_, rfl⟩
  rw [HB.out, hq] at hle
  clear h0
  go_enter Try.func93, Try.ntmps93
  go_wp2_with (fail)
  (with_reducible refine (Bytes_any t 0 _).mono ?_)
  rintro e w1 ⟨A, c, rfl, hc1, hc2, hr, hb⟩
  have HBW := Lib.hid hb
  rw [hq]
  clear hr hb hc1 hc2
  rw [hq] at HB
  clear hq
  go_wp2
  go_ret
  exact ⟨by rw [HB.out]; push_cast; rfl, HBW.out⟩

set_option maxHeartbeats 2000000 in
theorem object_any (A : Option Addr) (n c : Nat) (l : List Ob) (i s : Int) (w : World) (hA : Rd w w.heap.size A (ocells l)) (hn : l.length = n) (hc : n ≤ c) (hcc : c ≤ maxLen) :
    Calls Try.prog 120 #[.slice A n c, .agg #[.int .i64 i, .int .i64 s]] w fun e w' => e = .returned (objV l i s) ∧ Below w.heap.size w w' := by
  unfold maxLen at hcc
  have HN := Lib.hid hn
  have HA := Lib.hid hA
  clear hn hA
  go_enter Try.func120, Try.ntmps120
  go_upto_region 2 with (fail)
  obtain ⟨W, hW⟩ : ∃ W, (w.alloc (.cells #[.int .i64 i, .int .i64 s] 97)).alloc (.cells #[.int .i64 0, .int .i64 0, .int .i64 0, .int .i64 0, .int .i64 0, .int .i64 0, .int .i64 0, .bool false, .bool false] 144) = W := ⟨_, rfl⟩
  have hsz : W.heap.size = w.heap.size + 2 := by rw [← hW]; simp
  have HBW : Hid (Below w.heap.size w W) := by rw [← hW]; exact ((Below.refl _ _).alloc (Nat.le_refl _) _).alloc (by simp) _
  have m0 : W.cell? ⟨w.heap.size, 0, none⟩ = some (.int .i64 i) := by rw [← hW]; simp
  have m1 : W.cell? ⟨w.heap.size, 1, none⟩ = some (.int .i64 s) := by rw [← hW]; simp
  have HO : Hid (∀ j u, obN.cells[j]? = some u → W.cell? ⟨w.heap.size + 1, j, none⟩ = some u) := by
    intro j u hu
    rw [← hW]
    simpa [obN, Ob.cells] using hu
  have HFZ : Hid (∀ j, W.frozen? ⟨w.heap.size + 1, j, none⟩ = false) := by
    intro j
    rw [← hW]
    simp
  rw [hW]
  clear hW
  go_wp2
  go_loopw [6, 11] (fun sm i' wr => ∃ k : Nat, k ≤ n ∧ i' = .int .i64 k ∧ sm = .bool (hasO (l.take k) i) ∧ locO (l.take k) i s = none ∧ Below W.heap.size W wr) (fun _ i _ => n - (intOf i).toNat)
  case atStart => exact ⟨0, Nat.zero_le _, rfl, rfl, rfl, Below.refl _ _⟩
  case round =>
    obtain ⟨k, hk, rfl, rfl, hL, hB⟩ := hrel
    have hsw : W.heap.size ≤ wr.heap.size := hB.size
    have p0 : wr.cell? ⟨w.heap.size, 0, none⟩ = some (.int .i64 i) := (hB.cell (p := ⟨w.heap.size, 0, none⟩) (by simp only; omega)).trans m0
    have p1 : wr.cell? ⟨w.heap.size, 1, none⟩ = some (.int .i64 s) := (hB.cell (p := ⟨w.heap.size, 1, none⟩) (by simp only; omega)).trans m1
    have q0 : wr.cell? ⟨w.heap.size + 1, 0, none⟩ = some (.int .i64 0) := (hB.cell (p := ⟨w.heap.size + 1, 0, none⟩) (by simp only; omega)).trans (HO.out 0 _ rfl)
    have q1 : wr.cell? ⟨w.heap.size + 1, 1, none⟩ = some (.int .i64 0) := (hB.cell (p := ⟨w.heap.size + 1, 1, none⟩) (by simp only; omega)).trans (HO.out 1 _ rfl)
    have q2 : wr.cell? ⟨w.heap.size + 1, 2, none⟩ = some (.int .i64 0) := (hB.cell (p := ⟨w.heap.size + 1, 2, none⟩) (by simp only; omega)).trans (HO.out 2 _ rfl)
    have q3 : wr.cell? ⟨w.heap.size + 1, 3, none⟩ = some (.int .i64 0) := (hB.cell (p := ⟨w.heap.size + 1, 3, none⟩) (by simp only; omega)).trans (HO.out 3 _ rfl)
    have q4 : wr.cell? ⟨w.heap.size + 1, 4, none⟩ = some (.int .i64 0) := (hB.cell (p := ⟨w.heap.size + 1, 4, none⟩) (by simp only; omega)).trans (HO.out 4 _ rfl)
    have q5 : wr.cell? ⟨w.heap.size + 1, 5, none⟩ = some (.int .i64 0) := (hB.cell (p := ⟨w.heap.size + 1, 5, none⟩) (by simp only; omega)).trans (HO.out 5 _ rfl)
    have q6 : wr.cell? ⟨w.heap.size + 1, 6, none⟩ = some (.int .i64 0) := (hB.cell (p := ⟨w.heap.size + 1, 6, none⟩) (by simp only; omega)).trans (HO.out 6 _ rfl)
    have q7 : wr.cell? ⟨w.heap.size + 1, 7, none⟩ = some (.bool false) := (hB.cell (p := ⟨w.heap.size + 1, 7, none⟩) (by simp only; omega)).trans (HO.out 7 _ rfl)
    have q8 : wr.cell? ⟨w.heap.size + 1, 8, none⟩ = some (.bool false) := (hB.cell (p := ⟨w.heap.size + 1, 8, none⟩) (by simp only; omega)).trans (HO.out 8 _ rfl)
    have hfz : ∀ j, wr.frozen? ⟨w.heap.size + 1, j, none⟩ = false := fun j => (hB.frozen (p := ⟨w.heap.size + 1, j, none⟩) (by simp only; omega)).trans (HFZ.out j)
    have f0 := hfz 0
    have f1 := hfz 1
    have f2 := hfz 2
    have f3 := hfz 3
    have f4 := hfz 4
    have f5 := hfz 5
    have f6 := hfz 6
    have f7 := hfz 7
    have f8 := hfz 8
    have hB0 : Below w.heap.size w wr := HBW.out.trans (hB.mono (by omega))
    by_cases hlt : k < n
    · obtain ⟨x, hx⟩ := getElem?_of_lt (l := l) (k := k) (by rw [HN.out]; exact hlt)
      obtain ⟨b, off, hAe, hbl, c0, c1, c2, c3, c4, c5, c6, c7, c8⟩ := (HA.out.below hB0 (Nat.le_refl _)).ob hx
      subst hAe
      have HX := Lib.hid hx
      have HB := Lib.hid hB
      have HB0 := Lib.hid hB0
      have HL := Lib.hid hL
      have HS := Lib.hid (hasO_snoc i hx)
      have hb1 : b ≠ wr.heap.size := by omega
      have hb2 : w.heap.size + 1 < wr.heap.size := by omega
      have hb3 : w.heap.size < wr.heap.size := by omega
      clear hx hB hB0 hL hfz
      by_cases h1 : x.i = i
      · by_cases h2 : x.s = s
        · have HM : Hid (objV l i s = .tuple #[.agg x.cells.toArray, .nilIface]) := by
            have := locO_hit HL.out HX.out h1 h2
            show _ = _
            unfold objV
            rw [this]
            simp only [getD_of HX.out]
          have HI : Hid (x.i = i ∧ x.s = s) := ⟨h1, h2⟩
          rw [h1] at c0
          rw [h2] at c1
          clear h1 h2 HS
          go_wp2
          (try simp only [Exit.inBlock, Exit.then])
          refine bodyPost_ret (v := .tuple #[.agg x.cells.toArray, .nilIface]) ?_ rfl ⟨by rw [HM.out], ?_⟩
          · rw [results_cell_tmp rfl]
            simp only [Ob.cells, HI.out.1, HI.out.2]
            go_simp
          · refine Below.alloc ?_ (by simp only [World.size_setCell]; omega) _
            iterate 9 (refine Below.setCell ?_ (by simp only; omega) _)
            exact HB0.out
        · have HM : Hid (locO (l.take (k + 1)) i s = none) := locO_miss HL.out HX.out (fun h => h2 h.2)
          have h2' : (x.s == s) = false := by simpa using h2
          have HS2 : Hid (hasO (l.take (k + 1)) i = true) := by rw [Hid, HS.out, h1]; simp
          rw [h1] at c0
          clear h1 h2 HS
          go_wp2
          go_roundw
          case rel => exact ⟨k + 1, by omega, by go_num, by rw [HS2.out], HM.out, HB.out.alloc hsw _⟩
          case measure => simp [intOf]; omega
      · have HM : Hid (locO (l.take (k + 1)) i s = none) := locO_miss HL.out HX.out (fun h => h1 h.1)
        have h1' : (x.i == i) = false := by simpa using h1
        have HS2 : Hid (hasO (l.take (k + 1)) i = hasO (l.take k) i) := by rw [Hid, HS.out]; simp [h1]
        clear h1 HS
        go_wp2
        go_roundw
        case rel => exact ⟨k + 1, by omega, by go_num, by rw [HS2.out], HM.out, HB.out.alloc hsw _⟩
        case measure => simp [intOf]; omega
    · have hkn : k = n := by omega
      subst hkn
      have ht : l.take k = l := List.take_of_length_le (by rw [HN.out]; omega)
      rw [ht] at hL ⊢
      have HB := Lib.hid hB0
      have hb2 : w.heap.size + 1 < wr.heap.size := by omega
      cases hh : hasO l i
      · have HM : Hid (objV l i s = .tuple #[.agg obN.cells.toArray, .iface 77 (.int .i64 5)]) := by show _ = _; unfold objV ferr; rw [hL, hh]; rfl
        clear hL ht hh hB hB0 hfz
        go_wp2
        (try simp only [Exit.inBlock, Exit.then])
        refine bodyPost_ret (v := .tuple #[.agg obN.cells.toArray, .iface 77 (.int .i64 5)]) ?_ rfl ⟨by rw [HM.out], ?_⟩
        · rw [results_cell_tmp rfl]
          simp only [Ob.cells, obN]
          go_simp
        · iterate 9 (refine Below.setCell ?_ (by simp only; omega) _)
          exact HB.out
      · have HM : Hid (objV l i s = .tuple #[.agg obN.cells.toArray, .iface 77 (.int .i64 10)]) := by show _ = _; unfold objV ferr; rw [hL, hh]; rfl
        clear hL ht hh hB hB0 hfz
        go_wp2
        (try simp only [Exit.inBlock, Exit.then])
        refine bodyPost_ret (v := .tuple #[.agg obN.cells.toArray, .iface 77 (.int .i64 10)]) ?_ rfl ⟨by rw [HM.out], ?_⟩
        · rw [results_cell_tmp rfl]
          simp only [Ob.cells, obN]
          go_simp
        · iterate 9 (refine Below.setCell ?_ (by simp only; omega) _)
          exact HB.out

set_option maxHeartbeats 1000000 in
theorem size_any (A : Option Addr) (n c : Nat) (l : List Ob) (w : World) (hA : Rd w w.heap.size A (ocells l)) (hn : l.length = n) (hc : n ≤ c) (hcc : c ≤ maxLen) (h16 : n ≤ 16) :
    Calls Try.prog 92 #[.slice A n c] w fun e w' => e = .returned (.int .i64 ((sumB l + 7) / 8 : Nat)) ∧ Below w.heap.size w w' := by
  unfold maxLen at hcc
  have HN := Lib.hid hn
  have HA := Lib.hid hA
  clear hn hA
  go_enter Try.func92, Try.ntmps92
  go_wp2
  go_loopw [3, 8] (fun sm i wr => ∃ k : Nat, k ≤ n ∧ i = .int .i64 k ∧ sm = .int .i64 (sumB (l.take k) : Nat) ∧ Below w.heap.size w wr) (fun _ i _ => n - (intOf i).toNat)
  case atStart => exact ⟨0, Nat.zero_le _, rfl, rfl, Below.refl _ _⟩
  case round =>
    obtain ⟨k, hk, rfl, rfl, hB⟩ := hrel
    have hsz : w.heap.size ≤ wr.heap.size := hB.size
    have hle : sumB (l.take k) ≤ 512 := by
      have := sumB_le (l.take k)
      have : (l.take k).length ≤ k := List.length_take_le _ _
      omega
    by_cases hlt : k < n
    · obtain ⟨x, hx⟩ := getElem?_of_lt (l := l) (k := k) (by rw [HN.out]; exact hlt)
      obtain ⟨b, off, rfl, hbl, c0, c1, c2, c3, c4, c5, c6, c7, c8⟩ := (HA.out.below hB (Nat.le_refl _)).ob hx
      have HB := Lib.hid hB
      have HS := Lib.hid (sumB_take hx)
      have hb1 := bitsO_le x.t
      obtain ⟨q, hq⟩ : ∃ q, bitsO x.t = q := ⟨_, rfl⟩
      rw [hq] at hb1 HS
      have HQ := Lib.hid hq
      generalize sumB (l.take k) = s at *
      clear hx hB hq
      go_wp2_with (fail)
      (with_reducible refine (bits_any x.t _).mono ?_)
      rintro e w1 ⟨rfl, hb⟩
      rw [HQ.out]
      have HB1 : Hid (Below w.heap.size w w1) := (HB.out.alloc hsz _).trans (hb.mono (by simp; omega))
      clear hb
      go_wp2
      go_roundw
      case rel => exact ⟨k + 1, by omega, by go_num, by rw [HS.out]; push_cast; rfl, HB1.out⟩
      case measure => simp [intOf]; omega
    · have hkn : k = n := by omega
      subst hkn
      have ht : l.take k = l := List.take_of_length_le (by rw [HN.out]; omega)
      rw [ht] at hle ⊢
      have HB := Lib.hid hB
      clear ht hB
      go_wp2
      go_ret
      exact ⟨by push_cast; rfl, HB.out⟩

set_option maxHeartbeats 1000000 in
theorem missed_any (a b : Int) (w : World) : Calls Try.prog 86 #[.int .i64 a, .int .i64 b] w fun e w' => e = .returned (.int .i64 (missO a b)) ∧ w = w' := by
  go_enter Try.func86, Try.ntmps86
  go_wp2
  have he : wrap64 (wrap64 (b - a) - 1) % 256 = missO a b := by unfold wrap64 missO; omega
  rw [he]
  go_ret
  exact ⟨rfl, rfl⟩
end Go.Proofs.Ytjdknddnanopaaa.Bus
