
/-
  mapping.find, without a further check.
-/
import Derived.Test.YtjdknddnanopaaaBW17
import Derived.Test.YtjdknddnanopaaaBW3
namespace Go.Proofs.Ytjdknddnanopaaa.Bus
open Go.RowKit
set_option linter.unusedVariables false

theorem nef_nil (w : World) : (binOp .neq 182 .nilFunc .nilFunc).run Try.prog w = .ok (.bool false) w := by kernel_rfl

set_option maxRecDepth 100000 in
set_option maxHeartbeats 4000000 in
theorem find_nil (A A' : Option Addr) (n c n' c' : Nat) (l : List Ob) (m : List It) (w : World) (hA : Rd w w.heap.size A (ocells l)) (hn : l.length = n) (hc : n ≤ c) (hcc : c ≤ maxLen)
    (hA' : Rd w w.heap.size A' (mcells m)) (hn' : m.length = n') (hc' : n' ≤ c') (hcc' : c' ≤ maxLen) :
    Calls Try.prog 91 #[.slice A n c, .slice A' n' c', .nilFunc] w fun e w' => ∃ Ar cr, e = .returned (.tuple #[.slice Ar (findM l noChk m).1.length cr, errV (findM l noChk m).2]) ∧ (findM l noChk m).1.length ≤ cr ∧ cr ≤ maxLen ∧
      Rd w' w'.heap.size Ar (ocells (findM l noChk m).1) ∧ Below w.heap.size w w' := by
  obtain ⟨q, hq⟩ : ∃ q, findM l noChk m = q := ⟨_, rfl⟩
  rw [hq]
  obtain ⟨f, ec⟩ := q
  simp only
  have HN := Lib.hid hn
  have HA := Lib.hid hA
  have HN' := Lib.hid hn'
  have HA' := Lib.hid hA'
  have HCC := Lib.hid hcc
  have hcm := hcc
  have hcm' := hcc'
  have h1 := ne_nil
  have h2 := ne_err
  have h3 := nef_nil
  unfold maxLen at hcm hcm'
  unfold findM at hq
  obtain ⟨i0, hi, hz0, hz1, hz2⟩ := info_parts info52
  obtain ⟨k0, hk0⟩ : ∃ k, checkO l = k := ⟨_, rfl⟩
  rw [hk0] at hq
  have HK0 := Lib.hid hk0
  clear hn hA hn' hA' hcc hcc' hk0
  by_cases he : k0 = 0
  · subst he
    rw [if_neg (by simp)] at hq
    by_cases h16 : 16 < n'
    · rw [if_pos (by rw [HN'.out]; exact h16)] at hq
      simp only [Prod.mk.injEq] at hq
      obtain ⟨rfl, rfl⟩ := hq
      go_enter Try.func91, Try.ntmps91
      go_wp2_with (fail)
      (with_reducible refine (check_any A n c l _ HA.out HN.out hc HCC.out).mono ?_)
      rintro e w1 ⟨rfl, hb⟩
      rw [HK0.out, errV_zero]
      have HB := Lib.hid hb
      clear hb
      go_wp2
      go_ret2
      exact ⟨none, 0, rfl, Nat.le_refl _, Nat.zero_le _, fun h => absurd rfl h, HB.out⟩
    · rw [if_neg (by rw [HN'.out]; exact h16)] at hq
      have HQ : Hid (pick l noChk 0 m [] = (f, ec)) := hq
      clear hq
      go_enter Try.func91, Try.ntmps91
      go_wp2_with (fail)
      (with_reducible refine (check_any A n c l _ HA.out HN.out hc HCC.out).mono ?_)
      rintro e w1 ⟨rfl, hb⟩
      rw [HK0.out, errV_zero]
      have HB := Lib.hid hb
      have hs1 := hb.size
      clear hb
      go_wp2
      go_loopw [9, 10, 27] (fun o sm i wr => ∃ (k : Nat) (acc : List Ob), k ≤ n' ∧ i = .int .i64 k ∧ sm = .int .i64 (sumB acc : Nat) ∧ acc.length = k ∧ wr.ownsRow w.heap.size 144 9 o k (ocells acc) ∧ pick l noChk k (m.drop k) acc = (f, ec) ∧ Below w.heap.size w wr) (fun _ _ i _ => n' - (intOf i).toNat)
      case atStart => exact ⟨0, [], Nat.zero_le _, rfl, rfl, rfl, World.ownsRow_nil .., HQ.out, HB.out⟩
      case round =>
        obtain ⟨k, acc, hk, rfl, rfl, hlen, hown, hP, hB⟩ := hrel
        have hsz : w.heap.size ≤ wr.heap.size := hB.size
        have hle : sumB acc ≤ 512 := by
          have := sumB_le acc
          omega
        have HB := Lib.hid hB
        have HP := Lib.hid hP
        have HLEN := Lib.hid hlen
        have HO := Lib.hid hown
        clear hB hP hlen hown
        by_cases hlt : k < n'
        · obtain ⟨y, hy⟩ := getElem?_of_lt (l := m) (k := k) (by rw [HN'.out]; exact hlt)
          obtain ⟨b, off, rfl, hbl, c0, c1⟩ := (HA'.out.below HB.out (Nat.le_refl _)).it hy
          have HY := Lib.hid hy
          clear hy
          go_upto_region 11 with (fail)
          obtain ⟨W, hW⟩ : ∃ W, wr.alloc (.cells #[.int .i64 y.i, .int .i64 y.s] 97) = W := ⟨_, rfl⟩
          have HBW : Hid (Below w.heap.size w W) := by rw [← hW]; exact HB.out.alloc hsz _
          have m0 : W.cell? ⟨wr.heap.size, 0, none⟩ = some (.int .i64 y.i) := by rw [← hW]; simp
          have m1 : W.cell? ⟨wr.heap.size, 1, none⟩ = some (.int .i64 y.s) := by rw [← hW]; simp
          have HOW : Hid (W.ownsRow w.heap.size 144 9 u9 k (ocells acc)) := by rw [← hW]; exact HO.out.alloc _
          have hsW : w.heap.size ≤ W.heap.size := HBW.out.size
          rw [hW]
          clear hW c0 c1 HO HB
          generalize wr.heap.size = B1 at *
          cases hp : locO l y.i y.s with
          | none =>
            have HE : Hid (([], ferr l y.i) = (f, ec)) := (pick_miss HY.out hp).symm.trans HP.out
            have HV : Hid (objV l y.i y.s = .tuple #[.agg obN.cells.toArray, .iface 77 (.int .i64 (ferr l y.i))]) := by show _ = _; unfold objV; rw [hp]
            clear hp
            go_wp2_with (fail)
            (with_reducible refine (object_any A n c l y.i y.s W ((HA.out.below HBW.out (Nat.le_refl _)).more hsW) HN.out hc HCC.out).mono ?_)
            rintro e w2 ⟨rfl, hb⟩
            rw [HV.out]
            have HB2 : Hid (Below w.heap.size w w2) := HBW.out.trans (hb.mono hsW)
            have hs2 := HB2.out.size
            simp only [obN, Ob.cells]
            clear hb
            go_wp2
            go_ret2
            obtain ⟨e1, e2⟩ := Prod.mk.injEq .. ▸ HE.out
            subst e1 e2
            exact ⟨none, 0, by rw [errV_ne (ferr_ne _ _)]; rfl, Nat.le_refl _, Nat.zero_le _, fun h => absurd rfl h, HB2.out.alloc hs2 _⟩
          | some p =>
            obtain ⟨x, hx, hkey⟩ := locO_some hp
            clear hkey
            have HV : Hid (objV l y.i y.s = .tuple #[.agg x.cells.toArray, .nilIface]) := by show _ = _; unfold objV; rw [hp]; simp only [getD_of hx]
            have HE : Hid (pick l noChk (k + 1) (m.drop (k + 1)) (acc ++ [x]) = (f, ec)) := (pick_step HY.out hp hx rfl).symm.trans HP.out
            have hb1 := bitsO_le x.t
            have HS := Lib.hid (sumB_snoc acc x)
            obtain ⟨bo, hbo⟩ : ∃ q, bitsO x.t = q := ⟨_, rfl⟩
            rw [hbo] at hb1 HS
            have HBO := Lib.hid hbo
            have HOC : Hid (ocells (acc ++ [x]) = ocells acc ++ x.cells) := by show _ = _; rw [ocells_append, ocells_single]
            have HX1 : Hid (∀ u ∈ x.cells, u.oneCell' = true) := ob_one x
            generalize sumB acc = s at *
            clear hp hx hbo
            go_wp2_with (fail)
            (with_reducible refine (object_any A n c l y.i y.s W ((HA.out.below HBW.out (Nat.le_refl _)).more hsW) HN.out hc HCC.out).mono ?_)
            rintro e w2 ⟨rfl, hb⟩
            rw [HV.out]
            have HB2 : Hid (Below w.heap.size w w2) := HBW.out.trans (hb.mono hsW)
            have HO2 : Hid (w2.ownsRow w.heap.size 144 9 u9 k (ocells acc)) := own_below HOW.out hb
            have hs2 := HB2.out.size
            simp only [Ob.cells]
            clear hb HOW HBW m0 m1
            go_upto_region 18 with (fail)
            obtain ⟨W2, hW2⟩ : ∃ W, w2.alloc (.cells #[.int .i64 x.i, .int .i64 x.s, .int .i64 x.t, .int .i64 x.a, .int .i64 x.lo, .int .i64 x.hi, .int .i64 x.v, .bool x.mp, .bool x.hd] 144) = W := ⟨_, rfl⟩
            have HBX : Hid (Below w.heap.size w W2) := by rw [← hW2]; exact HB2.out.alloc hs2 _
            have HOX : Hid (W2.ownsRow w.heap.size 144 9 u9 k (ocells acc)) := by rw [← hW2]; exact HO2.out.alloc _
            have hlW : w2.heap.size < W2.heap.size := by rw [← hW2]; simp
            have HC : Hid (∀ j u, x.cells[j]? = some u → W2.cell? ((⟨w2.heap.size, 0, none⟩ : Addr).add j) = some u) := by
              rw [← hW2]
              exact cells_new_at w2 _ 144 x.cells _ rfl rfl
            have d0 : W2.cell? ⟨w2.heap.size, 0, none⟩ = some (.int .i64 x.i) := HC.out 0 _ rfl
            have d1 : W2.cell? ⟨w2.heap.size, 1, none⟩ = some (.int .i64 x.s) := HC.out 1 _ rfl
            have d2 : W2.cell? ⟨w2.heap.size, 2, none⟩ = some (.int .i64 x.t) := HC.out 2 _ rfl
            have d3 : W2.cell? ⟨w2.heap.size, 3, none⟩ = some (.int .i64 x.a) := HC.out 3 _ rfl
            have d4 : W2.cell? ⟨w2.heap.size, 4, none⟩ = some (.int .i64 x.lo) := HC.out 4 _ rfl
            have d5 : W2.cell? ⟨w2.heap.size, 5, none⟩ = some (.int .i64 x.hi) := HC.out 5 _ rfl
            have d6 : W2.cell? ⟨w2.heap.size, 6, none⟩ = some (.int .i64 x.v) := HC.out 6 _ rfl
            have d7 : W2.cell? ⟨w2.heap.size, 7, none⟩ = some (.bool x.mp) := HC.out 7 _ rfl
            have d8 : W2.cell? ⟨w2.heap.size, 8, none⟩ = some (.bool x.hd) := HC.out 8 _ rfl
            have hsX := HBX.out.size
            rw [hW2]
            clear hW2 HB2 HO2 HC
            generalize w2.heap.size = B2 at *
            go_wp2_with (fail)
            (with_reducible refine (bits_any x.t _).mono ?_)
            rintro e w3 ⟨rfl, hb⟩
            rw [HBO.out]
            have HB3 : Hid (Below w.heap.size w w3) := HBX.out.trans (hb.mono hsX)
            have HO3 : Hid (w3.ownsRow w.heap.size 144 9 u9 k (ocells acc)) := own_below HOX.out hb
            have g0 : w3.cell? ⟨B2, 0, none⟩ = some (.int .i64 x.i) := (hb.cell (p := ⟨B2, 0, none⟩) hlW).trans d0
            have g1 : w3.cell? ⟨B2, 1, none⟩ = some (.int .i64 x.s) := (hb.cell (p := ⟨B2, 1, none⟩) hlW).trans d1
            have g2 : w3.cell? ⟨B2, 2, none⟩ = some (.int .i64 x.t) := (hb.cell (p := ⟨B2, 2, none⟩) hlW).trans d2
            have g3 : w3.cell? ⟨B2, 3, none⟩ = some (.int .i64 x.a) := (hb.cell (p := ⟨B2, 3, none⟩) hlW).trans d3
            have g4 : w3.cell? ⟨B2, 4, none⟩ = some (.int .i64 x.lo) := (hb.cell (p := ⟨B2, 4, none⟩) hlW).trans d4
            have g5 : w3.cell? ⟨B2, 5, none⟩ = some (.int .i64 x.hi) := (hb.cell (p := ⟨B2, 5, none⟩) hlW).trans d5
            have g6 : w3.cell? ⟨B2, 6, none⟩ = some (.int .i64 x.v) := (hb.cell (p := ⟨B2, 6, none⟩) hlW).trans d6
            have g7 : w3.cell? ⟨B2, 7, none⟩ = some (.bool x.mp) := (hb.cell (p := ⟨B2, 7, none⟩) hlW).trans d7
            have g8 : w3.cell? ⟨B2, 8, none⟩ = some (.bool x.hd) := (hb.cell (p := ⟨B2, 8, none⟩) hlW).trans d8
            have hs3 := HB3.out.size
            clear hb d0 d1 d2 d3 d4 d5 d6 d7 d8 HBX HOX
            go_wp2_with (at_builtin; refine wpList_append_own _ rfl _ _ 88 rfl w.heap.size 144 i0 _ 9 64 Try.underlying88 hi hz0 hz1 hz2 rfl (by omega) _ _ _ rfl (HO3.out.alloc _) ⟨w3.heap.size, 0, none⟩ 1 1 x.cells rfl rfl ?c1 ?c2 ?c3 ?c4 ?c5 ?_)
            case c1 => exact cells_new _ _ _ _ rfl
            case c2 => exact HX1.out
            case c3 => unfold maxLen; omega
            case c4 => omega
            case c5 => simp; omega
            intro v' w4 hown4 hgrow4 _
            have HO4 : Hid (w4.ownsRow w.heap.size 144 9 v' (k + 1) (ocells (acc ++ [x]))) := by
              rw [HOC.out]
              exact hown4
            have HB4 : Hid (Below w.heap.size w w4) := (HB3.out.alloc hs3 _).grown hgrow4 (by simp; omega) (fun k hk => (HO3.out.lt k hk).1)
            clear hown4 hgrow4
            go_wp2
            go_roundw
            case rel => exact ⟨k + 1, acc ++ [x], by omega, by go_num, by rw [HS.out]; push_cast; rfl, by simp [HLEN.out], HO4.out, HE.out, HB4.out⟩
            case measure => simp [intOf]; omega
        · have hkn : k = n' := by omega
          subst hkn
          have hp := pick_nil (l := l) (chk := noChk) (m := m) (acc := acc) HN'.out.symm
          rw [HP.out] at hp
          by_cases hs : 256 < sumB acc
          · rw [if_pos hs] at hp
            simp only [Prod.mk.injEq] at hp
            obtain ⟨rfl, rfl⟩ := hp
            go_wp2
            go_ret2
            exact ⟨none, 0, rfl, Nat.le_refl _, Nat.zero_le _, fun h => absurd rfl h, HB.out⟩
          · rw [if_neg hs] at hp
            simp only [Prod.mk.injEq] at hp
            obtain ⟨rfl, rfl⟩ := hp
            obtain ⟨Ar, cr, rfl, hr1, hr2, hr⟩ := own_read HO.out
            have HR := Lib.hid hr
            clear hr HO
            go_wp2
            go_ret2
            exact ⟨Ar, cr, by rw [HLEN.out]; rfl, by rw [HLEN.out]; exact hr1, hr2, HR.out, HB.out⟩
  · rw [if_pos he] at hq
    simp only [Prod.mk.injEq] at hq
    obtain ⟨rfl, rfl⟩ := hq
    have HE := Lib.hid (errV_ne he)
    clear he
    go_enter Try.func91, Try.ntmps91
    go_wp2_with (fail)
    (with_reducible refine (check_any A n c l _ HA.out HN.out hc HCC.out).mono ?_)
    rintro e w1 ⟨rfl, hb⟩
    rw [HK0.out, HE.out]
    have HB := Lib.hid hb
    clear hb
    go_wp2
    go_ret2
    exact ⟨none, 0, by rw [HE.out]; rfl, Nat.le_refl _, Nat.zero_le _, fun h => absurd rfl h, HB.out⟩
end Go.Proofs.Ytjdknddnanopaaa.Bus
