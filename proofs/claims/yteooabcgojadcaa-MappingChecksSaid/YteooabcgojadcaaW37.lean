/-
  mapping.Check: its closure, find with it.
-/
import Derived.Test.YteooabcgojadcaaW18
import Derived.Test.YteooabcgojadcaaW32
namespace Go.Proofs.Yteooabcgojadcaa
open Go.RowKit
set_option linter.unusedVariables false

theorem nef_clo (po pm : Nat) (w : World) : (binOp .neq 117 (.func (.func 65) #[] #[.pointer (some ⟨po, 0, none⟩), .pointer (some ⟨pm, 0, none⟩)]) .nilFunc).run Try.prog w = .ok (.bool true) w := by kernel_rfl

set_option maxRecDepth 100000 in
set_option maxHeartbeats 4000000 in
theorem clo_any (po pm : Nat) (ot : Bool) (A' : Option Addr) (n' c' : Nat) (m : List It) (k : Nat) (y : It) (x : Ob) (w : World) (ho : w.cell? ⟨po, 0, none⟩ = some (.bool ot)) (hmm : w.cell? ⟨pm, 0, none⟩ = some (.slice A' n' c'))
    (hA' : Rd w w.heap.size A' (mcells m)) (hn' : m.length = n') (hc' : n' ≤ c') (hcc' : c' ≤ maxLen) (hy : m[k]? = some y) (h16 : ¬ 16 < n') :
    Calls Try.prog 65 #[.int .i64 k, .agg #[.int .i64 x.i, .int .i64 x.s, .int .i64 x.t, .int .i64 x.a, .int .i64 x.lo, .int .i64 x.hi, .int .i64 x.v, .bool x.mp, .bool x.hd], .pointer (some ⟨po, 0, none⟩), .pointer (some ⟨pm, 0, none⟩)] w fun e w' => e = .returned (errV (chkO m ot k x)) ∧ Below w.heap.size w w' := by
  have hk : k < n' := by rw [← hn']; exact (List.getElem?_eq_some_iff.1 hy).1
  obtain ⟨b, off, rfl, hbl, c0, c1⟩ := hA'.it hy
  have HGD : Hid (m.getD k default = y) := by rw [Hid, List.getD_eq_getElem?_getD, hy]; rfl
  have hpo := World.block_lt_of_cell? w _ ho
  have hpm := World.block_lt_of_cell? w _ hmm
  have HA' := Lib.hid hA'
  have HN' := Lib.hid hn'
  have HY := Lib.hid hy
  unfold maxLen at hcc'
  clear hA' hn' hy
  by_cases hmp : x.mp = false
  · have HC : Hid (chkO m ot k x = 21) := by unfold chkO; rw [Hid, if_pos (.inl hmp)]
    go_enter Try.func65, Try.ntmps65
    rw [hmp]
    clear hmp
    go_wp2
    go_ret
    exact ⟨by rw [HC.out]; rfl, (Below.refl _ _).alloc (Nat.le_refl _) _⟩
  have hmp' : x.mp = true := by simpa using hmp
  by_cases hbad : (ot = true ∧ x.a = 2) ∨ (ot = false ∧ x.a = 0)
  · have HC : Hid (chkO m ot k x = 21) := by unfold chkO; rw [Hid, if_pos (.inr hbad)]
    rcases hbad with ⟨rfl, ha⟩ | ⟨rfl, ha⟩
    · go_enter Try.func65, Try.ntmps65
      rw [hmp', ha]
      clear hmp hmp' ha
      go_wp2
      go_ret
      exact ⟨by rw [HC.out]; rfl, (Below.refl _ _).alloc (Nat.le_refl _) _⟩
    · go_enter Try.func65, Try.ntmps65
      rw [hmp', ha]
      clear hmp hmp' ha
      go_wp2
      go_ret
      exact ⟨by rw [HC.out]; rfl, (Below.refl _ _).alloc (Nat.le_refl _) _⟩
  · have HC : Hid (chkO m ot k x = if y ∈ m.take k then 6 else 0) := by
      unfold chkO
      rw [Hid, if_neg (by rintro (h | h); exact hmp h; exact hbad h), HGD.out]
    have hok : (ot = true ∧ (x.a == 2) = false) ∨ (ot = false ∧ (x.a == 0) = false) := by
      cases ot
      · right; refine ⟨rfl, ?_⟩; simpa using hbad
      · left; refine ⟨rfl, ?_⟩; simpa using hbad
    clear hbad hmp
    rcases hok with ⟨rfl, ha⟩ | ⟨rfl, ha⟩
    all_goals
      go_enter Try.func65, Try.ntmps65
      go_upto_region 3 with (fail)
      clear hmp' ha
      obtain ⟨W, hW⟩ : ∃ W, w.alloc (.cells #[.int .i64 x.i, .int .i64 x.s, .int .i64 x.t, .int .i64 x.a, .int .i64 x.lo, .int .i64 x.hi, .int .i64 x.v, .bool true, .bool x.hd] 52) = W := ⟨_, rfl⟩
      have HBW : Hid (Below w.heap.size w W) := by rw [← hW]; exact (Below.refl _ _).alloc (Nat.le_refl _) _
      have hmW : W.cell? ⟨pm, 0, none⟩ = some (.slice (some ⟨b, off, none⟩) n' c') := (HBW.out.cell (p := ⟨pm, 0, none⟩) hpm).trans hmm
      have hsW := HBW.out.size
      have k1 : (0 : Int) ≤ (k : Int) := by omega
      have k2 : (k : Int) ≤ (c' : Int) := by omega
      rw [hW]
      clear hW ho c0 c1
      go_wp2
      go_loopw [34] (fun i wx => ∃ j : Nat, j ≤ k ∧ i = .int .i64 j ∧ y ∉ m.take j ∧ Below W.heap.size W wx) (fun i _ => k - (intOf i).toNat)
      case atStart => exact ⟨0, Nat.zero_le _, rfl, by simp, Below.refl _ _⟩
      case round =>
        obtain ⟨j, hj, rfl, hno, hBr⟩ := hrel
        have hsr := hBr.size
        have HBr := Lib.hid hBr
        have HNO := Lib.hid hno
        clear hBr hno
        by_cases hjk : j < k
        · obtain ⟨z, hz⟩ := getElem?_of_lt (l := m) (k := j) (by rw [HN'.out]; omega)
          have HB0 : Hid (Below w.heap.size w wr) := HBW.out.trans (HBr.out.mono hsW)
          obtain ⟨b', off', hAe, hbl2, z0, z1⟩ := (HA'.out.below HB0.out (Nat.le_refl _)).it hz
          obtain ⟨rfl, rfl⟩ : b = b' ∧ off = off' := by simpa using hAe
          obtain ⟨b'', off'', hAe2, hbl3, y0, y1⟩ := (HA'.out.below HB0.out (Nat.le_refl _)).it HY.out
          obtain ⟨rfl, rfl⟩ : b = b'' ∧ off = off'' := by simpa using hAe2
          have HZ := Lib.hid hz
          have hbr : b < wr.heap.size := by omega
          have hmr : wr.cell? ⟨pm, 0, none⟩ = some (.slice (some ⟨b, off, none⟩) n' c') := (HBr.out.cell (p := ⟨pm, 0, none⟩) (Nat.lt_of_lt_of_le hpm hsW)).trans hmW
          have hpmr : pm < wr.heap.size := World.block_lt_of_cell? _ _ hmr
          have hkn : (k : Int) < (n' : Int) := by omega
          clear hz hAe hAe2
          by_cases he : z = y
          · subst he
            have HC6 := Lib.hid (HC.out.trans (if_pos (List.mem_of_getElem? (i := j) (by rw [List.getElem?_take, if_pos hjk]; exact HZ.out))))
            go_wp2
            go_quiet (fail)
            go_wp2
            go_ret
            exact ⟨by rw [HC6.out]; rfl, Below.drewN (HB0.out.alloc (by omega) _) _⟩
          · have HNE : Hid (y ∉ m.take (j + 1)) := by
              rw [take_snoc_get m j z HZ.out, Hid, List.mem_append, List.mem_singleton]
              rintro (h | h)
              · exact HNO.out h
              · exact he h.symm
            have hcmp2 : z.i = y.i → ¬ z.s = y.s := by
              intro h1 h2
              apply he
              cases y; cases z
              simp only at h1 h2
              rw [h1, h2]
            clear he
            by_cases hi1 : z.i = y.i
            · have hs1 : (z.s == y.s) = false := by simpa using hcmp2 hi1
              clear hcmp2
              rw [hi1] at z0
              clear hi1
              go_wp2
              go_quiet (fail)
              go_wp2
              go_roundw
              case rel => exact ⟨j + 1, by omega, by go_num, HNE.out, Below.drewN (HBr.out.alloc hsr _) _⟩
              case measure => simp [intOf]; omega
            · have hi2 : (z.i == y.i) = false := by simpa using hi1
              clear hcmp2 hi1
              go_wp2
              go_quiet (fail)
              go_wp2
              go_roundw
              case rel => exact ⟨j + 1, by omega, by go_num, HNE.out, Below.drewN (HBr.out.alloc hsr _) _⟩
              case measure => simp [intOf]; omega
        · have hjk' : j = k := by omega
          subst hjk'
          have HC0 := Lib.hid (HC.out.trans (if_neg HNO.out))
          have HB0 : Hid (Below w.heap.size w wr) := HBW.out.trans (HBr.out.mono hsW)
          go_wp2
          go_ret
          exact ⟨by rw [HC0.out]; rfl, HB0.out⟩

set_option maxRecDepth 100000 in
set_option maxHeartbeats 4000000 in
theorem find_more (A A' : Option Addr) (n c n' c' : Nat) (l : List Ob) (m : List It) (w : World) (hA : Rd w w.heap.size A (ocells l)) (hn : l.length = n) (hc : n ≤ c) (hcc : c ≤ maxLen)
    (hA' : Rd w w.heap.size A' (mcells m)) (hn' : m.length = n') (hc' : n' ≤ c') (hcc' : c' ≤ maxLen) (po pm : Nat) (ot : Bool) (ho : w.cell? ⟨po, 0, none⟩ = some (.bool ot)) (hmm : w.cell? ⟨pm, 0, none⟩ = some (.slice A' n' c')) :
    Calls Try.prog 60 #[.slice A n c, .slice A' n' c', .func (.func 65) #[] #[.pointer (some ⟨po, 0, none⟩), .pointer (some ⟨pm, 0, none⟩)]] w fun e w' => ∃ Ar cr, e = .returned (.tuple #[.slice Ar (findM l (chkO m ot) m).1.length cr, errV (findM l (chkO m ot) m).2]) ∧ (findM l (chkO m ot) m).1.length ≤ cr ∧ cr ≤ maxLen ∧
      Rd w' w'.heap.size Ar (ocells (findM l (chkO m ot) m).1) ∧ Below w.heap.size w w' := by
  obtain ⟨q, hq⟩ : ∃ q, findM l (chkO m ot) m = q := ⟨_, rfl⟩
  rw [hq]
  obtain ⟨f, ec⟩ := q
  simp only
  have HN := Lib.hid hn
  have HA := Lib.hid hA
  have HN' := Lib.hid hn'
  have HA' := Lib.hid hA'
  have HCC := Lib.hid hcc
  have hcm := hcc
  have hcm' := hcc'
  have h1 := ne_nil
  have h2 := ne_err
  have h3 := nef_clo po pm
  have hpo := World.block_lt_of_cell? w _ ho
  have hpm := World.block_lt_of_cell? w _ hmm
  have HOT := Lib.hid ho
  have HMM := Lib.hid hmm
  unfold maxLen at hcm hcm'
  unfold findM at hq
  obtain ⟨i0, hi, hz0, hz1, hz2⟩ := info_parts info52
  obtain ⟨k0, hk0⟩ : ∃ k, checkO l = k := ⟨_, rfl⟩
  rw [hk0] at hq
  have HK0 := Lib.hid hk0
  have HCC' : Hid (c' ≤ maxLen) := hcc'
  clear hn hA hn' hA' hcc hcc' hk0 ho hmm
  by_cases he : k0 = 0
  · subst he
    rw [if_neg (by simp)] at hq
    by_cases h16 : 16 < n'
    · rw [if_pos (by rw [HN'.out]; exact h16)] at hq
      simp only [Prod.mk.injEq] at hq
      obtain ⟨rfl, rfl⟩ := hq
      go_enter Try.func60, Try.ntmps60
      go_wp2_with (fail)
      (with_reducible refine (check_any A n c l _ HA.out HN.out hc HCC.out).mono ?_)
      rintro e w1 ⟨rfl, hb⟩
      rw [HK0.out, errV_zero]
      have HB := Lib.hid hb
      clear hb
      go_wp2
      go_ret2
      exact ⟨none, 0, rfl, Nat.le_refl _, Nat.zero_le _, fun h => absurd rfl h, HB.out⟩
    · rw [if_neg (by rw [HN'.out]; exact h16)] at hq
      have HQ : Hid (pick l (chkO m ot) 0 m [] = (f, ec)) := hq
      clear hq
      go_enter Try.func60, Try.ntmps60
      go_wp2_with (fail)
      (with_reducible refine (check_any A n c l _ HA.out HN.out hc HCC.out).mono ?_)
      rintro e w1 ⟨rfl, hb⟩
      rw [HK0.out, errV_zero]
      have HB := Lib.hid hb
      have hs1 := hb.size
      clear hb
      go_wp2
      go_loopw [9, 10, 27] (fun o sm i wr => ∃ (k : Nat) (acc : List Ob), k ≤ n' ∧ i = .int .i64 k ∧ sm = .int .i64 (sumB acc : Nat) ∧ acc.length = k ∧ wr.ownsRow w.heap.size 52 9 o k (ocells acc) ∧ pick l (chkO m ot) k (m.drop k) acc = (f, ec) ∧ Below w.heap.size w wr) (fun _ _ i _ => n' - (intOf i).toNat)
      case atStart => exact ⟨0, [], Nat.zero_le _, rfl, rfl, rfl, World.ownsRow_nil .., HQ.out, HB.out⟩
      case round =>
        obtain ⟨k, acc, hk, rfl, rfl, hlen, hown, hP, hB⟩ := hrel
        have hsz : w.heap.size ≤ wr.heap.size := hB.size
        have hle : sumB acc ≤ 512 := by
          have := sumB_le acc
          omega
        have HB := Lib.hid hB
        have HP := Lib.hid hP
        have HLEN := Lib.hid hlen
        have HO := Lib.hid hown
        clear hB hP hlen hown
        by_cases hlt : k < n'
        · obtain ⟨y, hy⟩ := getElem?_of_lt (l := m) (k := k) (by rw [HN'.out]; exact hlt)
          obtain ⟨b, off, rfl, hbl, c0, c1⟩ := (HA'.out.below HB.out (Nat.le_refl _)).it hy
          have HY := Lib.hid hy
          clear hy
          go_upto_region 11 with (fail)
          obtain ⟨W, hW⟩ : ∃ W, wr.alloc (.cells #[.int .i64 y.i, .int .i64 y.s] 110) = W := ⟨_, rfl⟩
          have HBW : Hid (Below w.heap.size w W) := by rw [← hW]; exact HB.out.alloc hsz _
          have m0 : W.cell? ⟨wr.heap.size, 0, none⟩ = some (.int .i64 y.i) := by rw [← hW]; simp
          have m1 : W.cell? ⟨wr.heap.size, 1, none⟩ = some (.int .i64 y.s) := by rw [← hW]; simp
          have HOW : Hid (W.ownsRow w.heap.size 52 9 u9 k (ocells acc)) := by rw [← hW]; exact HO.out.alloc _
          have hsW : w.heap.size ≤ W.heap.size := HBW.out.size
          rw [hW]
          clear hW c0 c1 HO HB
          generalize wr.heap.size = B1 at *
          cases hp : locO l y.i y.s with
          | none =>
            have HE : Hid (([], ferr l y.i) = (f, ec)) := (pick_miss HY.out hp).symm.trans HP.out
            have HV : Hid (objV l y.i y.s = .tuple #[.agg obN.cells.toArray, .iface 56 (.int .i64 (ferr l y.i))]) := by show _ = _; unfold objV; rw [hp]
            clear hp
            go_wp2_with (fail)
            (with_reducible refine (object_any A n c l y.i y.s W ((HA.out.below HBW.out (Nat.le_refl _)).more hsW) HN.out hc HCC.out).mono ?_)
            rintro e w2 ⟨rfl, hb⟩
            rw [HV.out]
            have HB2 : Hid (Below w.heap.size w w2) := HBW.out.trans (hb.mono hsW)
            have hs2 := HB2.out.size
            simp only [obN, Ob.cells]
            clear hb
            go_wp2
            go_ret2
            obtain ⟨e1, e2⟩ := Prod.mk.injEq .. ▸ HE.out
            subst e1 e2
            exact ⟨none, 0, by rw [errV_ne (ferr_ne _ _)]; rfl, Nat.le_refl _, Nat.zero_le _, fun h => absurd rfl h, HB2.out.alloc hs2 _⟩
          | some p =>
            obtain ⟨x, hx, hkey⟩ := locO_some hp
            clear hkey
            have HV : Hid (objV l y.i y.s = .tuple #[.agg x.cells.toArray, .nilIface]) := by show _ = _; unfold objV; rw [hp]; simp only [getD_of hx]
            have HLO := Lib.hid hp
            have HX0 := Lib.hid hx
            have hb1 := bitsO_le x.t
            have HS := Lib.hid (sumB_snoc acc x)
            obtain ⟨bo, hbo⟩ : ∃ q, bitsO x.t = q := ⟨_, rfl⟩
            rw [hbo] at hb1 HS
            have HBO := Lib.hid hbo
            have HOC : Hid (ocells (acc ++ [x]) = ocells acc ++ x.cells) := by show _ = _; rw [ocells_append, ocells_single]
            have HX1 : Hid (∀ u ∈ x.cells, u.oneCell' = true) := ob_one x
            generalize sumB acc = s at *
            clear hp hx hbo
            go_wp2_with (fail)
            (with_reducible refine (object_any A n c l y.i y.s W ((HA.out.below HBW.out (Nat.le_refl _)).more hsW) HN.out hc HCC.out).mono ?_)
            rintro e w2 ⟨rfl, hb⟩
            rw [HV.out]
            have HB2 : Hid (Below w.heap.size w w2) := HBW.out.trans (hb.mono hsW)
            have HO2 : Hid (w2.ownsRow w.heap.size 52 9 u9 k (ocells acc)) := own_below HOW.out hb
            have hs2 := HB2.out.size
            simp only [Ob.cells]
            clear hb HOW HBW m0 m1
            go_upto_region 14 with (fail)
            obtain ⟨W2, hW2⟩ : ∃ W, w2.alloc (.cells #[.int .i64 x.i, .int .i64 x.s, .int .i64 x.t, .int .i64 x.a, .int .i64 x.lo, .int .i64 x.hi, .int .i64 x.v, .bool x.mp, .bool x.hd] 52) = W := ⟨_, rfl⟩
            have HBX : Hid (Below w.heap.size w W2) := by rw [← hW2]; exact HB2.out.alloc hs2 _
            have HOX : Hid (W2.ownsRow w.heap.size 52 9 u9 k (ocells acc)) := by rw [← hW2]; exact HO2.out.alloc _
            have hlW : w2.heap.size < W2.heap.size := by rw [← hW2]; simp
            have HC : Hid (∀ j u, x.cells[j]? = some u → W2.cell? ((⟨w2.heap.size, 0, none⟩ : Addr).add j) = some u) := by
              rw [← hW2]
              exact cells_new_at w2 _ 52 x.cells _ rfl rfl
            have d0 : W2.cell? ⟨w2.heap.size, 0, none⟩ = some (.int .i64 x.i) := HC.out 0 _ rfl
            have d1 : W2.cell? ⟨w2.heap.size, 1, none⟩ = some (.int .i64 x.s) := HC.out 1 _ rfl
            have d2 : W2.cell? ⟨w2.heap.size, 2, none⟩ = some (.int .i64 x.t) := HC.out 2 _ rfl
            have d3 : W2.cell? ⟨w2.heap.size, 3, none⟩ = some (.int .i64 x.a) := HC.out 3 _ rfl
            have d4 : W2.cell? ⟨w2.heap.size, 4, none⟩ = some (.int .i64 x.lo) := HC.out 4 _ rfl
            have d5 : W2.cell? ⟨w2.heap.size, 5, none⟩ = some (.int .i64 x.hi) := HC.out 5 _ rfl
            have d6 : W2.cell? ⟨w2.heap.size, 6, none⟩ = some (.int .i64 x.v) := HC.out 6 _ rfl
            have d7 : W2.cell? ⟨w2.heap.size, 7, none⟩ = some (.bool x.mp) := HC.out 7 _ rfl
            have d8 : W2.cell? ⟨w2.heap.size, 8, none⟩ = some (.bool x.hd) := HC.out 8 _ rfl
            have hsX := HBX.out.size
            rw [hW2]
            clear hW2 HB2 HO2 HC
            generalize w2.heap.size = B2 at *
            have HBO2 : Hid (W2.cell? ⟨po, 0, none⟩ = some (.bool ot)) := (HBX.out.cell (p := ⟨po, 0, none⟩) hpo).trans HOT.out
            have HBM2 : Hid (W2.cell? ⟨pm, 0, none⟩ = some (.slice (some ⟨b, off, none⟩) n' c')) := (HBX.out.cell (p := ⟨pm, 0, none⟩) hpm).trans HMM.out
            have HMA : Hid (Rd W2 W2.heap.size (some ⟨b, off, none⟩) (mcells m)) := (HA'.out.below HBX.out (Nat.le_refl _)).more hsX
            go_wp2_with (fail)
            (with_reducible refine (clo_any po pm ot (some ⟨b, off, none⟩) n' c' m k y x W2 HBO2.out HBM2.out HMA.out HN'.out hc' HCC'.out HY.out h16).mono ?_)
            rintro e wc ⟨rfl, hbc⟩
            have HBXc : Hid (Below w.heap.size w wc) := HBX.out.trans (hbc.mono hsX)
            have HOXc : Hid (wc.ownsRow w.heap.size 52 9 u9 k (ocells acc)) := own_below HOX.out hbc
            have dc0 : wc.cell? ⟨B2, 0, none⟩ = some (.int .i64 x.i) := (hbc.cell (p := ⟨B2, 0, none⟩) hlW).trans d0
            have dc1 : wc.cell? ⟨B2, 1, none⟩ = some (.int .i64 x.s) := (hbc.cell (p := ⟨B2, 1, none⟩) hlW).trans d1
            have dc2 : wc.cell? ⟨B2, 2, none⟩ = some (.int .i64 x.t) := (hbc.cell (p := ⟨B2, 2, none⟩) hlW).trans d2
            have dc3 : wc.cell? ⟨B2, 3, none⟩ = some (.int .i64 x.a) := (hbc.cell (p := ⟨B2, 3, none⟩) hlW).trans d3
            have dc4 : wc.cell? ⟨B2, 4, none⟩ = some (.int .i64 x.lo) := (hbc.cell (p := ⟨B2, 4, none⟩) hlW).trans d4
            have dc5 : wc.cell? ⟨B2, 5, none⟩ = some (.int .i64 x.hi) := (hbc.cell (p := ⟨B2, 5, none⟩) hlW).trans d5
            have dc6 : wc.cell? ⟨B2, 6, none⟩ = some (.int .i64 x.v) := (hbc.cell (p := ⟨B2, 6, none⟩) hlW).trans d6
            have dc7 : wc.cell? ⟨B2, 7, none⟩ = some (.bool x.mp) := (hbc.cell (p := ⟨B2, 7, none⟩) hlW).trans d7
            have dc8 : wc.cell? ⟨B2, 8, none⟩ = some (.bool x.hd) := (hbc.cell (p := ⟨B2, 8, none⟩) hlW).trans d8
            have hlWc : B2 < wc.heap.size := Nat.lt_of_lt_of_le hlW hbc.size
            clear HBX HOX d0 d1 d2 d3 d4 d5 d6 d7 d8 hlW hsX HMA HBO2 HBM2 hbc
            have HBX := HBXc
            have HOX := HOXc
            have hlW := hlWc
            have hsX := HBX.out.size
            obtain ⟨d0, d1, d2, d3, d4, d5, d6, d7, d8⟩ := And.intro dc0 (And.intro dc1 (And.intro dc2 (And.intro dc3 (And.intro dc4 (And.intro dc5 (And.intro dc6 (And.intro dc7 dc8)))))))
            clear HBXc HOXc hlWc dc0 dc1 dc2 dc3 dc4 dc5 dc6 dc7 dc8
            by_cases hcz : chkO m ot k x = 0
            case neg =>
              have HE : Hid (([], chkO m ot k x) = (f, ec)) := (pick_bad HY.out HLO.out HX0.out hcz).symm.trans HP.out
              have HEV := Lib.hid (errV_ne hcz)
              rw [HEV.out]
              clear hcz d0 d1 d2 d3 d4 d5 d6 d7 d8
              go_wp2
              go_ret2
              obtain ⟨e1, e2⟩ := Prod.mk.injEq .. ▸ HE.out
              subst e1 e2
              exact ⟨none, 0, by rw [HEV.out]; rfl, Nat.le_refl _, Nat.zero_le _, fun h => absurd rfl h, HBX.out⟩
            have HE : Hid (pick l (chkO m ot) (k + 1) (m.drop (k + 1)) (acc ++ [x]) = (f, ec)) := (pick_step HY.out HLO.out HX0.out hcz).symm.trans HP.out
            rw [hcz, errV_zero]
            clear hcz
            go_wp2_with (fail)
            (with_reducible refine (bits_any x.t _).mono ?_)
            rintro e w3 ⟨rfl, hb⟩
            rw [HBO.out]
            have HB3 : Hid (Below w.heap.size w w3) := HBX.out.trans (hb.mono hsX)
            have HO3 : Hid (w3.ownsRow w.heap.size 52 9 u9 k (ocells acc)) := own_below HOX.out hb
            have g0 : w3.cell? ⟨B2, 0, none⟩ = some (.int .i64 x.i) := (hb.cell (p := ⟨B2, 0, none⟩) hlW).trans d0
            have g1 : w3.cell? ⟨B2, 1, none⟩ = some (.int .i64 x.s) := (hb.cell (p := ⟨B2, 1, none⟩) hlW).trans d1
            have g2 : w3.cell? ⟨B2, 2, none⟩ = some (.int .i64 x.t) := (hb.cell (p := ⟨B2, 2, none⟩) hlW).trans d2
            have g3 : w3.cell? ⟨B2, 3, none⟩ = some (.int .i64 x.a) := (hb.cell (p := ⟨B2, 3, none⟩) hlW).trans d3
            have g4 : w3.cell? ⟨B2, 4, none⟩ = some (.int .i64 x.lo) := (hb.cell (p := ⟨B2, 4, none⟩) hlW).trans d4
            have g5 : w3.cell? ⟨B2, 5, none⟩ = some (.int .i64 x.hi) := (hb.cell (p := ⟨B2, 5, none⟩) hlW).trans d5
            have g6 : w3.cell? ⟨B2, 6, none⟩ = some (.int .i64 x.v) := (hb.cell (p := ⟨B2, 6, none⟩) hlW).trans d6
            have g7 : w3.cell? ⟨B2, 7, none⟩ = some (.bool x.mp) := (hb.cell (p := ⟨B2, 7, none⟩) hlW).trans d7
            have g8 : w3.cell? ⟨B2, 8, none⟩ = some (.bool x.hd) := (hb.cell (p := ⟨B2, 8, none⟩) hlW).trans d8
            have hs3 := HB3.out.size
            clear hb d0 d1 d2 d3 d4 d5 d6 d7 d8 HBX HOX
            go_wp2_with (at_builtin; refine wpList_append_own _ rfl _ _ 22 rfl w.heap.size 52 i0 _ 9 64 Try.underlying22 hi hz0 hz1 hz2 rfl (by omega) _ _ _ rfl (HO3.out.alloc _) ⟨w3.heap.size, 0, none⟩ 1 1 x.cells rfl rfl ?c1 ?c2 ?c3 ?c4 ?c5 ?_)
            case c1 => exact cells_new _ _ _ _ rfl
            case c2 => exact HX1.out
            case c3 => unfold maxLen; omega
            case c4 => omega
            case c5 => simp; omega
            intro v' w4 hown4 hgrow4 _
            have HO4 : Hid (w4.ownsRow w.heap.size 52 9 v' (k + 1) (ocells (acc ++ [x]))) := by
              rw [HOC.out]
              exact hown4
            have HB4 : Hid (Below w.heap.size w w4) := (HB3.out.alloc hs3 _).grown hgrow4 (by simp; omega) (fun k hk => (HO3.out.lt k hk).1)
            clear hown4 hgrow4
            go_wp2
            go_roundw
            case rel => exact ⟨k + 1, acc ++ [x], by omega, by go_num, by rw [HS.out]; push_cast; rfl, by simp [HLEN.out], HO4.out, HE.out, HB4.out⟩
            case measure => simp [intOf]; omega
        · have hkn : k = n' := by omega
          subst hkn
          have hp := pick_nil (l := l) (chk := (chkO m ot)) (m := m) (acc := acc) HN'.out.symm
          rw [HP.out] at hp
          by_cases hs : 256 < sumB acc
          · rw [if_pos hs] at hp
            simp only [Prod.mk.injEq] at hp
            obtain ⟨rfl, rfl⟩ := hp
            go_wp2
            go_ret2
            exact ⟨none, 0, rfl, Nat.le_refl _, Nat.zero_le _, fun h => absurd rfl h, HB.out⟩
          · rw [if_neg hs] at hp
            simp only [Prod.mk.injEq] at hp
            obtain ⟨rfl, rfl⟩ := hp
            obtain ⟨Ar, cr, rfl, hr1, hr2, hr⟩ := own_read HO.out
            have HR := Lib.hid hr
            clear hr HO
            go_wp2
            go_ret2
            exact ⟨Ar, cr, by rw [HLEN.out]; rfl, by rw [HLEN.out]; exact hr1, hr2, HR.out, HB.out⟩
  · rw [if_pos he] at hq
    simp only [Prod.mk.injEq] at hq
    obtain ⟨rfl, rfl⟩ := hq
    have HE := Lib.hid (errV_ne he)
    clear he
    go_enter Try.func60, Try.ntmps60
    go_wp2_with (fail)
    (with_reducible refine (check_any A n c l _ HA.out HN.out hc HCC.out).mono ?_)
    rintro e w1 ⟨rfl, hb⟩
    rw [HK0.out, HE.out]
    have HB := Lib.hid hb
    clear hb
    go_wp2
    go_ret2
    exact ⟨none, 0, by rw [HE.out]; rfl, Nat.le_refl _, Nat.zero_le _, fun h => absurd rfl h, HB.out⟩

set_option maxHeartbeats 2000000 in
theorem Check_any (A A' : Option Addr) (n c n' c' : Nat) (l : List Ob) (m : List It) (ot : Bool) (w : World) (hA : Rd w w.heap.size A (ocells l)) (hn : l.length = n) (hc : n ≤ c) (hcc : c ≤ maxLen)
    (hA' : Rd w w.heap.size A' (mcells m)) (hn' : m.length = n') (hc' : n' ≤ c') (hcc' : c' ≤ maxLen) :
    Calls Try.prog 52 #[.slice A n c, .slice A' n' c', .bool ot] w fun e w' => e = .returned (errV (findM l (chkO m ot) m).2) ∧ Below w.heap.size w w' := by
  have hmf : ∀ (fn : Fn) (first cap : Array Value) (w : World), (Instr.makeFunc fn first cap).run Try.prog w = .ok (.func fn first cap) w := fun _ _ _ _ => rfl
  have HA := Lib.hid hA
  have HN := Lib.hid hn
  have HA' := Lib.hid hA'
  have HN' := Lib.hid hn'
  have HCC := Lib.hid hcc
  have HCC' := Lib.hid hcc'
  clear hA hn hA' hn' hcc hcc'
  go_enter Try.func52, Try.ntmps52
  go_upto_region 1 with (fail)
  obtain ⟨W, hW⟩ : ∃ W, (w.alloc (.cells #[.slice A' n' c'] 64)).alloc (.cells #[.bool ot] 4) = W := ⟨_, rfl⟩
  have HBW : Hid (Below w.heap.size w W) := by rw [← hW]; exact ((Below.refl _ _).alloc (Nat.le_refl _) _).alloc (by simp) _
  have m0 : W.cell? ⟨w.heap.size, 0, none⟩ = some (.slice A' n' c') := by rw [← hW]; simp
  have m1 : W.cell? ⟨w.heap.size + 1, 0, none⟩ = some (.bool ot) := by rw [← hW]; simp
  have hsW := HBW.out.size
  rw [hW]
  clear hW
  go_wp2_with (fail)
  (with_reducible refine (find_more A A' n c n' c' l m W ((HA.out.below HBW.out (Nat.le_refl _)).more hsW) HN.out hc HCC.out ((HA'.out.below HBW.out (Nat.le_refl _)).more hsW) HN'.out hc' HCC'.out (w.heap.size + 1) w.heap.size ot m1 m0).mono ?_)
  rintro e w1 ⟨Ar, cr, rfl, hc1, hc2, hr, hb⟩
  have HB : Hid (Below w.heap.size w w1) := HBW.out.trans (hb.mono hsW)
  generalize (findM l (chkO m ot) m).1.length = L at *
  clear hr hb
  go_wp2
  go_ret
  exact ⟨rfl, HB.out⟩

set_option maxHeartbeats 2000000 in
theorem refCheck54_any (A A' : Option Addr) (n c n' c' : Nat) (l : List Ob) (m : List It) (ot : Bool) (w : World) (hA : Rd w w.heap.size A (ocells l)) (hn : l.length = n) (hc : n ≤ c) (hcc : c ≤ maxLen)
    (hA' : Rd w w.heap.size A' (mcells m)) (hn' : m.length = n') (hc' : n' ≤ c') (hcc' : c' ≤ maxLen) :
    Calls Try.prog 53 #[.slice A n c, .slice A' n' c', .bool ot] w fun e w' => e = .returned (.int .i64 (findM l (chkO m ot) m).2) ∧ Below w.heap.size w w' := by
  have HF := Lib.hid (reffind_yes A A' n c n' c' l m ot w hA hn hc hcc hA' hn' hc' hcc')
  clear hA hn hA' hn' hcc hcc'
  generalize findM l (chkO m ot) m = q at *
  obtain ⟨f, ec⟩ := q
  simp only at HF ⊢
  generalize f.length = L at *
  generalize sumB f = S at *
  go_enter Try.func53, Try.ntmps53
  go_wp2_with (fail)
  (with_reducible refine HF.out.mono ?_)
  rintro e w1 ⟨Ar, cr, rfl, hc1, hc2, hr, hb⟩
  have HB := Lib.hid hb
  clear hr hb
  go_wp2
  go_ret
  exact ⟨rfl, HB.out⟩

set_option maxHeartbeats 2000000 in
theorem refSize_any (A A' : Option Addr) (n c n' c' : Nat) (l : List Ob) (m : List It) (w : World) (hA : Rd w w.heap.size A (ocells l)) (hn : l.length = n) (hc : n ≤ c) (hcc : c ≤ maxLen)
    (hA' : Rd w w.heap.size A' (mcells m)) (hn' : m.length = n') (hc' : n' ≤ c') (hcc' : c' ≤ maxLen) :
    Calls Try.prog 51 #[.slice A n c, .slice A' n' c'] w fun e w' => e = .returned (.tuple #[.int .i64 ((sizeO l m).1 : Nat), .int .i64 (sizeO l m).2]) ∧ Below w.heap.size w w' := by
  have HF := Lib.hid (reffind_no A A' n c n' c' l m false w hA hn hc hcc hA' hn' hc' hcc')
  clear hA hn hA' hn' hcc hcc'
  obtain ⟨q, hq⟩ : ∃ q, findM l noChk m = q := ⟨_, rfl⟩
  rw [hq] at HF
  obtain ⟨f, ec⟩ := q
  have hz : sizeO l m = ((sumB f + 7) / 8, ec) := by
    unfold sizeO
    rw [hq]
    unfold sizeQ
    by_cases he : ec = 0
    · rw [if_neg (by simp [he]), he]
    · have h1 := findM_err (l := l) (chk := noChk) (m := m) (by rw [hq]; exact he)
      rw [hq] at h1
      simp only at h1
      subst h1
      rw [if_pos he]
      rfl
  have hs : sumB f ≤ 256 := by
    by_cases he : ec = 0
    · subst he
      exact (findM_ok hq).2.2.2.2
    · have h1 := findM_err (l := l) (chk := noChk) (m := m) (by rw [hq]; exact he)
      rw [hq] at h1
      simp only at h1
      subst h1
      simp [sumB]
  have HZ := Lib.hid hz
  simp only at HF
  clear hq hz
  generalize f.length = L at *
  generalize sumB f = S at *
  obtain ⟨N, hN⟩ : ∃ N, (S + 7) / 8 = N := ⟨_, rfl⟩
  have HNN := Lib.hid hN
  have z1 : ((S : Int) + 7) / 8 = N := by omega
  have z2 : ((S : Int) + 7).tdiv 8 = N := by rw [Int.tdiv_eq_ediv_of_nonneg (by omega)]; exact z1
  clear hN
  go_enter Try.func51, Try.ntmps51
  go_wp2_with (fail)
  (with_reducible refine HF.out.mono ?_)
  rintro e w1 ⟨Ar, cr, rfl, hc1, hc2, hr, hb⟩
  have HB := Lib.hid hb
  clear hr hb
  go_wp2
  go_ret2
  exact ⟨by rw [HZ.out, HNN.out]; rfl, HB.out⟩
end Go.Proofs.Yteooabcgojadcaa
