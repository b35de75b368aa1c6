
/-
  The reference's bits and find.
-/
import Derived.Test.YtjdknddnanopaaaBW18
import Derived.Test.YtjdknddnanopaaaBW10
namespace Go.Proofs.Ytjdknddnanopaaa.Bus
open Go.RowKit
set_option linter.unusedVariables false

set_option maxHeartbeats 1000000 in
theorem refbits_any (t : Int) (w : World) : Calls Try.prog 118 #[.int .i64 t] w fun e w' => e = .returned (.int .i64 (bitsO t : Nat)) ∧ w = w' := by
  obtain ⟨kd, hkd⟩ : ∃ kd, kindOf t = kd := ⟨_, rfl⟩
  have HKD := Lib.hid hkd
  have hn4 : kd.n ≤ 4 := by
    rcases kind_cases t with h | h | h | h | h | h | h | h <;> rw [hkd] at h <;> rw [h.1] <;> simp
  by_cases h0 : t = 0
  · subst h0
    clear hkd
    go_enter Try.func118, Try.ntmps118
    go_wp2_with (fail)
    (with_reducible refine (lim_any 0 _).mono ?_)
    rintro e w1 ⟨rfl, rfl⟩
    rw [HKD.out]
    simp only [limV]
    go_wp2
    go_ret
    exact ⟨rfl, rfl⟩
  · have h0' : (t == 0) = false := by simpa using h0
    have HB : Hid (bitsO t = 8 * kd.n) := by
      show _ = _
      unfold bitsO
      rw [if_neg h0, hkd]
    clear h0 hkd
    go_enter Try.func118, Try.ntmps118
    go_wp2_with (fail)
    (with_reducible refine (lim_any t _).mono ?_)
    rintro e w1 ⟨rfl, rfl⟩
    rw [HKD.out]
    simp only [limV]
    go_wp2
    go_ret
    exact ⟨by rw [HB.out]; push_cast; rfl, rfl⟩

set_option maxRecDepth 100000 in
set_option maxHeartbeats 8000000 in
theorem reffind_no (A A' : Option Addr) (n c n' c' : Nat) (l : List Ob) (ms : List It) (ot : Bool) (w : World) (hA : Rd w w.heap.size A (ocells l)) (hn : l.length = n) (hc : n ≤ c) (hcc : c ≤ maxLen)
    (hA' : Rd w w.heap.size A' (mcells ms)) (hn' : ms.length = n') (hc' : n' ≤ c') (hcc' : c' ≤ maxLen) :
    Calls Try.prog 88 #[.slice A n c, .slice A' n' c', .bool false, .bool ot] w fun e w' => ∃ Ar cr, e = .returned (.tuple #[.slice Ar (findM l noChk ms).1.length cr, .int .i64 (sumB (findM l noChk ms).1 : Nat), .int .i64 (findM l noChk ms).2]) ∧ (findM l noChk ms).1.length ≤ cr ∧ cr ≤ maxLen ∧
      Rd w' w'.heap.size Ar (ocells (findM l noChk ms).1) ∧ Below w.heap.size w w' := by
  obtain ⟨q, hq⟩ : ∃ q, findM l noChk ms = q := ⟨_, rfl⟩
  rw [hq]
  obtain ⟨f, ec⟩ := q
  simp only
  have HN := Lib.hid hn
  have HA := Lib.hid hA
  have HN' := Lib.hid hn'
  have HA' := Lib.hid hA'
  have HCC := Lib.hid hcc
  have hcm := hcc
  have hcm' := hcc'
  unfold maxLen at hcm hcm'
  unfold findM at hq
  obtain ⟨i52, hi, hz0, hz1, hz2⟩ := info_parts info52
  obtain ⟨k0, hk0⟩ : ∃ k, checkO l = k := ⟨_, rfl⟩
  rw [hk0] at hq
  have HK0 := Lib.hid hk0
  clear hn hA hn' hA' hcc hcc' hk0
  by_cases he : k0 = 0
  · subst he
    rw [if_neg (by simp)] at hq
    by_cases h16 : 16 < n'
    · rw [if_pos (by rw [HN'.out]; exact h16)] at hq
      simp only [Prod.mk.injEq] at hq
      obtain ⟨rfl, rfl⟩ := hq
      go_enter Try.func88, Try.ntmps88
      go_wp2_with (fail)
      (with_reducible refine (refCheck_any A n c l _ HA.out HN.out hc HCC.out).mono ?_)
      rintro e w1 ⟨rfl, hb⟩
      rw [HK0.out]
      have HB := Lib.hid hb
      clear hb
      go_wp2
      go_ret3
      exact ⟨none, 0, rfl, Nat.le_refl _, Nat.zero_le _, fun h => absurd rfl h, HB.out⟩
    · rw [if_neg (by rw [HN'.out]; exact h16)] at hq
      have HQ : Hid (pick l noChk 0 ms [] = (f, ec)) := hq
      clear hq
      go_enter Try.func88, Try.ntmps88
      go_wp2_with (fail)
      (with_reducible refine (refCheck_any A n c l _ HA.out HN.out hc HCC.out).mono ?_)
      rintro e w1 ⟨rfl, hb⟩
      rw [HK0.out]
      have HB := Lib.hid hb
      have hs1 := hb.size
      clear hb
      go_wp2
      go_loopw [12, 13, 31] (fun o sm i wr => ∃ (k : Nat) (acc : List Ob), k ≤ n' ∧ i = .int .i64 k ∧ sm = .int .i64 (sumB acc : Nat) ∧ acc.length = k ∧ wr.ownsRow w.heap.size 144 9 o k (ocells acc) ∧ pick l noChk k (ms.drop k) acc = (f, ec) ∧ Below w.heap.size w wr) (fun _ _ i _ => n' - (intOf i).toNat)
      case atStart => exact ⟨0, [], Nat.zero_le _, rfl, rfl, rfl, World.ownsRow_nil .., HQ.out, HB.out⟩
      case round =>
        obtain ⟨k, acc, hk, rfl, rfl, hlen, hown, hP, hB⟩ := hrel
        have hsz : w.heap.size ≤ wr.heap.size := hB.size
        have hle : sumB acc ≤ 512 := by
          have := sumB_le acc
          omega
        have HB := Lib.hid hB
        have HP := Lib.hid hP
        have HLEN := Lib.hid hlen
        have HO := Lib.hid hown
        clear hB hP hlen hown
        by_cases hlt : k < n'
        · obtain ⟨y, hy⟩ := getElem?_of_lt (l := ms) (k := k) (by rw [HN'.out]; exact hlt)
          obtain ⟨b, off, rfl, hbl, c0, c1⟩ := (HA'.out.below HB.out (Nat.le_refl _)).it hy
          have HY := Lib.hid hy
          clear hy
          go_upto_region 11 with (fail)
          obtain ⟨W, hW⟩ : ∃ W, wr.alloc (.cells #[.int .i64 y.i, .int .i64 y.s] 97) = W := ⟨_, rfl⟩
          have HBW : Hid (Below w.heap.size w W) := by rw [← hW]; exact HB.out.alloc hsz _
          have m0 : W.cell? ⟨wr.heap.size, 0, none⟩ = some (.int .i64 y.i) := by rw [← hW]; simp
          have m1 : W.cell? ⟨wr.heap.size, 1, none⟩ = some (.int .i64 y.s) := by rw [← hW]; simp
          have HOW : Hid (W.ownsRow w.heap.size 144 9 u12 k (ocells acc)) := by rw [← hW]; exact HO.out.alloc _
          have hlB1 : wr.heap.size < W.heap.size := by rw [← hW]; simp
          have hsW : w.heap.size ≤ W.heap.size := HBW.out.size
          rw [hW]
          clear hW c0 c1 HO HB
          generalize wr.heap.size = B1 at *
          cases hp : locO l y.i y.s with
          | none =>
            have HE : Hid (([], ferr l y.i) = (f, ec)) := (pick_miss HY.out hp).symm.trans HP.out
            have HV : Hid (findR l y.i y.s = .tuple #[.int .i64 0, .int .i64 (ferr l y.i)]) := by show _ = _; unfold findR; rw [hp]
            have hfe : (ferr l y.i != 0) = true := by simp [ferr_ne]
            generalize ferr l y.i = fe at *
            clear hp
            go_wp2_with (fail)
            (with_reducible refine (refFind_any A n c l y.i y.s W ((HA.out.below HBW.out (Nat.le_refl _)).more hsW) HN.out hc HCC.out).mono ?_)
            rintro e w2 ⟨rfl, hb⟩
            rw [HV.out]
            have HB2 : Hid (Below w.heap.size w w2) := HBW.out.trans (hb.mono hsW)
            clear hb
            go_wp2
            go_ret3
            obtain ⟨e1, e2⟩ := Prod.mk.injEq .. ▸ HE.out
            subst e1 e2
            exact ⟨none, 0, rfl, Nat.le_refl _, Nat.zero_le _, fun h => absurd rfl h, HB2.out⟩
          | some p =>
            obtain ⟨x, hx, hkey⟩ := locO_some hp
            clear hkey
            have hpl : p < n := by rw [← HN.out]; exact locO_lt hp
            have HV : Hid (findR l y.i y.s = .tuple #[.int .i64 p, .int .i64 0]) := by show _ = _; unfold findR; rw [hp]
            have HLO := Lib.hid hp
            have HX := Lib.hid hx
            have hb1 := bitsO_le x.t
            have HS := Lib.hid (sumB_snoc acc x)
            obtain ⟨bo, hbo⟩ : ∃ q, bitsO x.t = q := ⟨_, rfl⟩
            rw [hbo] at hb1 HS
            have HBO := Lib.hid hbo
            have HOC : Hid (ocells (acc ++ [x]) = ocells acc ++ x.cells) := by show _ = _; rw [ocells_append, ocells_single]
            have HX1 : Hid (∀ u ∈ x.cells, u.oneCell' = true) := ob_one x
            generalize sumB acc = s at *
            clear hp hbo
            go_wp2_with (fail)
            (with_reducible refine (refFind_any A n c l y.i y.s W ((HA.out.below HBW.out (Nat.le_refl _)).more hsW) HN.out hc HCC.out).mono ?_)
            rintro e w2 ⟨rfl, hb⟩
            rw [HV.out]
            have HB2 : Hid (Below w.heap.size w w2) := HBW.out.trans (hb.mono hsW)
            have HO2 : Hid (w2.ownsRow w.heap.size 144 9 u12 k (ocells acc)) := own_below HOW.out hb
            have l0 : w2.cell? ⟨B1, 0, none⟩ = some (.int .i64 y.i) := (hb.cell (p := ⟨B1, 0, none⟩) hlB1).trans m0
            have l1 : w2.cell? ⟨B1, 1, none⟩ = some (.int .i64 y.s) := (hb.cell (p := ⟨B1, 1, none⟩) hlB1).trans m1
            have hlB2 : B1 < w2.heap.size := Nat.lt_of_lt_of_le hlB1 hb.size
            have hs2 := HB2.out.size
            obtain ⟨bb, oo, rfl, hbbl, a0, a1, a2, a3, a4, a5, a6, a7, a8⟩ := (HA.out.below HB2.out (Nat.le_refl _)).ob hx
            have hp0 : (0 : Int) ≤ (p : Int) := by omega
            have hp1 : (p : Int) < (n : Int) := by omega
            clear hb HOW HBW m0 m1 hx
            go_upto_region 15 with (fail)
            obtain ⟨W2, hW2⟩ : ∃ W, w2.alloc (.cells #[.int .i64 x.i, .int .i64 x.s, .int .i64 x.t, .int .i64 x.a, .int .i64 x.lo, .int .i64 x.hi, .int .i64 x.v, .bool x.mp, .bool x.hd] 144) = W := ⟨_, rfl⟩
            have HBX : Hid (Below w.heap.size w W2) := by rw [← hW2]; exact HB2.out.alloc hs2 _
            have HOX : Hid (W2.ownsRow w.heap.size 144 9 u12 k (ocells acc)) := by rw [← hW2]; exact HO2.out.alloc _
            have HNB : Hid (u12.ownBlock ≠ some w2.heap.size) := by
              intro e
              have := (HO2.out.lt _ e).2
              omega
            have hlW : w2.heap.size < W2.heap.size := by rw [← hW2]; simp
            have hB1 : B1 < W2.heap.size := by omega
            have n0 : W2.cell? ⟨B1, 0, none⟩ = some (.int .i64 y.i) := by rw [← hW2]; exact (((Below.refl w2.heap.size w2).alloc (Nat.le_refl _) _).cell (p := ⟨B1, 0, none⟩) hlB2).trans l0
            have n1 : W2.cell? ⟨B1, 1, none⟩ = some (.int .i64 y.s) := by rw [← hW2]; exact (((Below.refl w2.heap.size w2).alloc (Nat.le_refl _) _).cell (p := ⟨B1, 1, none⟩) hlB2).trans l1
            have HCL : Hid (∀ j u, x.cells[j]? = some u → W2.cell? ((⟨w2.heap.size, 0, none⟩ : Addr).add j) = some u) := by
              rw [← hW2]
              exact cells_new_at w2 _ 144 x.cells _ rfl rfl
            have d0 : W2.cell? ⟨w2.heap.size, 0, none⟩ = some (.int .i64 x.i) := HCL.out 0 _ rfl
            have d1 : W2.cell? ⟨w2.heap.size, 1, none⟩ = some (.int .i64 x.s) := HCL.out 1 _ rfl
            have d2 : W2.cell? ⟨w2.heap.size, 2, none⟩ = some (.int .i64 x.t) := HCL.out 2 _ rfl
            have d3 : W2.cell? ⟨w2.heap.size, 3, none⟩ = some (.int .i64 x.a) := HCL.out 3 _ rfl
            have d4 : W2.cell? ⟨w2.heap.size, 4, none⟩ = some (.int .i64 x.lo) := HCL.out 4 _ rfl
            have d5 : W2.cell? ⟨w2.heap.size, 5, none⟩ = some (.int .i64 x.hi) := HCL.out 5 _ rfl
            have d6 : W2.cell? ⟨w2.heap.size, 6, none⟩ = some (.int .i64 x.v) := HCL.out 6 _ rfl
            have d7 : W2.cell? ⟨w2.heap.size, 7, none⟩ = some (.bool x.mp) := HCL.out 7 _ rfl
            have d8 : W2.cell? ⟨w2.heap.size, 8, none⟩ = some (.bool x.hd) := HCL.out 8 _ rfl
            have hsX := HBX.out.size
            rw [hW2]
            clear hW2 HB2 HO2 HCL a0 a1 a2 a3 a4 a5 a6 a7 a8 l0 l1
            generalize w2.heap.size = B2 at *
            go_wp2
            go_loopw [79] (fun i wx => ∃ j : Nat, j ≤ k ∧ i = .int .i64 j ∧ Below W2.heap.size W2 wx) (fun i _ => k - (intOf i).toNat)
            case atStart => exact ⟨0, Nat.zero_le _, rfl, Below.refl _ _⟩
            case round =>
              obtain ⟨j, hj, rfl, hBr⟩ := hrel
              have hsr := hBr.size
              have HBr := Lib.hid hBr
              have i0 : wr.cell? ⟨B1, 0, none⟩ = some (.int .i64 y.i) := (hBr.cell (p := ⟨B1, 0, none⟩) hB1).trans n0
              have i1 : wr.cell? ⟨B1, 1, none⟩ = some (.int .i64 y.s) := (hBr.cell (p := ⟨B1, 1, none⟩) hB1).trans n1
              have hB1r : B1 < wr.heap.size := Nat.lt_of_lt_of_le hB1 hsr
              have g0 : wr.cell? ⟨B2, 0, none⟩ = some (.int .i64 x.i) := (hBr.cell (p := ⟨B2, 0, none⟩) hlW).trans d0
              have g1 : wr.cell? ⟨B2, 1, none⟩ = some (.int .i64 x.s) := (hBr.cell (p := ⟨B2, 1, none⟩) hlW).trans d1
              have g2 : wr.cell? ⟨B2, 2, none⟩ = some (.int .i64 x.t) := (hBr.cell (p := ⟨B2, 2, none⟩) hlW).trans d2
              have g3 : wr.cell? ⟨B2, 3, none⟩ = some (.int .i64 x.a) := (hBr.cell (p := ⟨B2, 3, none⟩) hlW).trans d3
              have g4 : wr.cell? ⟨B2, 4, none⟩ = some (.int .i64 x.lo) := (hBr.cell (p := ⟨B2, 4, none⟩) hlW).trans d4
              have g5 : wr.cell? ⟨B2, 5, none⟩ = some (.int .i64 x.hi) := (hBr.cell (p := ⟨B2, 5, none⟩) hlW).trans d5
              have g6 : wr.cell? ⟨B2, 6, none⟩ = some (.int .i64 x.v) := (hBr.cell (p := ⟨B2, 6, none⟩) hlW).trans d6
              have g7 : wr.cell? ⟨B2, 7, none⟩ = some (.bool x.mp) := (hBr.cell (p := ⟨B2, 7, none⟩) hlW).trans d7
              have g8 : wr.cell? ⟨B2, 8, none⟩ = some (.bool x.hd) := (hBr.cell (p := ⟨B2, 8, none⟩) hlW).trans d8
              clear hBr
              by_cases hjk : j < k
              · obtain ⟨z, hz⟩ := getElem?_of_lt (l := ms) (k := j) (by rw [HN'.out]; omega)
                obtain ⟨b', off', hAe, hbl2, z0, z1⟩ := (HA'.out.below (HBX.out.trans (HBr.out.mono hsX)) (Nat.le_refl _)).it hz
                obtain ⟨rfl, rfl⟩ : b = b' ∧ off = off' := by simpa using hAe
                have HZ := Lib.hid hz
                have hbr : b < wr.heap.size := by omega
                clear hz hAe g0 g1 g2 g3 g4 g5 g6 g7 g8
                go_wp2
                go_roundw
                case rel => exact ⟨j + 1, by omega, by go_num, HBr.out.alloc hsr _⟩
                case measure => simp [intOf]; omega
              · have hjk' : j = k := by omega
                subst hjk'
                have HE : Hid (pick l noChk (j + 1) (ms.drop (j + 1)) (acc ++ [x]) = (f, ec)) := (pick_step HY.out HLO.out HX.out rfl).symm.trans HP.out
                have HO3 : Hid (wr.ownsRow w.heap.size 144 9 u12 j (ocells acc)) := own_below HOX.out HBr.out
                have HB3 : Hid (Below w.heap.size w wr) := HBX.out.trans (HBr.out.mono hsX)
                have hs3 := HB3.out.size
                go_wp2_with (at_builtin; refine wpList_append_own _ rfl _ _ 88 rfl w.heap.size 144 i52 _ 9 64 Try.underlying88 hi hz0 hz1 hz2 rfl (by omega) _ _ _ rfl (HO3.out.alloc _) ⟨wr.heap.size, 0, none⟩ 1 1 x.cells rfl rfl (cells_new _ _ _ _ rfl) HX1.out (by unfold maxLen; omega) (by omega) (by simp; omega) ?_)
                intro v' w4 hown4 hgrow4 _
                have HO4 : Hid (w4.ownsRow w.heap.size 144 9 v' (j + 1) (ocells (acc ++ [x]))) := by
                  rw [HOC.out]
                  exact hown4
                have HB4 : Hid (Below w.heap.size w w4) := (HB3.out.alloc hs3 _).grown hgrow4 (by simp; omega) (fun k hk => (HO3.out.lt k hk).1)
                have hs4 := HB4.out.size
                have hv : ∀ q, u12.ownBlock = some q → q ≠ B2 := by
                  intro q hq
                  have := HOX.out.lt q hq
                  exact fun e => HNB.out (e ▸ hq)
                have c2 : w4.cell? ⟨B2, 2, none⟩ = some (.int .i64 x.t) := by
                  have h1 : (wr.alloc (.cells #[.int .i64 x.i, .int .i64 x.s, .int .i64 x.t, .int .i64 x.a, .int .i64 x.lo, .int .i64 x.hi, .int .i64 x.v, .bool x.mp, .bool x.hd] 144)).cell? ⟨B2, 2, none⟩ = some (.int .i64 x.t) := (((Below.refl wr.heap.size wr).alloc (Nat.le_refl _) _).cell (p := ⟨B2, 2, none⟩) (Nat.lt_of_lt_of_le hlW hsr)).trans g2
                  rw [← h1]
                  exact (hgrow4.cell h1 (Ne.symm HNB.out)).trans h1.symm
                clear hown4 hgrow4 g0 g1 g2 g3 g4 g5 g6 g7 g8
                go_wp2_with (fail)
                (with_reducible refine (refbits_any x.t w4).mono ?_)
                rintro e0 w5 ⟨rfl, rfl⟩
                rw [HBO.out]
                go_wp2
                go_roundw
                case rel => exact ⟨j + 1, acc ++ [x], by omega, by go_num, by rw [HS.out]; push_cast; rfl, by simp [HLEN.out], HO4.out, HE.out, HB4.out⟩
                case measure => simp [intOf]; omega
        · have hkn : k = n' := by omega
          subst hkn
          have hp := pick_nil (l := l) (chk := noChk) (m := ms) (acc := acc) HN'.out.symm
          rw [HP.out] at hp
          by_cases hs : 256 < sumB acc
          · rw [if_pos hs] at hp
            simp only [Prod.mk.injEq] at hp
            obtain ⟨rfl, rfl⟩ := hp
            go_wp2
            go_ret3
            exact ⟨none, 0, rfl, Nat.le_refl _, Nat.zero_le _, fun h => absurd rfl h, HB.out⟩
          · rw [if_neg hs] at hp
            simp only [Prod.mk.injEq] at hp
            obtain ⟨rfl, rfl⟩ := hp
            obtain ⟨Ar, cr, rfl, hr1, hr2, hr⟩ := own_read HO.out
            have HR := Lib.hid hr
            clear hr HO
            go_wp2
            go_ret3
            exact ⟨Ar, cr, by rw [HLEN.out]; rfl, by rw [HLEN.out]; exact hr1, hr2, HR.out, HB.out⟩
  · rw [if_pos he] at hq
    simp only [Prod.mk.injEq] at hq
    obtain ⟨rfl, rfl⟩ := hq
    have hne : (k0 != 0) = true := by simp [he]
    clear he
    go_enter Try.func88, Try.ntmps88
    go_wp2_with (fail)
    (with_reducible refine (refCheck_any A n c l _ HA.out HN.out hc HCC.out).mono ?_)
    rintro e w1 ⟨rfl, hb⟩
    rw [HK0.out]
    have HB := Lib.hid hb
    clear hb
    go_wp2
    go_ret3
    exact ⟨none, 0, rfl, Nat.le_refl _, Nat.zero_le _, fun h => absurd rfl h, HB.out⟩

set_option maxRecDepth 100000 in
set_option maxHeartbeats 8000000 in
theorem reffind_yes (A A' : Option Addr) (n c n' c' : Nat) (l : List Ob) (ms : List It) (ot : Bool) (w : World) (hA : Rd w w.heap.size A (ocells l)) (hn : l.length = n) (hc : n ≤ c) (hcc : c ≤ maxLen)
    (hA' : Rd w w.heap.size A' (mcells ms)) (hn' : ms.length = n') (hc' : n' ≤ c') (hcc' : c' ≤ maxLen) :
    Calls Try.prog 88 #[.slice A n c, .slice A' n' c', .bool true, .bool ot] w fun e w' => ∃ Ar cr, e = .returned (.tuple #[.slice Ar (findM l (chkO ms ot) ms).1.length cr, .int .i64 (sumB (findM l (chkO ms ot) ms).1 : Nat), .int .i64 (findM l (chkO ms ot) ms).2]) ∧ (findM l (chkO ms ot) ms).1.length ≤ cr ∧ cr ≤ maxLen ∧
      Rd w' w'.heap.size Ar (ocells (findM l (chkO ms ot) ms).1) ∧ Below w.heap.size w w' := by
  obtain ⟨q, hq⟩ : ∃ q, findM l (chkO ms ot) ms = q := ⟨_, rfl⟩
  rw [hq]
  obtain ⟨f, ec⟩ := q
  simp only
  have HN := Lib.hid hn
  have HA := Lib.hid hA
  have HN' := Lib.hid hn'
  have HA' := Lib.hid hA'
  have HCC := Lib.hid hcc
  have hcm := hcc
  have hcm' := hcc'
  unfold maxLen at hcm hcm'
  unfold findM at hq
  obtain ⟨i52, hi, hz0, hz1, hz2⟩ := info_parts info52
  obtain ⟨k0, hk0⟩ : ∃ k, checkO l = k := ⟨_, rfl⟩
  rw [hk0] at hq
  have HK0 := Lib.hid hk0
  clear hn hA hn' hA' hcc hcc' hk0
  by_cases he : k0 = 0
  · subst he
    rw [if_neg (by simp)] at hq
    by_cases h16 : 16 < n'
    · rw [if_pos (by rw [HN'.out]; exact h16)] at hq
      simp only [Prod.mk.injEq] at hq
      obtain ⟨rfl, rfl⟩ := hq
      go_enter Try.func88, Try.ntmps88
      go_wp2_with (fail)
      (with_reducible refine (refCheck_any A n c l _ HA.out HN.out hc HCC.out).mono ?_)
      rintro e w1 ⟨rfl, hb⟩
      rw [HK0.out]
      have HB := Lib.hid hb
      clear hb
      go_wp2
      go_ret3
      exact ⟨none, 0, rfl, Nat.le_refl _, Nat.zero_le _, fun h => absurd rfl h, HB.out⟩
    · rw [if_neg (by rw [HN'.out]; exact h16)] at hq
      have HQ : Hid (pick l (chkO ms ot) 0 ms [] = (f, ec)) := hq
      clear hq
      go_enter Try.func88, Try.ntmps88
      go_wp2_with (fail)
      (with_reducible refine (refCheck_any A n c l _ HA.out HN.out hc HCC.out).mono ?_)
      rintro e w1 ⟨rfl, hb⟩
      rw [HK0.out]
      have HB := Lib.hid hb
      have hs1 := hb.size
      clear hb
      go_wp2
      go_loopw [12, 13, 31] (fun o sm i wr => ∃ (k : Nat) (acc : List Ob), k ≤ n' ∧ i = .int .i64 k ∧ sm = .int .i64 (sumB acc : Nat) ∧ acc.length = k ∧ wr.ownsRow w.heap.size 144 9 o k (ocells acc) ∧ pick l (chkO ms ot) k (ms.drop k) acc = (f, ec) ∧ Below w.heap.size w wr) (fun _ _ i _ => n' - (intOf i).toNat)
      case atStart => exact ⟨0, [], Nat.zero_le _, rfl, rfl, rfl, World.ownsRow_nil .., HQ.out, HB.out⟩
      case round =>
        obtain ⟨k, acc, hk, rfl, rfl, hlen, hown, hP, hB⟩ := hrel
        have hsz : w.heap.size ≤ wr.heap.size := hB.size
        have hle : sumB acc ≤ 512 := by
          have := sumB_le acc
          omega
        have HB := Lib.hid hB
        have HP := Lib.hid hP
        have HLEN := Lib.hid hlen
        have HO := Lib.hid hown
        clear hB hP hlen hown
        by_cases hlt : k < n'
        · obtain ⟨y, hy⟩ := getElem?_of_lt (l := ms) (k := k) (by rw [HN'.out]; exact hlt)
          obtain ⟨b, off, rfl, hbl, c0, c1⟩ := (HA'.out.below HB.out (Nat.le_refl _)).it hy
          have HY := Lib.hid hy
          clear hy
          go_upto_region 11 with (fail)
          obtain ⟨W, hW⟩ : ∃ W, wr.alloc (.cells #[.int .i64 y.i, .int .i64 y.s] 97) = W := ⟨_, rfl⟩
          have HBW : Hid (Below w.heap.size w W) := by rw [← hW]; exact HB.out.alloc hsz _
          have m0 : W.cell? ⟨wr.heap.size, 0, none⟩ = some (.int .i64 y.i) := by rw [← hW]; simp
          have m1 : W.cell? ⟨wr.heap.size, 1, none⟩ = some (.int .i64 y.s) := by rw [← hW]; simp
          have HOW : Hid (W.ownsRow w.heap.size 144 9 u12 k (ocells acc)) := by rw [← hW]; exact HO.out.alloc _
          have hlB1 : wr.heap.size < W.heap.size := by rw [← hW]; simp
          have hsW : w.heap.size ≤ W.heap.size := HBW.out.size
          rw [hW]
          clear hW c0 c1 HO HB
          generalize wr.heap.size = B1 at *
          cases hp : locO l y.i y.s with
          | none =>
            have HE : Hid (([], ferr l y.i) = (f, ec)) := (pick_miss HY.out hp).symm.trans HP.out
            have HV : Hid (findR l y.i y.s = .tuple #[.int .i64 0, .int .i64 (ferr l y.i)]) := by show _ = _; unfold findR; rw [hp]
            have hfe : (ferr l y.i != 0) = true := by simp [ferr_ne]
            generalize ferr l y.i = fe at *
            clear hp
            go_wp2_with (fail)
            (with_reducible refine (refFind_any A n c l y.i y.s W ((HA.out.below HBW.out (Nat.le_refl _)).more hsW) HN.out hc HCC.out).mono ?_)
            rintro e w2 ⟨rfl, hb⟩
            rw [HV.out]
            have HB2 : Hid (Below w.heap.size w w2) := HBW.out.trans (hb.mono hsW)
            clear hb
            go_wp2
            go_ret3
            obtain ⟨e1, e2⟩ := Prod.mk.injEq .. ▸ HE.out
            subst e1 e2
            exact ⟨none, 0, rfl, Nat.le_refl _, Nat.zero_le _, fun h => absurd rfl h, HB2.out⟩
          | some p =>
            obtain ⟨x, hx, hkey⟩ := locO_some hp
            clear hkey
            have hpl : p < n := by rw [← HN.out]; exact locO_lt hp
            have HV : Hid (findR l y.i y.s = .tuple #[.int .i64 p, .int .i64 0]) := by show _ = _; unfold findR; rw [hp]
            have HLO := Lib.hid hp
            have HX := Lib.hid hx
            have hb1 := bitsO_le x.t
            have HS := Lib.hid (sumB_snoc acc x)
            obtain ⟨bo, hbo⟩ : ∃ q, bitsO x.t = q := ⟨_, rfl⟩
            rw [hbo] at hb1 HS
            have HBO := Lib.hid hbo
            have HOC : Hid (ocells (acc ++ [x]) = ocells acc ++ x.cells) := by show _ = _; rw [ocells_append, ocells_single]
            have HX1 : Hid (∀ u ∈ x.cells, u.oneCell' = true) := ob_one x
            generalize sumB acc = s at *
            clear hp hbo
            go_wp2_with (fail)
            (with_reducible refine (refFind_any A n c l y.i y.s W ((HA.out.below HBW.out (Nat.le_refl _)).more hsW) HN.out hc HCC.out).mono ?_)
            rintro e w2 ⟨rfl, hb⟩
            rw [HV.out]
            have HB2 : Hid (Below w.heap.size w w2) := HBW.out.trans (hb.mono hsW)
            have HO2 : Hid (w2.ownsRow w.heap.size 144 9 u12 k (ocells acc)) := own_below HOW.out hb
            have l0 : w2.cell? ⟨B1, 0, none⟩ = some (.int .i64 y.i) := (hb.cell (p := ⟨B1, 0, none⟩) hlB1).trans m0
            have l1 : w2.cell? ⟨B1, 1, none⟩ = some (.int .i64 y.s) := (hb.cell (p := ⟨B1, 1, none⟩) hlB1).trans m1
            have hlB2 : B1 < w2.heap.size := Nat.lt_of_lt_of_le hlB1 hb.size
            have hs2 := HB2.out.size
            obtain ⟨bb, oo, rfl, hbbl, a0, a1, a2, a3, a4, a5, a6, a7, a8⟩ := (HA.out.below HB2.out (Nat.le_refl _)).ob hx
            have hp0 : (0 : Int) ≤ (p : Int) := by omega
            have hp1 : (p : Int) < (n : Int) := by omega
            clear hb HOW HBW m0 m1 hx
            go_upto_region 15 with (fail)
            obtain ⟨W2, hW2⟩ : ∃ W, w2.alloc (.cells #[.int .i64 x.i, .int .i64 x.s, .int .i64 x.t, .int .i64 x.a, .int .i64 x.lo, .int .i64 x.hi, .int .i64 x.v, .bool x.mp, .bool x.hd] 144) = W := ⟨_, rfl⟩
            have HBX : Hid (Below w.heap.size w W2) := by rw [← hW2]; exact HB2.out.alloc hs2 _
            have HOX : Hid (W2.ownsRow w.heap.size 144 9 u12 k (ocells acc)) := by rw [← hW2]; exact HO2.out.alloc _
            have HNB : Hid (u12.ownBlock ≠ some w2.heap.size) := by
              intro e
              have := (HO2.out.lt _ e).2
              omega
            have hlW : w2.heap.size < W2.heap.size := by rw [← hW2]; simp
            have hB1 : B1 < W2.heap.size := by omega
            have n0 : W2.cell? ⟨B1, 0, none⟩ = some (.int .i64 y.i) := by rw [← hW2]; exact (((Below.refl w2.heap.size w2).alloc (Nat.le_refl _) _).cell (p := ⟨B1, 0, none⟩) hlB2).trans l0
            have n1 : W2.cell? ⟨B1, 1, none⟩ = some (.int .i64 y.s) := by rw [← hW2]; exact (((Below.refl w2.heap.size w2).alloc (Nat.le_refl _) _).cell (p := ⟨B1, 1, none⟩) hlB2).trans l1
            have HCL : Hid (∀ j u, x.cells[j]? = some u → W2.cell? ((⟨w2.heap.size, 0, none⟩ : Addr).add j) = some u) := by
              rw [← hW2]
              exact cells_new_at w2 _ 144 x.cells _ rfl rfl
            have d0 : W2.cell? ⟨w2.heap.size, 0, none⟩ = some (.int .i64 x.i) := HCL.out 0 _ rfl
            have d1 : W2.cell? ⟨w2.heap.size, 1, none⟩ = some (.int .i64 x.s) := HCL.out 1 _ rfl
            have d2 : W2.cell? ⟨w2.heap.size, 2, none⟩ = some (.int .i64 x.t) := HCL.out 2 _ rfl
            have d3 : W2.cell? ⟨w2.heap.size, 3, none⟩ = some (.int .i64 x.a) := HCL.out 3 _ rfl
            have d4 : W2.cell? ⟨w2.heap.size, 4, none⟩ = some (.int .i64 x.lo) := HCL.out 4 _ rfl
            have d5 : W2.cell? ⟨w2.heap.size, 5, none⟩ = some (.int .i64 x.hi) := HCL.out 5 _ rfl
            have d6 : W2.cell? ⟨w2.heap.size, 6, none⟩ = some (.int .i64 x.v) := HCL.out 6 _ rfl
            have d7 : W2.cell? ⟨w2.heap.size, 7, none⟩ = some (.bool x.mp) := HCL.out 7 _ rfl
            have d8 : W2.cell? ⟨w2.heap.size, 8, none⟩ = some (.bool x.hd) := HCL.out 8 _ rfl
            have hsX := HBX.out.size
            rw [hW2]
            clear hW2 HB2 HO2 HCL a0 a1 a2 a3 a4 a5 a6 a7 a8 l0 l1
            generalize w2.heap.size = B2 at *
            have HGD : Hid (ms.getD k default = y) := by rw [Hid, List.getD_eq_getElem?_getD, HY.out]; rfl
            by_cases hmp : x.mp = false
            · have HC : Hid (chkO ms ot k x = 21) := by unfold chkO; rw [Hid, if_pos (.inl hmp)]
              rw [hmp] at d7
              clear hmp
              have HE : Hid (([], 21) = (f, ec)) := (pick_bad HY.out HLO.out HX.out (chk := chkO ms ot) (k := k) (acc := acc) (by rw [HC.out]; decide)).symm.trans HP.out |> fun h => by rw [HC.out] at h; exact h
              go_wp2
              go_ret3
              obtain ⟨e1, e2⟩ := Prod.mk.injEq .. ▸ HE.out
              subst e1 e2
              exact ⟨none, 0, rfl, Nat.le_refl _, Nat.zero_le _, fun h => absurd rfl h, HBX.out⟩
            · have hmp' : x.mp = true := by simpa using hmp
              cases ot with
              | true =>
                by_cases ha : x.a = 2
                · have HC : Hid (chkO ms true k x = 21) := by unfold chkO; rw [Hid, if_pos (.inr (.inl ⟨rfl, ha⟩))]
                  rw [ha] at d3
                  clear ha hmp
                  have HE : Hid (([], 21) = (f, ec)) := (pick_bad HY.out HLO.out HX.out (chk := chkO ms true) (k := k) (acc := acc) (by rw [HC.out]; decide)).symm.trans HP.out |> fun h => by rw [HC.out] at h; exact h
                  go_wp2
                  go_ret3
                  obtain ⟨e1, e2⟩ := Prod.mk.injEq .. ▸ HE.out
                  subst e1 e2
                  exact ⟨none, 0, rfl, Nat.le_refl _, Nat.zero_le _, fun h => absurd rfl h, HBX.out⟩
                · have HC : Hid (chkO ms true k x = if y ∈ ms.take k then 6 else 0) := by unfold chkO; rw [Hid, if_neg (by simp [hmp, ha]), HGD.out]
                  have ha' : (x.a == 2) = false := by simpa using ha
                  clear ha hmp
                  go_upto_region 17 with (fail)
                  clear ha' hmp'
                  go_wp2
                  go_loopw [79] (fun i wx => ∃ j : Nat, j ≤ k ∧ i = .int .i64 j ∧ y ∉ ms.take j ∧ Below W2.heap.size W2 wx) (fun i _ => k - (intOf i).toNat)
                  case atStart => exact ⟨0, Nat.zero_le _, rfl, by simp, Below.refl _ _⟩
                  case round =>
                    obtain ⟨j, hj, rfl, hno, hBr⟩ := hrel
                    have hsr := hBr.size
                    have HBr := Lib.hid hBr
                    have i0 : wr.cell? ⟨B1, 0, none⟩ = some (.int .i64 y.i) := (hBr.cell (p := ⟨B1, 0, none⟩) hB1).trans n0
                    have i1 : wr.cell? ⟨B1, 1, none⟩ = some (.int .i64 y.s) := (hBr.cell (p := ⟨B1, 1, none⟩) hB1).trans n1
                    have hB1r : B1 < wr.heap.size := Nat.lt_of_lt_of_le hB1 hsr
                    have HNO := Lib.hid hno
                    clear hno
                    have g0 : wr.cell? ⟨B2, 0, none⟩ = some (.int .i64 x.i) := (hBr.cell (p := ⟨B2, 0, none⟩) hlW).trans d0
                    have g1 : wr.cell? ⟨B2, 1, none⟩ = some (.int .i64 x.s) := (hBr.cell (p := ⟨B2, 1, none⟩) hlW).trans d1
                    have g2 : wr.cell? ⟨B2, 2, none⟩ = some (.int .i64 x.t) := (hBr.cell (p := ⟨B2, 2, none⟩) hlW).trans d2
                    have g3 : wr.cell? ⟨B2, 3, none⟩ = some (.int .i64 x.a) := (hBr.cell (p := ⟨B2, 3, none⟩) hlW).trans d3
                    have g4 : wr.cell? ⟨B2, 4, none⟩ = some (.int .i64 x.lo) := (hBr.cell (p := ⟨B2, 4, none⟩) hlW).trans d4
                    have g5 : wr.cell? ⟨B2, 5, none⟩ = some (.int .i64 x.hi) := (hBr.cell (p := ⟨B2, 5, none⟩) hlW).trans d5
                    have g6 : wr.cell? ⟨B2, 6, none⟩ = some (.int .i64 x.v) := (hBr.cell (p := ⟨B2, 6, none⟩) hlW).trans d6
                    have g7 : wr.cell? ⟨B2, 7, none⟩ = some (.bool x.mp) := (hBr.cell (p := ⟨B2, 7, none⟩) hlW).trans d7
                    have g8 : wr.cell? ⟨B2, 8, none⟩ = some (.bool x.hd) := (hBr.cell (p := ⟨B2, 8, none⟩) hlW).trans d8
                    clear hBr
                    by_cases hjk : j < k
                    · obtain ⟨z, hz⟩ := getElem?_of_lt (l := ms) (k := j) (by rw [HN'.out]; omega)
                      obtain ⟨b', off', hAe, hbl2, z0, z1⟩ := (HA'.out.below (HBX.out.trans (HBr.out.mono hsX)) (Nat.le_refl _)).it hz
                      obtain ⟨rfl, rfl⟩ : b = b' ∧ off = off' := by simpa using hAe
                      have HZ := Lib.hid hz
                      have hbr : b < wr.heap.size := by omega
                      clear hz hAe g0 g1 g2 g3 g4 g5 g6 g7 g8
                      by_cases he : y = z
                      · subst he
                        have HE : Hid (([], 6) = (f, ec)) := by
                          refine Eq.trans ?_ HP.out
                          rw [pick_bad HY.out HLO.out HX.out (chk := chkO ms true) (k := k) (acc := acc) (by rw [HC.out, if_pos (List.mem_of_getElem? (i := j) (by rw [List.getElem?_take, if_pos hjk]; exact HZ.out))]; decide)]
                          rw [HC.out, if_pos (List.mem_of_getElem? (i := j) (by rw [List.getElem?_take, if_pos hjk]; exact HZ.out))]
                        go_wp2
                        go_ret3
                        obtain ⟨e1, e2⟩ := Prod.mk.injEq .. ▸ HE.out
                        subst e1 e2
                        exact ⟨none, 0, rfl, Nat.le_refl _, Nat.zero_le _, fun h => absurd rfl h, (HBX.out.trans (HBr.out.mono hsX)).alloc (by omega) _⟩
                      · have HNE : Hid (y ∉ ms.take (j + 1)) := by
                          rw [take_snoc_get ms j z HZ.out, Hid, List.mem_append, List.mem_singleton]
                          rintro (h | h)
                          · exact HNO.out h
                          · exact he h
                        have hcmp : (y.i == z.i && y.s == z.s) = false := by
                          rw [Bool.eq_false_iff]
                          intro h
                          simp only [Bool.and_eq_true, beq_iff_eq] at h
                          apply he
                          cases y; cases z
                          simp only at h
                          rw [h.1, h.2]
                        have hcmp2 : y.i = z.i → ¬ y.s = z.s := by
                          intro h1 h2
                          rw [h1, h2] at hcmp
                          simp at hcmp
                        clear he
                        by_cases hi1 : y.i = z.i
                        · have hs1 : (y.s == z.s) = false := by simpa using hcmp2 hi1
                          clear hcmp hcmp2
                          rw [← hi1] at z0
                          clear hi1
                          go_wp2
                          go_roundw
                          case rel => exact ⟨j + 1, by omega, by go_num, HNE.out, HBr.out.alloc hsr _⟩
                          case measure => simp [intOf]; omega
                        · have hi2 : (y.i == z.i) = false := by simpa using hi1
                          clear hcmp hcmp2 hi1
                          go_wp2
                          go_roundw
                          case rel => exact ⟨j + 1, by omega, by go_num, HNE.out, HBr.out.alloc hsr _⟩
                          case measure => simp [intOf]; omega
                    · have hjk' : j = k := by omega
                      subst hjk'
                      have HE : Hid (pick l (chkO ms true) (j + 1) (ms.drop (j + 1)) (acc ++ [x]) = (f, ec)) := (pick_step HY.out HLO.out HX.out (by rw [HC.out, if_neg HNO.out])).symm.trans HP.out
                      have HO3 : Hid (wr.ownsRow w.heap.size 144 9 u12 j (ocells acc)) := own_below HOX.out HBr.out
                      have HB3 : Hid (Below w.heap.size w wr) := HBX.out.trans (HBr.out.mono hsX)
                      have hs3 := HB3.out.size
                      go_wp2_with (at_builtin; refine wpList_append_own _ rfl _ _ 88 rfl w.heap.size 144 i52 _ 9 64 Try.underlying88 hi hz0 hz1 hz2 rfl (by omega) _ _ _ rfl (HO3.out.alloc _) ⟨wr.heap.size, 0, none⟩ 1 1 x.cells rfl rfl (cells_new _ _ _ _ rfl) HX1.out (by unfold maxLen; omega) (by omega) (by simp; omega) ?_)
                      intro v' w4 hown4 hgrow4 _
                      have HO4 : Hid (w4.ownsRow w.heap.size 144 9 v' (j + 1) (ocells (acc ++ [x]))) := by
                        rw [HOC.out]
                        exact hown4
                      have HB4 : Hid (Below w.heap.size w w4) := (HB3.out.alloc hs3 _).grown hgrow4 (by simp; omega) (fun k hk => (HO3.out.lt k hk).1)
                      have hs4 := HB4.out.size
                      have hv : ∀ q, u12.ownBlock = some q → q ≠ B2 := by
                        intro q hq
                        have := HOX.out.lt q hq
                        exact fun e => HNB.out (e ▸ hq)
                      have c2 : w4.cell? ⟨B2, 2, none⟩ = some (.int .i64 x.t) := by
                        have h1 : (wr.alloc (.cells #[.int .i64 x.i, .int .i64 x.s, .int .i64 x.t, .int .i64 x.a, .int .i64 x.lo, .int .i64 x.hi, .int .i64 x.v, .bool x.mp, .bool x.hd] 144)).cell? ⟨B2, 2, none⟩ = some (.int .i64 x.t) := (((Below.refl wr.heap.size wr).alloc (Nat.le_refl _) _).cell (p := ⟨B2, 2, none⟩) (Nat.lt_of_lt_of_le hlW hsr)).trans g2
                        rw [← h1]
                        exact (hgrow4.cell h1 (Ne.symm HNB.out)).trans h1.symm
                      clear hown4 hgrow4 g0 g1 g2 g3 g4 g5 g6 g7 g8
                      go_wp2_with (fail)
                      (with_reducible refine (refbits_any x.t w4).mono ?_)
                      rintro e0 w5 ⟨rfl, rfl⟩
                      rw [HBO.out]
                      go_wp2
                      go_roundw
                      case rel => exact ⟨j + 1, acc ++ [x], by omega, by go_num, by rw [HS.out]; push_cast; rfl, by simp [HLEN.out], HO4.out, HE.out, HB4.out⟩
                      case measure => simp [intOf]; omega
              | false =>
                by_cases ha : x.a = 0
                · have HC : Hid (chkO ms false k x = 21) := by unfold chkO; rw [Hid, if_pos (.inr (.inr ⟨rfl, ha⟩))]
                  rw [ha] at d3
                  clear ha hmp
                  have HE : Hid (([], 21) = (f, ec)) := (pick_bad HY.out HLO.out HX.out (chk := chkO ms false) (k := k) (acc := acc) (by rw [HC.out]; decide)).symm.trans HP.out |> fun h => by rw [HC.out] at h; exact h
                  go_wp2
                  go_ret3
                  obtain ⟨e1, e2⟩ := Prod.mk.injEq .. ▸ HE.out
                  subst e1 e2
                  exact ⟨none, 0, rfl, Nat.le_refl _, Nat.zero_le _, fun h => absurd rfl h, HBX.out⟩
                · have HC : Hid (chkO ms false k x = if y ∈ ms.take k then 6 else 0) := by unfold chkO; rw [Hid, if_neg (by simp [hmp, ha]), HGD.out]
                  have ha' : (x.a == 0) = false := by simpa using ha
                  clear ha hmp
                  go_upto_region 17 with (fail)
                  clear ha' hmp'
                  go_wp2
                  go_loopw [79] (fun i wx => ∃ j : Nat, j ≤ k ∧ i = .int .i64 j ∧ y ∉ ms.take j ∧ Below W2.heap.size W2 wx) (fun i _ => k - (intOf i).toNat)
                  case atStart => exact ⟨0, Nat.zero_le _, rfl, by simp, Below.refl _ _⟩
                  case round =>
                    obtain ⟨j, hj, rfl, hno, hBr⟩ := hrel
                    have hsr := hBr.size
                    have HBr := Lib.hid hBr
                    have i0 : wr.cell? ⟨B1, 0, none⟩ = some (.int .i64 y.i) := (hBr.cell (p := ⟨B1, 0, none⟩) hB1).trans n0
                    have i1 : wr.cell? ⟨B1, 1, none⟩ = some (.int .i64 y.s) := (hBr.cell (p := ⟨B1, 1, none⟩) hB1).trans n1
                    have hB1r : B1 < wr.heap.size := Nat.lt_of_lt_of_le hB1 hsr
                    have HNO := Lib.hid hno
                    clear hno
                    have g0 : wr.cell? ⟨B2, 0, none⟩ = some (.int .i64 x.i) := (hBr.cell (p := ⟨B2, 0, none⟩) hlW).trans d0
                    have g1 : wr.cell? ⟨B2, 1, none⟩ = some (.int .i64 x.s) := (hBr.cell (p := ⟨B2, 1, none⟩) hlW).trans d1
                    have g2 : wr.cell? ⟨B2, 2, none⟩ = some (.int .i64 x.t) := (hBr.cell (p := ⟨B2, 2, none⟩) hlW).trans d2
                    have g3 : wr.cell? ⟨B2, 3, none⟩ = some (.int .i64 x.a) := (hBr.cell (p := ⟨B2, 3, none⟩) hlW).trans d3
                    have g4 : wr.cell? ⟨B2, 4, none⟩ = some (.int .i64 x.lo) := (hBr.cell (p := ⟨B2, 4, none⟩) hlW).trans d4
                    have g5 : wr.cell? ⟨B2, 5, none⟩ = some (.int .i64 x.hi) := (hBr.cell (p := ⟨B2, 5, none⟩) hlW).trans d5
                    have g6 : wr.cell? ⟨B2, 6, none⟩ = some (.int .i64 x.v) := (hBr.cell (p := ⟨B2, 6, none⟩) hlW).trans d6
                    have g7 : wr.cell? ⟨B2, 7, none⟩ = some (.bool x.mp) := (hBr.cell (p := ⟨B2, 7, none⟩) hlW).trans d7
                    have g8 : wr.cell? ⟨B2, 8, none⟩ = some (.bool x.hd) := (hBr.cell (p := ⟨B2, 8, none⟩) hlW).trans d8
                    clear hBr
                    by_cases hjk : j < k
                    · obtain ⟨z, hz⟩ := getElem?_of_lt (l := ms) (k := j) (by rw [HN'.out]; omega)
                      obtain ⟨b', off', hAe, hbl2, z0, z1⟩ := (HA'.out.below (HBX.out.trans (HBr.out.mono hsX)) (Nat.le_refl _)).it hz
                      obtain ⟨rfl, rfl⟩ : b = b' ∧ off = off' := by simpa using hAe
                      have HZ := Lib.hid hz
                      have hbr : b < wr.heap.size := by omega
                      clear hz hAe g0 g1 g2 g3 g4 g5 g6 g7 g8
                      by_cases he : y = z
                      · subst he
                        have HE : Hid (([], 6) = (f, ec)) := by
                          refine Eq.trans ?_ HP.out
                          rw [pick_bad HY.out HLO.out HX.out (chk := chkO ms false) (k := k) (acc := acc) (by rw [HC.out, if_pos (List.mem_of_getElem? (i := j) (by rw [List.getElem?_take, if_pos hjk]; exact HZ.out))]; decide)]
                          rw [HC.out, if_pos (List.mem_of_getElem? (i := j) (by rw [List.getElem?_take, if_pos hjk]; exact HZ.out))]
                        go_wp2
                        go_ret3
                        obtain ⟨e1, e2⟩ := Prod.mk.injEq .. ▸ HE.out
                        subst e1 e2
                        exact ⟨none, 0, rfl, Nat.le_refl _, Nat.zero_le _, fun h => absurd rfl h, (HBX.out.trans (HBr.out.mono hsX)).alloc (by omega) _⟩
                      · have HNE : Hid (y ∉ ms.take (j + 1)) := by
                          rw [take_snoc_get ms j z HZ.out, Hid, List.mem_append, List.mem_singleton]
                          rintro (h | h)
                          · exact HNO.out h
                          · exact he h
                        have hcmp : (y.i == z.i && y.s == z.s) = false := by
                          rw [Bool.eq_false_iff]
                          intro h
                          simp only [Bool.and_eq_true, beq_iff_eq] at h
                          apply he
                          cases y; cases z
                          simp only at h
                          rw [h.1, h.2]
                        have hcmp2 : y.i = z.i → ¬ y.s = z.s := by
                          intro h1 h2
                          rw [h1, h2] at hcmp
                          simp at hcmp
                        clear he
                        by_cases hi1 : y.i = z.i
                        · have hs1 : (y.s == z.s) = false := by simpa using hcmp2 hi1
                          clear hcmp hcmp2
                          rw [← hi1] at z0
                          clear hi1
                          go_wp2
                          go_roundw
                          case rel => exact ⟨j + 1, by omega, by go_num, HNE.out, HBr.out.alloc hsr _⟩
                          case measure => simp [intOf]; omega
                        · have hi2 : (y.i == z.i) = false := by simpa using hi1
                          clear hcmp hcmp2 hi1
                          go_wp2
                          go_roundw
                          case rel => exact ⟨j + 1, by omega, by go_num, HNE.out, HBr.out.alloc hsr _⟩
                          case measure => simp [intOf]; omega
                    · have hjk' : j = k := by omega
                      subst hjk'
                      have HE : Hid (pick l (chkO ms false) (j + 1) (ms.drop (j + 1)) (acc ++ [x]) = (f, ec)) := (pick_step HY.out HLO.out HX.out (by rw [HC.out, if_neg HNO.out])).symm.trans HP.out
                      have HO3 : Hid (wr.ownsRow w.heap.size 144 9 u12 j (ocells acc)) := own_below HOX.out HBr.out
                      have HB3 : Hid (Below w.heap.size w wr) := HBX.out.trans (HBr.out.mono hsX)
                      have hs3 := HB3.out.size
                      go_wp2_with (at_builtin; refine wpList_append_own _ rfl _ _ 88 rfl w.heap.size 144 i52 _ 9 64 Try.underlying88 hi hz0 hz1 hz2 rfl (by omega) _ _ _ rfl (HO3.out.alloc _) ⟨wr.heap.size, 0, none⟩ 1 1 x.cells rfl rfl (cells_new _ _ _ _ rfl) HX1.out (by unfold maxLen; omega) (by omega) (by simp; omega) ?_)
                      intro v' w4 hown4 hgrow4 _
                      have HO4 : Hid (w4.ownsRow w.heap.size 144 9 v' (j + 1) (ocells (acc ++ [x]))) := by
                        rw [HOC.out]
                        exact hown4
                      have HB4 : Hid (Below w.heap.size w w4) := (HB3.out.alloc hs3 _).grown hgrow4 (by simp; omega) (fun k hk => (HO3.out.lt k hk).1)
                      have hs4 := HB4.out.size
                      have hv : ∀ q, u12.ownBlock = some q → q ≠ B2 := by
                        intro q hq
                        have := HOX.out.lt q hq
                        exact fun e => HNB.out (e ▸ hq)
                      have c2 : w4.cell? ⟨B2, 2, none⟩ = some (.int .i64 x.t) := by
                        have h1 : (wr.alloc (.cells #[.int .i64 x.i, .int .i64 x.s, .int .i64 x.t, .int .i64 x.a, .int .i64 x.lo, .int .i64 x.hi, .int .i64 x.v, .bool x.mp, .bool x.hd] 144)).cell? ⟨B2, 2, none⟩ = some (.int .i64 x.t) := (((Below.refl wr.heap.size wr).alloc (Nat.le_refl _) _).cell (p := ⟨B2, 2, none⟩) (Nat.lt_of_lt_of_le hlW hsr)).trans g2
                        rw [← h1]
                        exact (hgrow4.cell h1 (Ne.symm HNB.out)).trans h1.symm
                      clear hown4 hgrow4 g0 g1 g2 g3 g4 g5 g6 g7 g8
                      go_wp2_with (fail)
                      (with_reducible refine (refbits_any x.t w4).mono ?_)
                      rintro e0 w5 ⟨rfl, rfl⟩
                      rw [HBO.out]
                      go_wp2
                      go_roundw
                      case rel => exact ⟨j + 1, acc ++ [x], by omega, by go_num, by rw [HS.out]; push_cast; rfl, by simp [HLEN.out], HO4.out, HE.out, HB4.out⟩
                      case measure => simp [intOf]; omega
        · have hkn : k = n' := by omega
          subst hkn
          have hp := pick_nil (l := l) (chk := (chkO ms ot)) (m := ms) (acc := acc) HN'.out.symm
          rw [HP.out] at hp
          by_cases hs : 256 < sumB acc
          · rw [if_pos hs] at hp
            simp only [Prod.mk.injEq] at hp
            obtain ⟨rfl, rfl⟩ := hp
            go_wp2
            go_ret3
            exact ⟨none, 0, rfl, Nat.le_refl _, Nat.zero_le _, fun h => absurd rfl h, HB.out⟩
          · rw [if_neg hs] at hp
            simp only [Prod.mk.injEq] at hp
            obtain ⟨rfl, rfl⟩ := hp
            obtain ⟨Ar, cr, rfl, hr1, hr2, hr⟩ := own_read HO.out
            have HR := Lib.hid hr
            clear hr HO
            go_wp2
            go_ret3
            exact ⟨Ar, cr, by rw [HLEN.out]; rfl, by rw [HLEN.out]; exact hr1, hr2, HR.out, HB.out⟩
  · rw [if_pos he] at hq
    simp only [Prod.mk.injEq] at hq
    obtain ⟨rfl, rfl⟩ := hq
    have hne : (k0 != 0) = true := by simp [he]
    clear he
    go_enter Try.func88, Try.ntmps88
    go_wp2_with (fail)
    (with_reducible refine (refCheck_any A n c l _ HA.out HN.out hc HCC.out).mono ?_)
    rintro e w1 ⟨rfl, hb⟩
    rw [HK0.out]
    have HB := Lib.hid hb
    clear hb
    go_wp2
    go_ret3
    exact ⟨none, 0, rfl, Nat.le_refl _, Nat.zero_le _, fun h => absurd rfl h, HB.out⟩
end Go.Proofs.Ytjdknddnanopaaa.Bus
