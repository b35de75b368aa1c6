/-
  The statement DictionaryPlays, walked.
-/
import Derived.Test.YteooabcgojadcaaW13
import Derived.Test.YteooabcgojadcaaW12
import Derived.Test.YteooabcgojadcaaStr
namespace Go.Proofs.Yteooabcgojadcaa
open Go.RowKit
set_option linter.unusedVariables false

set_option maxRecDepth 100000 in
set_option maxHeartbeats 1000000 in
theorem dplays_long (A A1 : Option Addr) (n c n1 c1 : Nat) (w : World) (hn : n ≤ maxLen) (hn1 : n1 ≤ maxLen) (h : 200 < n ∨ 60 < n1) :
    Calls Try.prog 8 #[.slice A n c, .slice A1 n1 c1] w fun e w' => e = .returned (.bool true) ∧ Below w.heap.size w w' := by
  unfold maxLen at hn hn1
  by_cases h1 : 200 < n
  · clear h
    go_enter Try.func8, Try.ntmps8
    go_wp2_with (fail)
    refine (awake53_any _).mono ?_
    rintro e w1 ⟨rfl, hb⟩
    have HB := Lib.hid hb
    clear hb
    go_wp2_with (fail)
    refine (awake53_any _).mono ?_
    rintro e w3 ⟨rfl, hb⟩
    have HB3 : Hid (Below w.heap.size w w3) := HB.out.trans (hb.mono HB.out.size)
    clear hb
    go_wp2
    go_ret
    exact ⟨rfl, HB3.out⟩
  · have h2 : 60 < n1 := by omega
    clear h
    go_enter Try.func8, Try.ntmps8
    go_wp2_with (fail)
    refine (awake53_any _).mono ?_
    rintro e w1 ⟨rfl, hb⟩
    have HB := Lib.hid hb
    clear hb
    go_wp2_with (fail)
    refine (awake53_any _).mono ?_
    rintro e w3 ⟨rfl, hb⟩
    have HB3 : Hid (Below w.heap.size w w3) := HB.out.trans (hb.mono HB.out.size)
    clear hb
    go_wp2
    go_ret
    exact ⟨rfl, HB3.out⟩

set_option maxRecDepth 100000 in
set_option maxHeartbeats 1000000 in
theorem dplays_bad (A A1 : Option Addr) (n c n1 c1 : Nat) (l : List Ob) (w : World) (hA : Rd w w.heap.size A (ocells l)) (hn : l.length = n) (hc : n ≤ c) (hcc : c ≤ maxLen) (hn1 : n1 ≤ maxLen) (h200 : n ≤ 200) (h60 : n1 ≤ 60) (k : Int) (hk : checkO l = k) (hk0 : k ≠ 0) :
    Calls Try.prog 8 #[.slice A n c, .slice A1 n1 c1] w fun e w' => e = .returned (.bool true) ∧ Below w.heap.size w w' := by
  have HA := Lib.hid hA
  have HN := Lib.hid hn
  have HK := Lib.hid hk
  have hk1 : (k != 0) = true := by simpa using hk0
  unfold maxLen at hn1
  clear hk hk0 hA hn
  go_enter Try.func8, Try.ntmps8
  go_wp2_with (fail)
  refine (awake53_any _).mono ?_
  rintro e w1 ⟨rfl, hb⟩
  have HB := Lib.hid hb
  have hs := hb.size
  clear hb
  go_wp2_with (fail)
  (with_reducible refine (refCheck_any A n c l _ ((HA.out.below HB.out (Nat.le_refl _)).more hs) HN.out hc hcc).mono ?_)
  rintro e w2 ⟨rfl, hb⟩
  have HB2 : Hid (Below w.heap.size w w2) := HB.out.trans (hb.mono hs)
  rw [HK.out]
  clear hb
  go_wp2_with (fail)
  refine (awake53_any _).mono ?_
  rintro e w3 ⟨rfl, hb⟩
  have HB3 : Hid (Below w.heap.size w w3) := HB2.out.trans (hb.mono HB2.out.size)
  clear hb
  go_wp2
  go_ret
  exact ⟨rfl, HB3.out⟩

theorem Dic.own {w0 wr : World} {d : Nat} {v : Value} {bp bk : Nat} {l : List Ob} (h : Dic w0 wr d v bp bk l) : ∃ g, (v.ownBlock = none ∨ v.ownBlock = some g) ∧ w0.heap.size ≤ g ∧ g < wr.heap.size := by
  obtain ⟨k, k', h, _⟩ := h
  cases e : v.ownBlock with
  | none => exact ⟨d, .inl rfl, h.hd, World.block_lt_of_cell? wr _ h.c0⟩
  | some g =>
    obtain ⟨h1, h2⟩ := h.row.lt g e
    exact ⟨g, .inr rfl, h1, h2⟩

theorem grown_any {w w' : World} {o : Option Nat} {g : Nat} (h : w.grownBy w' o) (ho : o = none ∨ o = some g) : w.grownBy w' (some g) := by
  rcases ho with rfl | rfl
  · exact ⟨h.os, h.tape, h.output, h.size, fun k hk _ => h.block k hk (by simp)⟩
  · exact h

set_option maxRecDepth 100000 in
set_option maxHeartbeats 8000000 in
theorem dplays_main (A A1 : Option Addr) (n c n1 c1 : Nat) (l : List Ob) (acts : List Ac) (w : World) (hA : Rd w w.heap.size A (ocells l)) (hn : l.length = n) (hc : n ≤ c) (hcc : c ≤ maxLen)
    (hA1 : Rd w w.heap.size A1 (acells acts)) (hn1 : acts.length = n1) (hc1 : n1 ≤ c1) (hcc1 : c1 ≤ maxLen) (hok : ∀ x ∈ acts, x.ok w w.heap.size) (h200 : n ≤ 200) (h60 : n1 ≤ 60) (hk : checkO l = 0) :
    Calls Try.prog 8 #[.slice A n c, .slice A1 n1 c1] w fun e w' => e = .returned (.bool true) ∧ Below w.heap.size w w' := by
  have h1 := ne_nil
  have HA := Lib.hid hA
  have HN := Lib.hid hn
  have HA1 := Lib.hid hA1
  have HN1 := Lib.hid hn1
  have HOK := Lib.hid hok
  have HK := Lib.hid hk
  have HF := Lib.hid (fine_of hk)
  unfold maxLen at hcc1
  clear hk hA hn hA1 hn1 hok
  go_enter Try.func8, Try.ntmps8
  go_wp2_with (fail)
  refine (awake53_any _).mono ?_
  rintro e w0 ⟨rfl, hb⟩
  have HB0 := Lib.hid hb
  have hs0 := hb.size
  clear hb
  go_wp2_with (fail)
  (with_reducible refine (refCheck_any A n c l _ ((HA.out.below HB0.out (Nat.le_refl _)).more hs0) HN.out hc hcc).mono ?_)
  rintro e w1 ⟨rfl, hb⟩
  have HB : Hid (Below w.heap.size w w1) := HB0.out.trans (hb.mono hs0)
  have hs := HB.out.size
  rw [HK.out]
  clear hb HB0 hs0
  go_wp2_with (fail)
  (with_reducible refine (New_ok A n c l _ ((HA.out.below HB.out (Nat.le_refl _)).more hs) HN.out hc hcc HK.out).mono ?_)
  rintro e w2 ⟨d, v, bp, bk, rfl, hD⟩
  have HD : Hid (Dic w1 w2 d v bp bk l) := Dic.of hD HF.out HN.out
  clear hD
  obtain ⟨g, hvg, hg1, hg2⟩ := HD.out.own
  have HVG := Lib.hid hvg
  have HR0 : Hid (RdN w2 g A (ocells l)) := (HA.out.below (HB.out.trans (HD.out.below.mono hs)) (Nat.le_refl _)).apart (by omega) (by omega)
  clear hvg
  go_wp2
  go_loopw [0, 42] (fun sl i wr => ∃ k : Nat, k ≤ n1 ∧ i = .int .i64 k ∧ ∃ l' A' c', sl = .slice A' n c' ∧ n ≤ c' ∧ c' ≤ maxLen ∧ RdN wr g A' (ocells l') ∧ l'.length = n ∧ Dic w1 wr d v bp bk l' ∧ g < wr.heap.size) (fun _ i _ => n1 - (intOf i).toNat)
  case atStart => exact ⟨0, Nat.zero_le _, rfl, l, A, c, rfl, hc, hcc, HR0.out, HN.out, HD.out, hg2⟩
  case round =>
    obtain ⟨k, hk, rfl, l', A', c', rfl, hc', hcc', hR, hn', hD, hgr⟩ := hrel
    have HDr := Lib.hid hD
    have HRr := Lib.hid hR
    have HN' := Lib.hid hn'
    have HCC' := Lib.hid hcc'
    unfold maxLen at hcc'
    have HBr : Hid (Below w.heap.size w wr) := HB.out.trans (hD.below.mono hs)
    clear hD hR hn' HD HR0
    by_cases hlt : k < n1
    · obtain ⟨x, hx⟩ := getElem?_of_lt (l := acts) (k := k) (by rw [HN1.out]; exact hlt)
      obtain ⟨b, off, rfl, hbl, c0, c1', c2, c3, c4⟩ := (HA1.out.below HBr.out (Nat.le_refl _)).ac hx
      have HOKX := Lib.hid (HOK.out x (List.mem_of_getElem? hx))
      have HX : Hid (x.ok wr w.heap.size) := HOKX.out.below HBr.out
      have x1 := HX.out.cap
      have x2 := HX.out.max
      have x3 := HX.out.k0
      have x4 := HX.out.k1
      unfold maxLen at x2
      have hbr : b < wr.heap.size := Nat.lt_of_lt_of_le hbl HBr.out.size
      clear hx
      by_cases hl20 : 20 < x.n
      · go_wp2
        go_ret
        exact ⟨rfl, HBr.out.alloc HBr.out.size _⟩
      · obtain ⟨t, ht⟩ : ∃ t, x.k % 5 = t := ⟨_, rfl⟩
        have ht1 : x.k.tmod 5 = t := by rw [Int.tmod_eq_emod_of_nonneg x3]; exact ht
        have ht2 : t = 0 ∨ t = 1 ∨ t = 2 ∨ t = 3 ∨ t = 4 := by omega
        go_upto_region 13 with (fail)
        obtain ⟨W, hW⟩ : ∃ W, wr.alloc (.cells #[.int .u8 x.k, .int .i64 x.i, .int .i64 x.s, .int .i64 x.v, .slice x.A x.n x.c] 48) = W := ⟨_, rfl⟩
        have hBW : Below wr.heap.size wr W := by rw [← hW]; exact (Below.refl _ _).alloc (Nat.le_refl _) _
        have e0 : W.cell? ⟨wr.heap.size, 0, none⟩ = some (.int .u8 x.k) := by rw [← hW]; exact cell_new_at _ _ _ _ _ _ rfl rfl
        have e1 : W.cell? ⟨wr.heap.size, 1, none⟩ = some (.int .i64 x.i) := by rw [← hW]; exact cell_new_at _ _ _ _ _ _ rfl rfl
        have e2 : W.cell? ⟨wr.heap.size, 2, none⟩ = some (.int .i64 x.s) := by rw [← hW]; exact cell_new_at _ _ _ _ _ _ rfl rfl
        have e3 : W.cell? ⟨wr.heap.size, 3, none⟩ = some (.int .i64 x.v) := by rw [← hW]; exact cell_new_at _ _ _ _ _ _ rfl rfl
        have e4 : W.cell? ⟨wr.heap.size, 4, none⟩ = some (.slice x.A x.n x.c) := by rw [← hW]; exact cell_new_at _ _ _ _ _ _ rfl rfl
        rw [hW]
        have HDW : Hid (Dic w1 W d v bp bk l') := HDr.out.later hBW
        have HRW : Hid (RdN W g A' (ocells l')) := HRr.out.below hBW
        have hgW : g < W.heap.size := Nat.lt_of_lt_of_le hgr hBW.size
        have hB8 : wr.heap.size < W.heap.size := by rw [← hW]; simp
        have HXW : Hid (x.ok W w.heap.size) := HX.out.below (hBW.mono HBr.out.size)
        have HBW : Hid (Below w.heap.size w W) := HBr.out.trans (hBW.mono HBr.out.size)
        have h8g : wr.heap.size ≠ g := by omega
        clear hW hBW HX HRr HDr HBr c0 c1' c2 c3 c4 hgr
        generalize wr.heap.size = B8 at *
        rcases ht2 with rfl | rfl | rfl | rfl | rfl
        · go_wp2_with (fail)
          (with_reducible refine (Read_any HDW.out x.i x.s HXW.out.wi HXW.out.ws).mono ?_)
          rintro e w3 ⟨A3, c3, rfl, hc31, hc32, hr3, hb⟩
          have f1 : w3.cell? ⟨B8, 1, none⟩ = some (.int .i64 x.i) := (hb.cell (p := ⟨B8, 1, none⟩) hB8).trans e1
          have f2 : w3.cell? ⟨B8, 2, none⟩ = some (.int .i64 x.s) := (hb.cell (p := ⟨B8, 2, none⟩) hB8).trans e2
          have HR3 : Hid (RdN w3 g A' (ocells l')) := HRW.out.below hb
          have HD3 := Lib.hid (HDW.out.later hb)
          have hgw : g < w3.heap.size := Nat.lt_of_lt_of_le hgW hb.size
          have HQ3 := Lib.hid hr3
          clear hb hr3 e0 e1 e2 e3 e4
          go_wp2_with (fail)
          (with_reducible refine (refRead_any A' n c' l' x.i x.s w3 HR3.out.rd HN'.out hc' HCC'.out).mono ?_)
          rintro e w4 ⟨A4, c4, rfl, hc41, hc42, hr4, hb4⟩
          have s3 := str_of (c := c3) (HQ3.out.below hb4 (Nat.le_refl _)) rfl
          have s4 := str_of (c := c4) hr4 rfl
          have HR4 := Lib.hid (HR3.out.below hb4)
          have HD4 := Lib.hid (HD3.out.later hb4)
          have hg4 : g < w4.heap.size := Nat.lt_of_lt_of_le hgw hb4.size
          clear hr4 hb4 f1 f2 HR3 HD3 HQ3
          go_wp2_with (fail)
          (with_reducible refine (num_any _ _).mono ?_)
          rintro e w5 ⟨rfl, rfl⟩
          go_wp2
          go_roundw
          case rel => exact ⟨k + 1, by omega, by go_num, _, A', c', rfl, hc', HCC'.out, HR4.out, HN'.out, HD4.out, hg4⟩
          case measure => simp [intOf]; omega
        · go_wp2_with (fail)
          (with_reducible refine (Write_any HDW.out x.i x.s x.A x.n x.c x.b false HXW.out.wi HXW.out.ws (HXW.out.rd.more HBW.out.size) HXW.out.len x1 HXW.out.max HXW.out.byte).mono ?_)
          rintro e w3 ⟨rfl, hD3, hg3⟩
          have hg3 := grown_any hg3 HVG.out
          have HB3 : Hid (Below w.heap.size w w3) := HB.out.trans (hD3.below.mono hs)
          have f0 : w3.cell? ⟨B8, 0, none⟩ = some (.int .u8 x.k) := hg3.cell e0 (fun e => h8g (by simpa using e))
          have f1 : w3.cell? ⟨B8, 1, none⟩ = some (.int .i64 x.i) := hg3.cell e1 (fun e => h8g (by simpa using e))
          have f2 : w3.cell? ⟨B8, 2, none⟩ = some (.int .i64 x.s) := hg3.cell e2 (fun e => h8g (by simpa using e))
          have f3 : w3.cell? ⟨B8, 3, none⟩ = some (.int .i64 x.v) := hg3.cell e3 (fun e => h8g (by simpa using e))
          have f4 : w3.cell? ⟨B8, 4, none⟩ = some (.slice x.A x.n x.c) := hg3.cell e4 (fun e => h8g (by simpa using e))
          have HR3 : Hid (RdN w3 g A' (ocells l')) := HRW.out.grown hg3
          have HX3 : Hid (Rd w3 w3.heap.size x.A (kcells .u8 x.b)) := ((HOKX.out.below HB3.out).rd).more HB3.out.size
          have hgw : g < w3.heap.size := Nat.lt_of_lt_of_le hgW hg3.size
          have HD3 := Lib.hid hD3
          clear hD3 hg3 e0 e1 e2 e3 e4
          go_wp2_with (fail)
          (with_reducible refine (refWrite_any g A' n c' l' x.i x.s x.A x.n x.c x.b false w3 hgw HR3.out HN'.out hc' HCC'.out h200 HX3.out HXW.out.len x1 HXW.out.max HXW.out.byte).mono ?_)
          rintro e w4 ⟨A4, c4, rfl, hc41, hc42, hr4, hb4⟩
          have HR4 := Lib.hid hr4
          have HD4 := Lib.hid (HD3.out.later hb4)
          have hg4 : g < w4.heap.size := Nat.lt_of_lt_of_le hgw hb4.size
          have HL4 : Hid ((writeO l' x.i x.s x.b false).1.length = n) := by rw [Hid, writeO_len]; exact HN'.out
          clear hr4 hb4 f0 f1 f2 f3 f4 HR3 HD3
          go_wp2_with (fail)
          (with_reducible refine (num_any _ _).mono ?_)
          rintro e w5 ⟨rfl, rfl⟩
          go_wp2
          go_roundw
          case rel => exact ⟨k + 1, by omega, by go_num, _, A4, c4, rfl, hc41, hc42, HR4.out, HL4.out, HD4.out, hg4⟩
          case measure => simp [intOf]; omega
        · go_wp2_with (fail)
          (with_reducible refine (Get_any HDW.out x.i x.s HXW.out.wi HXW.out.ws).mono ?_)
          rintro e w3 ⟨rfl, rfl⟩
          go_wp2_with (fail)
          (with_reducible refine (refFind_any A' n c' l' x.i x.s W HRW.out.rd HN'.out hc' HCC'.out).mono ?_)
          rintro e w4 ⟨rfl, hb4⟩
          have HR4 := Lib.hid (HRW.out.below hb4)
          have HD4 := Lib.hid (HDW.out.later hb4)
          have hg4 : g < w4.heap.size := Nat.lt_of_lt_of_le hgW hb4.size
          clear hb4 e0 e1 e2 e3 e4
          cases hp : locO l' x.i x.s with
          | some p =>
            obtain ⟨y, hy, _⟩ := locO_some hp
            have HV : Hid (getO l' x.i x.s = (y.v, 0)) := by show _ = _; unfold getO; rw [hp]; simp only [getD_of hy]
            have HV2 : Hid (findR l' x.i x.s = .tuple #[.int .i64 p, .int .i64 0]) := by show _ = _; unfold findR; rw [hp]
            have hpl : p < n := by have := (List.getElem?_eq_some_iff.1 hy).1; rw [HN'.out] at this; exact this
            obtain ⟨b4, off4, rfl, hbl4, d0, d1, d2, d3, d4, d5, d6, d7, d8⟩ := HR4.out.rd.ob hy
            rw [HV.out, HV2.out]
            simp only [errV_zero]
            clear hp hy
            go_wp2_with (fail)
            (with_reducible refine (num_nil _).mono ?_)
            rintro e w5 ⟨rfl, rfl⟩
            go_wp2
            go_roundw
            case rel => exact ⟨k + 1, by omega, by go_num, _, _, c', rfl, hc', HCC'.out, HR4.out, HN'.out, HD4.out, hg4⟩
            case measure => simp [intOf]; omega
          | none =>
            have HV : Hid (getO l' x.i x.s = (0, ferr l' x.i)) := by show _ = _; unfold getO; rw [hp]
            have HV2 : Hid (findR l' x.i x.s = .tuple #[.int .i64 0, .int .i64 (ferr l' x.i)]) := by show _ = _; unfold findR; rw [hp]
            have HE := Lib.hid (ferr_ne l' x.i)
            generalize ferr l' x.i = q at *
            have hq1 : (q == 0) = false := by simpa using HE.out
            have hq2 : (q != 0) = true := by simpa using HE.out
            rw [HV.out, HV2.out]
            simp only
            rw [errV_ne HE.out]
            clear hp
            go_wp2_with (fail)
            (with_reducible refine (num_err q _).mono ?_)
            rintro e w5 ⟨rfl, rfl⟩
            go_wp2
            go_roundw
            case rel => exact ⟨k + 1, by omega, by go_num, _, _, c', rfl, hc', HCC'.out, HR4.out, HN'.out, HD4.out, hg4⟩
            case measure => simp [intOf]; omega
        · go_wp2_with (fail)
          (with_reducible refine (Set_any HDW.out x.i x.s x.v HXW.out.wi HXW.out.ws).mono ?_)
          rintro e w3 ⟨rfl, hD3, hg3⟩
          have hg3 := grown_any hg3 HVG.out
          have HB3 : Hid (Below w.heap.size w w3) := HB.out.trans (hD3.below.mono hs)
          have f0 : w3.cell? ⟨B8, 0, none⟩ = some (.int .u8 x.k) := hg3.cell e0 (fun e => h8g (by simpa using e))
          have f1 : w3.cell? ⟨B8, 1, none⟩ = some (.int .i64 x.i) := hg3.cell e1 (fun e => h8g (by simpa using e))
          have f2 : w3.cell? ⟨B8, 2, none⟩ = some (.int .i64 x.s) := hg3.cell e2 (fun e => h8g (by simpa using e))
          have f3 : w3.cell? ⟨B8, 3, none⟩ = some (.int .i64 x.v) := hg3.cell e3 (fun e => h8g (by simpa using e))
          have f4 : w3.cell? ⟨B8, 4, none⟩ = some (.slice x.A x.n x.c) := hg3.cell e4 (fun e => h8g (by simpa using e))
          have HR3 : Hid (RdN w3 g A' (ocells l')) := HRW.out.grown hg3
          have HX3 : Hid (Rd w3 w3.heap.size x.A (kcells .u8 x.b)) := ((HOKX.out.below HB3.out).rd).more HB3.out.size
          have hgw : g < w3.heap.size := Nat.lt_of_lt_of_le hgW hg3.size
          have HD3 := Lib.hid hD3
          clear hD3 hg3 e0 e1 e2 e3 e4
          go_wp2_with (fail)
          (with_reducible refine (refSet_any g A' n c' l' x.i x.s x.v w3 hgw HR3.out HN'.out hc' HCC'.out h200).mono ?_)
          rintro e w4 ⟨A4, c4, rfl, hc41, hc42, hr4, hb4⟩
          have HR4 := Lib.hid hr4
          have HD4 := Lib.hid (HD3.out.later hb4)
          have hg4 : g < w4.heap.size := Nat.lt_of_lt_of_le hgw hb4.size
          have HL4 : Hid ((setO l' x.i x.s x.v).1.length = n) := by rw [Hid, setO_len]; exact HN'.out
          clear hr4 hb4 f0 f1 f2 f3 f4 HR3 HD3
          go_wp2_with (fail)
          (with_reducible refine (num_any _ _).mono ?_)
          rintro e w5 ⟨rfl, rfl⟩
          go_wp2
          go_roundw
          case rel => exact ⟨k + 1, by omega, by go_num, _, A4, c4, rfl, hc41, hc42, HR4.out, HL4.out, HD4.out, hg4⟩
          case measure => simp [intOf]; omega
        · go_wp2_with (fail)
          (with_reducible refine (Write_any HDW.out x.i x.s x.A x.n x.c x.b true HXW.out.wi HXW.out.ws (HXW.out.rd.more HBW.out.size) HXW.out.len x1 HXW.out.max HXW.out.byte).mono ?_)
          rintro e w3 ⟨rfl, hD3, hg3⟩
          have hg3 := grown_any hg3 HVG.out
          have HB3 : Hid (Below w.heap.size w w3) := HB.out.trans (hD3.below.mono hs)
          have f0 : w3.cell? ⟨B8, 0, none⟩ = some (.int .u8 x.k) := hg3.cell e0 (fun e => h8g (by simpa using e))
          have f1 : w3.cell? ⟨B8, 1, none⟩ = some (.int .i64 x.i) := hg3.cell e1 (fun e => h8g (by simpa using e))
          have f2 : w3.cell? ⟨B8, 2, none⟩ = some (.int .i64 x.s) := hg3.cell e2 (fun e => h8g (by simpa using e))
          have f3 : w3.cell? ⟨B8, 3, none⟩ = some (.int .i64 x.v) := hg3.cell e3 (fun e => h8g (by simpa using e))
          have f4 : w3.cell? ⟨B8, 4, none⟩ = some (.slice x.A x.n x.c) := hg3.cell e4 (fun e => h8g (by simpa using e))
          have HR3 : Hid (RdN w3 g A' (ocells l')) := HRW.out.grown hg3
          have HX3 : Hid (Rd w3 w3.heap.size x.A (kcells .u8 x.b)) := ((HOKX.out.below HB3.out).rd).more HB3.out.size
          have hgw : g < w3.heap.size := Nat.lt_of_lt_of_le hgW hg3.size
          have HD3 := Lib.hid hD3
          clear hD3 hg3 e0 e1 e2 e3 e4
          go_wp2_with (fail)
          (with_reducible refine (refWrite_any g A' n c' l' x.i x.s x.A x.n x.c x.b true w3 hgw HR3.out HN'.out hc' HCC'.out h200 HX3.out HXW.out.len x1 HXW.out.max HXW.out.byte).mono ?_)
          rintro e w4 ⟨A4, c4, rfl, hc41, hc42, hr4, hb4⟩
          have HR4 := Lib.hid hr4
          have HD4 := Lib.hid (HD3.out.later hb4)
          have hg4 : g < w4.heap.size := Nat.lt_of_lt_of_le hgw hb4.size
          have HL4 : Hid ((writeO l' x.i x.s x.b true).1.length = n) := by rw [Hid, writeO_len]; exact HN'.out
          clear hr4 hb4 f0 f1 f2 f3 f4 HR3 HD3
          go_wp2_with (fail)
          (with_reducible refine (num_any _ _).mono ?_)
          rintro e w5 ⟨rfl, rfl⟩
          go_wp2
          go_roundw
          case rel => exact ⟨k + 1, by omega, by go_num, _, A4, c4, rfl, hc41, hc42, HR4.out, HL4.out, HD4.out, hg4⟩
          case measure => simp [intOf]; omega
    · have hkn : k = n1 := by omega
      subst hkn
      go_wp2_with (fail)
      (with_reducible refine (List_any HDr.out).mono ?_)
      rintro e w5 ⟨v5, rfl, hown, hb⟩
      obtain ⟨A5, c5, rfl, hc51, hc52, hr5⟩ := own_read hown
      rw [HN'.out] at hc51 ⊢
      have HB5 : Hid (Below w.heap.size w w5) := HBr.out.trans (hb.mono HBr.out.size)
      have HR5 := Lib.hid hr5
      have HR6 := Lib.hid (HRr.out.below hb).rd
      clear hown hb hr5 HDr HBr
      go_wp2_with (fail)
      (with_reducible refine (same_eq A5 A' n c5 c' l' _ HR5.out HR6.out HN'.out (by omega)).mono ?_)
      rintro e w6 ⟨rfl, q, rfl⟩
      go_wp2
      go_ret
      exact ⟨rfl, Below.drewN HB5.out q⟩
end Go.Proofs.Yteooabcgojadcaa
