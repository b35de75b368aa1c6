/-
  The statement DictionaryWrites, walked.
-/
import Derived.Test.YteooabcgojadcaaW12
import Derived.Test.YteooabcgojadcaaPlain7
import Derived.Test.YteooabcgojadcaaStr
import Derived.Deep.RegionHeld3
namespace Go.Proofs.Yteooabcgojadcaa
open Go.RowKit
set_option linter.unusedVariables false

set_option maxRecDepth 100000 in
set_option maxHeartbeats 1000000 in
theorem dwrites_long (A : Option Addr) (n c : Nat) (x : Ac) (en : Bool) (w : World) (hn : n ≤ maxLen) (hx : x.ok w w.heap.size) (h : 200 < n ∨ 20 < x.n) :
    Calls Try.prog 7 #[.slice A n c, .agg x.cells.toArray, .bool en] w fun e w' => e = .returned (.bool true) ∧ Below w.heap.size w w' := by
  have x1 := hx.cap
  have x2 := hx.max
  unfold maxLen at hn x2
  simp only [Ac.cells]
  clear hx
  by_cases h1 : 200 < n
  · clear h
    go_enter Try.func7, Try.ntmps7
    go_wp2_with (fail)
    refine (awake53_any _).mono ?_
    rintro e w1 ⟨rfl, hb⟩
    have HB : Hid (Below w.heap.size w w1) := ((Below.refl _ _).alloc (Nat.le_refl _) _).trans (hb.mono (by simp))
    clear hb
    go_wp2_with (fail)
    refine (awake53_any _).mono ?_
    rintro e w3 ⟨rfl, hb⟩
    have HB3 : Hid (Below w.heap.size w w3) := HB.out.trans (hb.mono HB.out.size)
    clear hb
    go_wp2
    go_ret
    exact ⟨rfl, HB3.out⟩
  · have h2 : 20 < x.n := by omega
    clear h
    go_enter Try.func7, Try.ntmps7
    go_wp2_with (fail)
    refine (awake53_any _).mono ?_
    rintro e w1 ⟨rfl, hb⟩
    have HB : Hid (Below w.heap.size w w1) := ((Below.refl _ _).alloc (Nat.le_refl _) _).trans (hb.mono (by simp))
    have e4 : w1.cell? ⟨w.heap.size, 4, none⟩ = some (.slice x.A x.n x.c) := by
      rw [hb.cell (p := ⟨w.heap.size, 4, none⟩) (by simp)]
      exact cell_new_at _ _ _ _ _ _ rfl rfl
    clear hb
    go_wp2_with (fail)
    refine (awake53_any _).mono ?_
    rintro e w3 ⟨rfl, hb⟩
    have HB3 : Hid (Below w.heap.size w w3) := HB.out.trans (hb.mono HB.out.size)
    clear hb
    go_wp2
    go_ret
    exact ⟨rfl, HB3.out⟩

set_option maxRecDepth 100000 in
set_option maxHeartbeats 1000000 in
theorem dwrites_bad (A : Option Addr) (n c : Nat) (l : List Ob) (x : Ac) (en : Bool) (w : World) (hA : Rd w w.heap.size A (ocells l)) (hn : l.length = n) (hc : n ≤ c) (hcc : c ≤ maxLen) (hx : x.ok w w.heap.size) (h200 : n ≤ 200) (h20 : x.n ≤ 20) (k : Int) (hk : checkO l = k) (hk0 : k ≠ 0) :
    Calls Try.prog 7 #[.slice A n c, .agg x.cells.toArray, .bool en] w fun e w' => e = .returned (.bool true) ∧ Below w.heap.size w w' := by
  have x1 := hx.cap
  have x2 := hx.max
  unfold maxLen at x2
  have h1 := ne_err
  have HA := Lib.hid hA
  have HN := Lib.hid hn
  have HK := Lib.hid hk
  have HK0 := Lib.hid hk0
  simp only [Ac.cells]
  clear hk hk0 hA hn hx
  go_enter Try.func7, Try.ntmps7
  go_wp2_with (fail)
  refine (awake53_any _).mono ?_
  rintro e w1 ⟨rfl, hb⟩
  have HB : Hid (Below w.heap.size w w1) := ((Below.refl _ _).alloc (Nat.le_refl _) _).trans (hb.mono (by simp))
  have e4 : w1.cell? ⟨w.heap.size, 4, none⟩ = some (.slice x.A x.n x.c) := by
    rw [hb.cell (p := ⟨w.heap.size, 4, none⟩) (by simp)]
    exact cell_new_at _ _ _ _ _ _ rfl rfl
  have hs := HB.out.size
  clear hb
  go_wp2_with (fail)
  (with_reducible refine (New_err A n c l _ ((HA.out.below HB.out (Nat.le_refl _)).more hs) HN.out hc hcc k HK.out HK0.out).mono ?_)
  rintro e w2 ⟨rfl, hb⟩
  have HB2 : Hid (Below w.heap.size w w2) := HB.out.trans (hb.mono hs)
  clear hb
  go_wp2
  go_ret
  exact ⟨rfl, HB2.out⟩

set_option maxRecDepth 100000 in
set_option maxHeartbeats 8000000 in
theorem dwrites_main (A : Option Addr) (n c : Nat) (l : List Ob) (x : Ac) (en : Bool) (w : World) (hA : Rd w w.heap.size A (ocells l)) (hn : l.length = n) (hc : n ≤ c) (hcc : c ≤ maxLen) (hx : x.ok w w.heap.size) (h200 : n ≤ 200) (h20 : x.n ≤ 20) (hk : checkO l = 0) :
    Calls Try.prog 7 #[.slice A n c, .agg x.cells.toArray, .bool en] w fun e w' => e = .returned (.bool true) ∧ Below w.heap.size w w' := by
  have x1 := hx.cap
  have x2 := hx.max
  unfold maxLen at x2
  have hcc9 := hcc
  unfold maxLen at hcc9
  have HA := Lib.hid hA
  have HN := Lib.hid hn
  have HX := Lib.hid hx
  have HCC := Lib.hid hcc
  have HK := Lib.hid hk
  have HF := Lib.hid (fine_of hk)
  have h1 := ne_nil
  have h2 := ne_err
  have h3 := eq_nil
  have h4 := eq_err
  simp only [Ac.cells]
  clear hA hn hx hcc hk
  go_enter Try.func7, Try.ntmps7
  go_wp2_with (fail)
  refine (awake53_any _).mono ?_
  rintro e w1 ⟨rfl, hb⟩
  have HB1 : Hid (Below w.heap.size w w1) := ((Below.refl _ _).alloc (Nat.le_refl _) _).trans (hb.mono (by simp))
  have e1 : w1.cell? ⟨w.heap.size, 1, none⟩ = some (.int .i64 x.i) := by
    rw [hb.cell (p := ⟨w.heap.size, 1, none⟩) (by simp)]
    exact cell_new_at _ _ _ _ _ _ rfl rfl
  have e2 : w1.cell? ⟨w.heap.size, 2, none⟩ = some (.int .i64 x.s) := by
    rw [hb.cell (p := ⟨w.heap.size, 2, none⟩) (by simp)]
    exact cell_new_at _ _ _ _ _ _ rfl rfl
  have e4 : w1.cell? ⟨w.heap.size, 4, none⟩ = some (.slice x.A x.n x.c) := by
    rw [hb.cell (p := ⟨w.heap.size, 4, none⟩) (by simp)]
    exact cell_new_at _ _ _ _ _ _ rfl rfl
  have hB8 : w.heap.size < w1.heap.size := World.block_lt_of_cell? w1 _ e1
  have hs1 := HB1.out.size
  obtain ⟨B8, hB88⟩ : ∃ B, w.heap.size = B := ⟨_, rfl⟩
  rw [hB88] at e1 e2 e4 hB8 ⊢
  clear hb
  go_wp2_with (fail)
  (with_reducible refine (New_ok A n c l _ ((HA.out.below HB1.out (Nat.le_refl _)).more hs1) HN.out hc HCC.out HK.out).mono ?_)
  rintro e w2 ⟨d, v, bp, bk, rfl, hD⟩
  have HD2 : Hid (Dic w1 w2 d v bp bk l) := Dic.of hD HF.out HN.out
  have HB12 : Hid (Below w1.heap.size w1 w2) := hD.below
  have HB2 : Hid (Below w.heap.size w w2) := HB1.out.trans (HB12.out.mono hs1)
  have f1 : w2.cell? ⟨B8, 1, none⟩ = some (.int .i64 x.i) := (HB12.out.cell (p := ⟨B8, 1, none⟩) hB8).trans e1
  have f2 : w2.cell? ⟨B8, 2, none⟩ = some (.int .i64 x.s) := (HB12.out.cell (p := ⟨B8, 2, none⟩) hB8).trans e2
  have f4 : w2.cell? ⟨B8, 4, none⟩ = some (.slice x.A x.n x.c) := (HB12.out.cell (p := ⟨B8, 4, none⟩) hB8).trans e4
  have hs2 := HB2.out.size
  have HE : Hid (w1.cell? ⟨B8, 1, none⟩ = some (.int .i64 x.i) ∧ w1.cell? ⟨B8, 2, none⟩ = some (.int .i64 x.s) ∧ w1.cell? ⟨B8, 4, none⟩ = some (.slice x.A x.n x.c)) := ⟨e1, e2, e4⟩
  clear hD HB12 e1 e2 e4
  obtain ⟨l', code, hw⟩ : ∃ l' code, writeO l x.i x.s x.b en = (l', code) := ⟨_, _, rfl⟩
  have HW := Lib.hid hw
  have HN' : Hid (l'.length = n) := by
    have := writeO_len l x.i x.s x.b en
    rw [hw, HN.out] at this
    exact this
  clear hw
  go_wp2_with (fail)
  (with_reducible refine (Write_any HD2.out x.i x.s x.A x.n x.c x.b en HX.out.wi HX.out.ws ((HX.out.rd.below HB2.out (Nat.le_refl _)).more hs2) HX.out.len x1 HX.out.max HX.out.byte).mono ?_)
  rintro e w3 ⟨rfl, hD3, _⟩
  rw [HW.out] at hD3 ⊢
  simp only at hD3 ⊢
  have HD3 := Lib.hid hD3
  have HB13 := Lib.hid hD3.below
  have HB3 : Hid (Below w.heap.size w w3) := HB1.out.trans (HB13.out.mono hs1)
  clear hD3 f1 f2 f4 HD2
  go_wp2_with (fail)
  (with_reducible refine (List_any HD3.out).mono ?_)
  rintro e w4 ⟨v4, rfl, hown, hb⟩
  obtain ⟨A4, c4, rfl, hc41, hc42, hr4⟩ := own_read hown
  rw [HN'.out] at hc41 ⊢
  have HB4 : Hid (Below w.heap.size w w4) := HB3.out.trans (hb.mono HB3.out.size)
  have HD4 := Lib.hid (HD3.out.later hb)
  have HR4 := Lib.hid hr4
  have HB14 := Lib.hid HD4.out.below
  have hs4 := HB4.out.size
  have hs14 := HB14.out.size
  clear hown hb hr4 HD3 HB13
  unfold maxLen at hc42
  have hnn : ((n : Int) != n) = false := by simp
  have g0 : B8 < w4.heap.size := by omega
  have HE4 : Hid (w4.cell? ⟨B8, 1, none⟩ = some (.int .i64 x.i) ∧ w4.cell? ⟨B8, 2, none⟩ = some (.int .i64 x.s) ∧ w4.cell? ⟨B8, 4, none⟩ = some (.slice x.A x.n x.c)) :=
    ⟨(HB14.out.cell (p := ⟨B8, 1, none⟩) hB8).trans HE.out.1, (HB14.out.cell (p := ⟨B8, 2, none⟩) hB8).trans HE.out.2.1, (HB14.out.cell (p := ⟨B8, 4, none⟩) hB8).trans HE.out.2.2⟩
  go_wp2
  go_loopw [59] (fun i wr => ∃ j : Nat, j ≤ n ∧ i = .int .i64 j ∧ Below w4.heap.size w4 wr) (fun i _ => n - (intOf i).toNat)
  case atStart => exact ⟨0, Nat.zero_le _, rfl, Below.refl _ _⟩
  case round =>
    obtain ⟨j, hj, rfl, hB⟩ := hrel
    have HBj := Lib.hid hB
    have hsj := hB.size
    clear hB
    by_cases hlt : j < n
    · obtain ⟨y, hy⟩ := getElem?_of_lt (l := l) (k := j) (by rw [HN.out]; exact hlt)
      obtain ⟨b, off, rfl, hbl, c0, c1', c2, c3, c4', c5, c6, c7, c8⟩ := (HA.out.below (HB4.out.trans (HBj.out.mono hs4)) (Nat.le_refl _)).ob hy
      have e1 := (HBj.out.cell (p := ⟨B8, 1, none⟩) g0).trans HE4.out.1
      have e2 := (HBj.out.cell (p := ⟨B8, 2, none⟩) g0).trans HE4.out.2.1
      have e4 := (HBj.out.cell (p := ⟨B8, 4, none⟩) g0).trans HE4.out.2.2
      have hbw : b < wr.heap.size := by omega
      have hB8w : B8 < wr.heap.size := by omega
      have hcs := write_each HF.out HX.out.byte HW.out hy
      have HY := Lib.hid hy
      clear hy
      rcases hcs with ⟨hcode, rfl⟩ | ⟨rfl, hown, hy'⟩ | ⟨rfl, k1, k2, z, hy', hnum, hget, ha, hh, hr2, hrb⟩
      · have HCE := Lib.hid (errV_ne hcode)
        rw [HCE.out]
        obtain ⟨b4, off4, rfl, hbl4, d0, d1, d2, d3, d4, d5, d6, d7, d8⟩ := (HR4.out.below HBj.out (Nat.le_refl _)).ob HY.out
        have hb4w : b4 < wr.heap.size := by omega
        by_cases k1 : y.i = x.i
        · by_cases k2 : y.s = x.s
          · rw [k1] at c0 d0
            rw [k2] at c1' d1
            clear k1 k2
            go_wp2
            go_quiet (fail)
            go_wp2
            go_roundw
            case rel => exact ⟨j + 1, by omega, by go_num, Below.drewN (HBj.out.alloc hsj _) _⟩
            case measure => simp [intOf]; omega
          · have k2' : (y.s == x.s) = false := by simpa using k2
            rw [k1] at c0 d0
            clear k1 k2
            go_wp2
            go_quiet (fail)
            go_wp2
            go_roundw
            case rel => exact ⟨j + 1, by omega, by go_num, Below.drewN (HBj.out.alloc hsj _) _⟩
            case measure => simp [intOf]; omega
        · have k1' : (y.i == x.i) = false := by simpa using k1
          clear k1
          go_wp2
          go_quiet (fail)
          go_wp2
          go_roundw
          case rel => exact ⟨j + 1, by omega, by go_num, Below.drewN (HBj.out.alloc hsj _) _⟩
          case measure => simp [intOf]; omega
      · rw [errV_zero]
        obtain ⟨b4, off4, rfl, hbl4, d0, d1, d2, d3, d4, d5, d6, d7, d8⟩ := (HR4.out.below HBj.out (Nat.le_refl _)).ob hy'
        have hb4w : b4 < wr.heap.size := by omega
        by_cases k1 : y.i = x.i
        · by_cases k2 : y.s = x.s
          · exact absurd ⟨k1, k2⟩ hown
          · have k2' : (y.s == x.s) = false := by simpa using k2
            rw [k1] at c0 d0
            clear k1 k2
            go_wp2
            go_quiet (fail)
            go_wp2
            go_roundw
            case rel => exact ⟨j + 1, by omega, by go_num, Below.drewN (HBj.out.alloc hsj _) _⟩
            case measure => simp [intOf]; omega
        · have k1' : (y.i == x.i) = false := by simpa using k1
          clear k1
          go_wp2
          go_quiet (fail)
          go_wp2
          go_roundw
          case rel => exact ⟨j + 1, by omega, by go_num, Below.drewN (HBj.out.alloc hsj _) _⟩
          case measure => simp [intOf]; omega
      · rw [errV_zero]
        obtain ⟨b4, off4, rfl, hbl4, d0, d1, d2, d3, d4, d5, d6, d7, d8⟩ := (HR4.out.below HBj.out (Nat.le_refl _)).ob hy'
        have hb4w : b4 < wr.heap.size := by omega
        simp only [Ob.with] at d0 d1 d2 d3 d4 d5 d6 d7 d8
        rw [k1] at c0 d0
        rw [k2] at c1' d1
        go_upto_region 17 with (fail)
        obtain ⟨W, hW⟩ : ∃ W, wr.alloc (.cells #[.int .i64 x.i, .int .i64 x.s, .int .i64 y.t, .int .i64 y.a, .int .i64 y.lo, .int .i64 y.hi, .int .i64 y.v, .bool y.mp, .bool y.hd] 52) = W := ⟨_, rfl⟩
        have hBW : Below wr.heap.size wr W := by rw [← hW]; exact (Below.refl _ _).alloc (Nat.le_refl _) _
        have m2 : W.cell? ⟨wr.heap.size, 2, none⟩ = some (.int .i64 y.t) := by rw [← hW]; exact cell_new_at _ _ _ _ _ _ rfl rfl
        have m3 : W.cell? ⟨wr.heap.size, 3, none⟩ = some (.int .i64 y.a) := by rw [← hW]; exact cell_new_at _ _ _ _ _ _ rfl rfl
        have m8 : W.cell? ⟨wr.heap.size, 8, none⟩ = some (.bool y.hd) := by rw [← hW]; exact cell_new_at _ _ _ _ _ _ rfl rfl
        have n1 := (hBW.cell (p := ⟨B8, 1, none⟩) hB8w).trans e1
        have n2 := (hBW.cell (p := ⟨B8, 2, none⟩) hB8w).trans e2
        have m4 := (hBW.cell (p := ⟨B8, 4, none⟩) hB8w).trans e4
        have m6 := (hBW.cell (p := ⟨b4, off4 + j * 9 + 6, none⟩) hb4w).trans d6
        have h12 : wr.heap.size < W.heap.size := World.block_lt_of_cell? W _ m2
        have h8W : B8 < W.heap.size := by omega
        have hb4W : b4 < W.heap.size := by omega
        have HDW : Hid (Dic w1 W d v bp bk l') := (HD4.out.later HBj.out).later hBW
        have HBjW : Hid (Below w4.heap.size w4 W) := HBj.out.trans (hBW.mono hsj)
        have HAX : Hid (Rd W W.heap.size x.A (kcells .u8 x.b)) := (HX.out.rd.below (HB4.out.trans (HBjW.out.mono hs4)) (Nat.le_refl _)).more (by omega)
        have HNUM := Lib.hid hnum
        have HGET := Lib.hid hget
        have HE21 : Hid (errV 21 = .iface 56 (.int .i64 21)) := errV_ne (by omega)
        have ha' : (y.a == 0) = false := by simpa using ha
        rw [hW]
        clear hW hBW c0 c1' c2 c3 c4' c5 c6 c7 c8 d0 d1 d2 d3 d4 d5 d6 d7 d8 e1 e2 e4 hnum hget ha
        generalize wr.heap.size = B12 at *
        have hen : y.hd = false ∨ (y.hd = true ∧ en = false) := by
          revert hh
          cases y.hd <;> cases en <;> simp
        clear hh
        rcases hen with hhd | ⟨hhd, rfl⟩
        · rw [hhd] at m8
          clear hhd
          go_wp2_with (fail)
          (with_reducible refine (Number_any y.t x.A x.n x.c x.b W HAX.out HX.out.len x1 HX.out.max HX.out.byte).mono ?_)
          rintro e w5 ⟨rfl, rfl⟩
          rw [HNUM.out]
          simp only [numV, errV_zero]
          go_wp2_with (fail)
          (with_reducible refine (Get_any HDW.out x.i x.s HX.out.wi HX.out.ws).mono ?_)
          rintro e w5 ⟨rfl, rfl⟩
          rw [HGET.out]
          simp only [errV_zero]
          go_wp2_with (fail)
          (with_reducible refine (Read_any HDW.out x.i x.s HX.out.wi HX.out.ws).mono ?_)
          rintro e w6 ⟨A6, c6, rfl, hc61, hc62, hr6, hb6⟩
          have p3 : w6.cell? ⟨B12, 3, none⟩ = some (.int .i64 y.a) := (hb6.cell (p := ⟨B12, 3, none⟩) h12).trans m3
          have p8 : w6.cell? ⟨B12, 8, none⟩ = some (.bool false) := (hb6.cell (p := ⟨B12, 8, none⟩) h12).trans m8
          have p4 : w6.cell? ⟨B8, 4, none⟩ = some (.slice x.A x.n x.c) := (hb6.cell (p := ⟨B8, 4, none⟩) h8W).trans m4
          have p6 : w6.cell? ⟨b4, off4 + j * 9 + 6, none⟩ = some (.int .i64 z) := (hb6.cell (p := ⟨b4, off4 + j * 9 + 6, none⟩) hb4W).trans m6
          have hb4w6 : b4 < w6.heap.size := Nat.lt_of_lt_of_le hb4W hb6.size
          have HBF : Hid (Below w4.heap.size w4 w6) := HBjW.out.trans (hb6.mono HBjW.out.size)
          by_cases ha2 : y.a = 2
          · rw [hr2 ha2] at hc61 hr6 ⊢
            simp only [List.length_nil] at hc61 ⊢
            rw [HE21.out]
            rw [ha2] at p3
            clear ha2 hr2 hrb m2 m3 m4 m6 m8 ha'
            clear hb6 hr6
            go_wp2
            go_quiet ((go_at_call 33; exact Calls.quiet_of_same ((is_err 21 21 _).mono fun _ _ ⟨a, b⟩ => ⟨a, b.symm⟩)))
            go_wp2
            go_roundw
            case rel => exact ⟨j + 1, by omega, by go_num, Below.drewN HBF.out _⟩
            case measure => simp [intOf]; omega
          · rw [hrb ha2] at hc61 hr6 ⊢
            simp only [errV_zero] at hc61 ⊢
            have ha2' : (y.a == 2) = false := by simpa using ha2
            have s6 : ∀ q, (convert 35 9 (.slice A6 x.b.length c6)).run Try.prog (w6.drewN q) = .ok (.string (strOfNums x.b)) (w6.drewN q) := fun q => str_of (w := w6.drewN q) (B := w6.heap.size) hr6 rfl
            have s7 : ∀ q, (convert 35 9 (.slice x.A x.n x.c)).run Try.prog (w6.drewN q) = .ok (.string (strOfNums x.b)) (w6.drewN q) := fun q => str_of (w := w6.drewN q) (B := W.heap.size) (HAX.out.below (Below.drewN hb6 q) (Nat.le_refl _)) HX.out.len
            clear ha2 hr2 hrb m2 m3 m4 m6 m8
            clear hb6 hr6
            go_wp2
            go_quiet ((go_at_call 33; exact Calls.quiet_of_same ((is_nil 21 _).mono fun _ _ ⟨a, b⟩ => ⟨a, b.symm⟩)))
            go_wp2
            go_roundw
            case rel => exact ⟨j + 1, by omega, by go_num, Below.drewN HBF.out _⟩
            case measure => simp [intOf]; omega
        · rw [hhd] at m8
          clear hhd
          go_wp2_with (fail)
          (with_reducible refine (Number_any y.t x.A x.n x.c x.b W HAX.out HX.out.len x1 HX.out.max HX.out.byte).mono ?_)
          rintro e w5 ⟨rfl, rfl⟩
          rw [HNUM.out]
          simp only [numV, errV_zero]
          go_wp2_with (fail)
          (with_reducible refine (Get_any HDW.out x.i x.s HX.out.wi HX.out.ws).mono ?_)
          rintro e w5 ⟨rfl, rfl⟩
          rw [HGET.out]
          simp only [errV_zero]
          go_wp2_with (fail)
          (with_reducible refine (Read_any HDW.out x.i x.s HX.out.wi HX.out.ws).mono ?_)
          rintro e w6 ⟨A6, c6, rfl, hc61, hc62, hr6, hb6⟩
          have p3 : w6.cell? ⟨B12, 3, none⟩ = some (.int .i64 y.a) := (hb6.cell (p := ⟨B12, 3, none⟩) h12).trans m3
          have p8 : w6.cell? ⟨B12, 8, none⟩ = some (.bool true) := (hb6.cell (p := ⟨B12, 8, none⟩) h12).trans m8
          have p4 : w6.cell? ⟨B8, 4, none⟩ = some (.slice x.A x.n x.c) := (hb6.cell (p := ⟨B8, 4, none⟩) h8W).trans m4
          have p6 : w6.cell? ⟨b4, off4 + j * 9 + 6, none⟩ = some (.int .i64 z) := (hb6.cell (p := ⟨b4, off4 + j * 9 + 6, none⟩) hb4W).trans m6
          have hb4w6 : b4 < w6.heap.size := Nat.lt_of_lt_of_le hb4W hb6.size
          have HBF : Hid (Below w4.heap.size w4 w6) := HBjW.out.trans (hb6.mono HBjW.out.size)
          by_cases ha2 : y.a = 2
          · rw [hr2 ha2] at hc61 hr6 ⊢
            simp only [List.length_nil] at hc61 ⊢
            rw [HE21.out]
            rw [ha2] at p3
            clear ha2 hr2 hrb m2 m3 m4 m6 m8 ha'
            clear hb6 hr6
            go_wp2
            go_quiet ((go_at_call 33; exact Calls.quiet_of_same ((is_err 21 21 _).mono fun _ _ ⟨a, b⟩ => ⟨a, b.symm⟩)))
            go_wp2
            go_roundw
            case rel => exact ⟨j + 1, by omega, by go_num, Below.drewN HBF.out _⟩
            case measure => simp [intOf]; omega
          · rw [hrb ha2] at hc61 hr6 ⊢
            simp only [errV_zero] at hc61 ⊢
            have ha2' : (y.a == 2) = false := by simpa using ha2
            have s6 : ∀ q, (convert 35 9 (.slice A6 x.b.length c6)).run Try.prog (w6.drewN q) = .ok (.string (strOfNums x.b)) (w6.drewN q) := fun q => str_of (w := w6.drewN q) (B := w6.heap.size) hr6 rfl
            have s7 : ∀ q, (convert 35 9 (.slice x.A x.n x.c)).run Try.prog (w6.drewN q) = .ok (.string (strOfNums x.b)) (w6.drewN q) := fun q => str_of (w := w6.drewN q) (B := W.heap.size) (HAX.out.below (Below.drewN hb6 q) (Nat.le_refl _)) HX.out.len
            clear ha2 hr2 hrb m2 m3 m4 m6 m8
            clear hb6 hr6
            go_wp2
            go_quiet ((go_at_call 33; exact Calls.quiet_of_same ((is_nil 21 _).mono fun _ _ ⟨a, b⟩ => ⟨a, b.symm⟩)))
            go_wp2
            go_roundw
            case rel => exact ⟨j + 1, by omega, by go_num, Below.drewN HBF.out _⟩
            case measure => simp [intOf]; omega
    · go_wp2
      go_ret
      exact ⟨rfl, HB4.out.trans (HBj.out.mono hs4)⟩
end Go.Proofs.Yteooabcgojadcaa
