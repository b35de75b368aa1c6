/-
  The statement DictionaryLimits, walked.
-/
import Derived.Test.YteooabcgojadcaaW10
import Derived.Test.YteooabcgojadcaaPlain6
import Derived.Test.YteooabcgojadcaaAc
namespace Go.Proofs.Yteooabcgojadcaa
open Go.RowKit
set_option linter.unusedVariables false

theorem Ac.ok.below {w w' : World} {B : Nat} {x : Ac} (h : x.ok w B) (hb : Below B w w') : x.ok w' B :=
  ⟨h.rd.below hb (Nat.le_refl _), h.len, h.cap, h.max, h.byte, h.k0, h.k1, h.wi, h.ws, h.wv⟩

set_option maxRecDepth 100000 in
set_option maxHeartbeats 1000000 in
theorem dlimits_long (A A1 : Option Addr) (n c n1 c1 : Nat) (w : World) (hn : n ≤ maxLen) (hn1 : n1 ≤ maxLen) (h : 200 < n ∨ 60 < n1) :
    Calls Try.prog 6 #[.slice A n c, .slice A1 n1 c1] w fun e w' => e = .returned (.bool true) ∧ Below w.heap.size w w' := by
  unfold maxLen at hn hn1
  by_cases h1 : 200 < n
  · clear h
    go_enter Try.func6, Try.ntmps6
    go_wp2_with (fail)
    refine (awake53_any _).mono ?_
    rintro e w1 ⟨rfl, hb⟩
    have HB := Lib.hid hb
    clear hb
    go_wp2_with (fail)
    refine (awake53_any _).mono ?_
    rintro e w3 ⟨rfl, hb⟩
    have HB3 : Hid (Below w.heap.size w w3) := HB.out.trans (hb.mono HB.out.size)
    clear hb
    go_wp2
    go_ret
    exact ⟨rfl, HB3.out⟩
  · have h2 : 60 < n1 := by omega
    clear h
    go_enter Try.func6, Try.ntmps6
    go_wp2_with (fail)
    refine (awake53_any _).mono ?_
    rintro e w1 ⟨rfl, hb⟩
    have HB := Lib.hid hb
    clear hb
    go_wp2_with (fail)
    refine (awake53_any _).mono ?_
    rintro e w3 ⟨rfl, hb⟩
    have HB3 : Hid (Below w.heap.size w w3) := HB.out.trans (hb.mono HB.out.size)
    clear hb
    go_wp2
    go_ret
    exact ⟨rfl, HB3.out⟩

set_option maxRecDepth 100000 in
set_option maxHeartbeats 1000000 in
theorem dlimits_bad (A A1 : Option Addr) (n c n1 c1 : Nat) (l : List Ob) (w : World) (hA : Rd w w.heap.size A (ocells l)) (hn : l.length = n) (hc : n ≤ c) (hcc : c ≤ maxLen) (hn1 : n1 ≤ maxLen) (h200 : n ≤ 200) (h60 : n1 ≤ 60) (k : Int) (hk : checkO l = k) (hk0 : k ≠ 0) :
    Calls Try.prog 6 #[.slice A n c, .slice A1 n1 c1] w fun e w' => e = .returned (.bool true) ∧ Below w.heap.size w w' := by
  have h1 := ne_err
  have HA := Lib.hid hA
  have HN := Lib.hid hn
  have HK := Lib.hid hk
  have HK0 := Lib.hid hk0
  clear hk hk0 hA hn
  go_enter Try.func6, Try.ntmps6
  go_wp2_with (fail)
  refine (awake53_any _).mono ?_
  rintro e w1 ⟨rfl, hb⟩
  have HB := Lib.hid hb
  have hs := hb.size
  clear hb
  go_wp2_with (fail)
  (with_reducible refine (New_err A n c l _ ((HA.out.below HB.out (Nat.le_refl _)).more hs) HN.out hc hcc k HK.out HK0.out).mono ?_)
  rintro e w2 ⟨rfl, hb⟩
  have HB2 : Hid (Below w.heap.size w w2) := HB.out.trans (hb.mono hs)
  clear hb
  go_wp2
  go_ret
  exact ⟨rfl, HB2.out⟩

set_option maxRecDepth 100000 in
set_option maxHeartbeats 4000000 in
theorem dlimits_main (A A1 : Option Addr) (n c n1 c1 : Nat) (l : List Ob) (acts : List Ac) (w : World) (hA : Rd w w.heap.size A (ocells l)) (hn : l.length = n) (hc : n ≤ c) (hcc : c ≤ maxLen)
    (hA1 : Rd w w.heap.size A1 (acells acts)) (hn1 : acts.length = n1) (hc1 : n1 ≤ c1) (hcc1 : c1 ≤ maxLen) (hok : ∀ x ∈ acts, x.ok w w.heap.size) (h200 : n ≤ 200) (h60 : n1 ≤ 60) (hk : checkO l = 0) :
    Calls Try.prog 6 #[.slice A n c, .slice A1 n1 c1] w fun e w' => e = .returned (.bool true) ∧ Below w.heap.size w w' := by
  have h1 := ne_nil
  have HA := Lib.hid hA
  have HN := Lib.hid hn
  have HA1 := Lib.hid hA1
  have HN1 := Lib.hid hn1
  have HOK := Lib.hid hok
  have HK := Lib.hid hk
  have HF := Lib.hid (fine_of hk)
  unfold maxLen at hcc1
  clear hk hA hn hA1 hn1 hok
  go_enter Try.func6, Try.ntmps6
  go_wp2_with (fail)
  refine (awake53_any _).mono ?_
  rintro e w1 ⟨rfl, hb⟩
  have HB := Lib.hid hb
  have hs := hb.size
  clear hb
  go_wp2_with (fail)
  (with_reducible refine (New_ok A n c l _ ((HA.out.below HB.out (Nat.le_refl _)).more hs) HN.out hc hcc HK.out).mono ?_)
  rintro e w2 ⟨d, v, bp, bk, rfl, hD⟩
  have HD : Hid (Dic w1 w2 d v bp bk l) := Dic.of hD HF.out HN.out
  clear hD
  go_wp2
  go_loopw [35] (fun i wr => ∃ k : Nat, k ≤ n1 ∧ i = .int .i64 k ∧ ∃ l', Dic w1 wr d v bp bk l' ∧ Like l l') (fun i _ => n1 - (intOf i).toNat)
  case atStart => exact ⟨0, Nat.zero_le _, rfl, l, HD.out, Like.refl HF.out⟩
  case round =>
    obtain ⟨k, hk, rfl, l', hD, hL⟩ := hrel
    have HD := Lib.hid hD
    have HL := Lib.hid hL
    have HBr : Hid (Below w.heap.size w wr) := HB.out.trans (hD.below.mono hs)
    clear hD hL
    by_cases hlt : k < n1
    · obtain ⟨x, hx⟩ := getElem?_of_lt (l := acts) (k := k) (by rw [HN1.out]; exact hlt)
      obtain ⟨b, off, rfl, hbl, c0, c1', c2, c3, c4⟩ := (HA1.out.below HBr.out (Nat.le_refl _)).ac hx
      have HX : Hid (x.ok wr w.heap.size) := (HOK.out x (List.mem_of_getElem? hx)).below HBr.out
      have x1 := HX.out.cap
      have x2 := HX.out.max
      have x3 := HX.out.k0
      have x4 := HX.out.k1
      unfold maxLen at x2
      have hbr : b < wr.heap.size := Nat.lt_of_lt_of_le hbl HBr.out.size
      clear hx
      by_cases hl20 : 20 < x.n
      · go_wp2
        go_ret
        exact ⟨rfl, HBr.out.alloc HBr.out.size _⟩
      · obtain ⟨t, ht⟩ : ∃ t, x.k % 2 = t := ⟨_, rfl⟩
        have ht1 : x.k.tmod 2 = t := by rw [Int.tmod_eq_emod_of_nonneg x3]; exact ht
        have ht2 : t = 0 ∨ t = 1 := by omega
        have HRX : Hid (Rd (wr.alloc (.cells x.cells.toArray 48)) (wr.alloc (.cells x.cells.toArray 48)).heap.size x.A (kcells .u8 x.b)) := (HX.out.rd.below ((Below.refl w.heap.size wr).alloc HBr.out.size _) (Nat.le_refl _)).more (by simp; have := HBr.out.size; omega)
        have HDA := Lib.hid (HD.out.alloc (.cells x.cells.toArray 48))
        simp only [Ac.cells] at HRX HDA
        rcases ht2 with rfl | rfl
        · go_wp2_with (fail)
          (with_reducible refine (Write_any HDA.out x.i x.s x.A x.n x.c x.b false HX.out.wi HX.out.ws HRX.out HX.out.len x1 HX.out.max HX.out.byte).mono ?_)
          rintro e w3 ⟨rfl, hD, _⟩
          have HD3 := Lib.hid hD
          have HL3 := Lib.hid (HL.out.writeO x.i x.s x.b false)
          clear hD
          go_wp2
          go_roundw
          case rel => exact ⟨k + 1, by omega, by go_num, _, HD3.out, HL3.out⟩
          case measure => simp [intOf]; omega
        · go_wp2_with (fail)
          (with_reducible refine (Set_any HDA.out x.i x.s x.v HX.out.wi HX.out.ws).mono ?_)
          rintro e w3 ⟨rfl, hD, _⟩
          have HD3 := Lib.hid hD
          have HL3 := Lib.hid (HL.out.setO x.i x.s x.v)
          clear hD
          go_wp2
          go_roundw
          case rel => exact ⟨k + 1, by omega, by go_num, _, HD3.out, HL3.out⟩
          case measure => simp [intOf]; omega
    · have hkn : k = n1 := by omega
      subst hkn
      have HN' : Hid (l'.length = n) := by rw [Hid, HL.out.len, HN.out]
      have HCK : Hid (checkO l' = 0) := check_of_fine (HL.out.fine HF.out)
      go_wp2_with (fail)
      (with_reducible refine (List_any HD.out).mono ?_)
      rintro e w3 ⟨v3, rfl, hown, hb⟩
      obtain ⟨A3, c3, rfl, hc31, hc32, hr3⟩ := own_read hown
      rw [HN'.out] at hc31 ⊢
      have HB3 : Hid (Below w.heap.size w w3) := HBr.out.trans (hb.mono HBr.out.size)
      have HR3 := Lib.hid hr3
      clear hown hb hr3
      have hnn : ((n : Int) != n) = false := by simp
      go_wp2_with (fail)
      (with_reducible refine (check_any A3 n c3 l' _ HR3.out HN'.out hc31 hc32).mono ?_)
      rintro e w4 ⟨rfl, hb⟩
      rw [HCK.out, errV_zero]
      have HB4 : Hid (Below w.heap.size w w4) := HB3.out.trans (hb.mono HB3.out.size)
      have HR4 : Hid (Rd w4 w4.heap.size A3 (ocells l')) := (HR3.out.below hb (Nat.le_refl _)).more hb.size
      clear hb HR3 HB3
      unfold maxLen at hc32
      go_wp2
      go_loopw [78] (fun i wr => ∃ k : Nat, k ≤ n ∧ i = .int .i64 k ∧ Below w4.heap.size w4 wr) (fun i _ => n - (intOf i).toNat)
      case atStart => exact ⟨0, Nat.zero_le _, rfl, Below.refl _ _⟩
      case round =>
        obtain ⟨j, hj, rfl, hB⟩ := hrel
        have HBj := Lib.hid hB
        have hsj := hB.size
        clear hB
        by_cases hlt2 : j < n
        · obtain ⟨x', hx'⟩ := getElem?_of_lt (l := l') (k := j) (by rw [HN'.out]; exact hlt2)
          obtain ⟨x, hx, e, hv1, hv2⟩ := HL.out.at hx'
          generalize x'.v = y at *
          subst e
          obtain ⟨b, off, rfl, hbl, c0, c1', c2, c3', c4, c5, c6, c7, c8⟩ := (HR4.out.below HBj.out (Nat.le_refl _)).ob hx'
          obtain ⟨b2, off2, rfl, hbl2, d0, d1, d2, d3, d4, d5, d6, d7, d8⟩ := (HA.out.below (HB4.out.trans (HBj.out.mono HB4.out.size)) (Nat.le_refl _)).ob hx
          simp only [Ob.with] at c0 c1' c2 c3' c4 c5 c6 c7 c8
          have hb1 : b < wr.heap.size := by omega
          have hb2 : b2 < wr.heap.size := by have := HB4.out.size; omega
          clear hx hx'
          go_wp2
          go_roundw
          case rel => exact ⟨j + 1, by omega, by go_num, (HBj.out.alloc hsj _).alloc (by simp; omega) _⟩
          case measure => simp [intOf]; omega
        · go_wp2
          go_ret
          exact ⟨rfl, HB4.out.trans (HBj.out.mono HB4.out.size)⟩
end Go.Proofs.Yteooabcgojadcaa
