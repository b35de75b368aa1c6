/-
  The reference's Read, Set, Write.
-/
import Derived.Test.YteooabcgojadcaaW10
import Derived.Test.YteooabcgojadcaaPlain6
import Derived.Deep.RegionHeld3
namespace Go.Proofs.Yteooabcgojadcaa
open Go.RowKit
set_option linter.unusedVariables false

set_option maxRecDepth 100000 in
set_option maxHeartbeats 4000000 in
theorem refSet_any (g : Nat) (A : Option Addr) (n c : Nat) (l : List Ob) (i s y : Int) (w : World) (hg : g < w.heap.size) (hA : RdN w g A (ocells l)) (hn : l.length = n) (hc : n ≤ c) (hcc : c ≤ maxLen) (h200 : n ≤ 200) :
    Calls Try.prog 36 #[.slice A n c, .int .i64 i, .int .i64 s, .int .i64 y] w fun e w' => ∃ A' c', e = .returned (.tuple #[.slice A' n c', .int .i64 (setO l i s y).2]) ∧ n ≤ c' ∧ c' ≤ maxLen ∧ RdN w' g A' (ocells (setO l i s y).1) ∧ Below w.heap.size w w' := by
  have hf := refFind_any A n c l i s w hA.rd hn hc hcc
  have HA := Lib.hid hA
  have HN := Lib.hid hn
  clear hA hn
  cases hp : locO l i s with
  | none =>
    have HR : Hid (setO l i s y = (l, ferr l i)) := by show _ = _; unfold setO; rw [hp]
    have HV : Hid (findR l i s = .tuple #[.int .i64 0, .int .i64 (ferr l i)]) := by show _ = _; unfold findR; rw [hp]
    have hne : (ferr l i != 0) = true := by simpa using ferr_ne l i
    generalize ferr l i = q at *
    clear hp
    go_enter Try.func36, Try.ntmps36
    go_wp2_with (fail)
    (with_reducible refine hf.mono ?_)
    rintro e w1 ⟨rfl, hb⟩
    rw [HV.out]
    have HB := Lib.hid hb
    clear hb
    go_wp2
    go_ret2
    exact ⟨A, c, by rw [HR.out]; rfl, hc, hcc, by rw [HR.out]; exact HA.out.below HB.out, HB.out⟩
  | some p =>
    obtain ⟨x, hx, _⟩ := locO_some hp
    have HV : Hid (findR l i s = .tuple #[.int .i64 p, .int .i64 0]) := by show _ = _; unfold findR; rw [hp]
    have HR0 : Hid (setO l i s y = if y < x.lo ∨ x.hi < y then (l, 3) else (l.set p (x.with y), 0)) := by show _ = _; unfold setO; rw [hp]; simp only [getD_of hx]
    have hlt : p < n := by have := (List.getElem?_eq_some_iff.1 hx).1; rw [HN.out] at this; exact this
    have HX := Lib.hid hx
    clear hp hx
    go_enter Try.func36, Try.ntmps36
    go_wp2_with (fail)
    (with_reducible refine hf.mono ?_)
    rintro e w1 ⟨rfl, hb⟩
    rw [HV.out]
    have HB := Lib.hid hb
    clear hb
    have HA1 : Hid (RdN w1 g A (ocells l)) := HA.out.below HB.out
    obtain ⟨b, off, hAe, hbl, c0, c1, c2, c3, c4, c5, c6, c7, c8⟩ := HA1.out.rd.ob HX.out
    subst hAe
    unfold maxLen at hcc
    have hs := HB.out.size
    by_cases hout : y < x.lo ∨ x.hi < y
    · have HR : Hid (setO l i s y = (l, 3)) := by rw [Hid, HR0.out, if_pos hout]
      clear HR0
      by_cases ho : y < x.lo
      · clear hout
        go_wp2
        go_ret2
        exact ⟨_, c, by rw [HR.out]; rfl, hc, hcc, by rw [HR.out]; exact HA1.out, HB.out⟩
      · have ho2 : x.hi < y := by omega
        clear hout
        go_wp2
        go_ret2
        exact ⟨_, c, by rw [HR.out]; rfl, hc, hcc, by rw [HR.out]; exact HA1.out, HB.out⟩
    · have HR : Hid (setO l i s y = (l.set p (x.with y), 0)) := by rw [Hid, HR0.out, if_neg hout]
      have ho1 : ¬ y < x.lo := by omega
      have ho2 : ¬ x.hi < y := by omega
      have HN9 : Hid ((ocells l).length = n * 9) := by rw [ocells_length, HN.out]; rfl
      obtain ⟨i0, hi, hz0, hz1, hz2⟩ := info_parts info52
      have hm0 : 0 ≤ maxLen := Nat.zero_le _
      clear HR0 hout c0 c1 c2 c3 c6 c7 c8
      go_wp2_with (at_builtin; refine wpList_append_rd _ rfl _ _ 22 rfl w.heap.size 52 i0 _ 9 64 Try.underlying22 hi hz0 hz1 hz2 rfl (by omega) _ 0 [] rfl (World.ownsRow_lit w1 #[] 0 hs hm0 rfl) w1.heap.size _ n c (ocells l) rfl (HA1.out.rd.below ((Below.refl w1.heap.size w1).alloc (Nat.le_refl _) _) (Nat.le_refl _)) HN9.out (ocells_one l) ?c3 ?c4 ?c5 ?_)
      case c3 => unfold maxLen; omega
      case c4 => omega
      case c5 => simp; omega
      intro v' w2 hown hgrow hat
      have HB2 : Hid (Below w.heap.size w w2) := (HB.out.alloc hs _).grown hgrow (by simp; omega) (fun k hk => by simp [Value.ownBlock] at hk; omega)
      try simp only [Nat.zero_add, List.nil_append] at hown
      try rw [Nat.zero_add]
      obtain ⟨A', c', rfl, hc1, hc2, hform⟩ := own_form hown
      obtain ⟨q, rfl, hq1, hq2⟩ := hform (by omega)
      have hfr := hown.frozenAt (p * 9 + 6)
      have hcell : w2.cell? ⟨q, p * 9 + 6, none⟩ = some (.int .i64 x.v) := own_flat Ob.cells 9 Ob.cells_length HN.out hown HX.out 6 (by omega)
      obtain ⟨hl2, hgr2⟩ := hown.stored (p * 9 + 6) (.int .i64 y)
      have hz : ocells (l.set p (x.with y)) = (ocells l).set (p * 9 + 6) (.int .i64 y) := flat_set Ob.cells 9 Ob.cells_length l p x (x.with y) 6 _ HX.out (by omega) rfl
      rw [← hz] at hl2
      have HL2 := Lib.hid hl2
      have HB3 : Hid (Below w.heap.size w (w2.setCell ⟨q, p * 9 + 6, none⟩ (.int .i64 y))) := HB2.out.setCell (p := ⟨q, p * 9 + 6, none⟩) hq1 _
      clear hown hgrow hat hl2 hgr2 hz
      unfold maxLen at hc2
      go_wp2
      go_ret2
      refine ⟨_, c', by rw [HR.out]; rfl, hc1, hc2, ?_, HB3.out⟩
      rw [HR.out]
      exact own_apart (n := n) HL2.out hg

set_option maxRecDepth 100000 in
set_option maxHeartbeats 4000000 in
theorem refRead_any (A : Option Addr) (n c : Nat) (l : List Ob) (i s : Int) (w : World) (hA : Rd w w.heap.size A (ocells l)) (hn : l.length = n) (hc : n ≤ c) (hcc : c ≤ maxLen) :
    Calls Try.prog 34 #[.slice A n c, .int .i64 i, .int .i64 s] w fun e w' => ∃ A' c', e = .returned (.tuple #[.slice A' (readO l i s).1.length c', .int .i64 (readO l i s).2]) ∧ (readO l i s).1.length ≤ c' ∧ c' ≤ maxLen ∧ Rd w' w'.heap.size A' (kcells .u8 (readO l i s).1) ∧ Below w.heap.size w w' := by
  have hf := refFind_any A n c l i s w hA hn hc hcc
  have HA := Lib.hid hA
  have HN := Lib.hid hn
  clear hA hn
  cases hp : locO l i s with
  | none =>
    have HR : Hid (readO l i s = ([], ferr l i)) := by show _ = _; unfold readO; rw [hp]
    have HV : Hid (findR l i s = .tuple #[.int .i64 0, .int .i64 (ferr l i)]) := by show _ = _; unfold findR; rw [hp]
    have hne : (ferr l i != 0) = true := by simpa using ferr_ne l i
    generalize ferr l i = q at *
    clear hp
    go_enter Try.func34, Try.ntmps34
    go_wp2_with (fail)
    (with_reducible refine hf.mono ?_)
    rintro e w1 ⟨rfl, hb⟩
    rw [HV.out]
    have HB := Lib.hid hb
    clear hb
    go_wp2
    go_ret2
    exact ⟨none, 0, by rw [HR.out]; rfl, by rw [HR.out]; simp, Nat.zero_le _, by rw [HR.out]; exact fun h => absurd rfl h, HB.out⟩
  | some p =>
    obtain ⟨x, hx, _⟩ := locO_some hp
    have HV : Hid (findR l i s = .tuple #[.int .i64 p, .int .i64 0]) := by show _ = _; unfold findR; rw [hp]
    have HR0 : Hid (readO l i s = if x.a = 2 then ([], 21) else bytesO x.t x.v) := by show _ = _; unfold readO; rw [hp]; simp only [getD_of hx]
    have hlt : p < n := by have := (List.getElem?_eq_some_iff.1 hx).1; rw [HN.out] at this; exact this
    have HX := Lib.hid hx
    clear hp hx
    go_enter Try.func34, Try.ntmps34
    go_wp2_with (fail)
    (with_reducible refine hf.mono ?_)
    rintro e w1 ⟨rfl, hb⟩
    rw [HV.out]
    have HB := Lib.hid hb
    clear hb
    obtain ⟨b, off, hAe, hbl, c0, c1, c2, c3, c4, c5, c6, c7, c8⟩ := ((HA.out.below HB.out (Nat.le_refl _)).more HB.out.size).ob HX.out
    subst hAe
    unfold maxLen at hcc
    by_cases ha : x.a = 2
    · have HR : Hid (readO l i s = ([], 21)) := by rw [Hid, HR0.out, if_pos ha]
      rw [ha] at c3
      clear HR0 ha
      go_wp2
      go_ret2
      exact ⟨none, 0, by rw [HR.out]; rfl, by rw [HR.out]; simp, Nat.zero_le _, by rw [HR.out]; exact fun h => absurd rfl h, HB.out⟩
    · have HR : Hid (readO l i s = bytesO x.t x.v) := by rw [Hid, HR0.out, if_neg ha]
      have ha' : (x.a == 2) = false := by simpa using ha
      clear HR0 ha
      go_wp2
      have hk : ∀ w2, Below w1.drew.heap.size w1.drew w2 → w2.cell? ⟨b, off + p * 9 + 2, none⟩ = some (.int .i64 x.t) ∧ w2.cell? ⟨b, off + p * 9 + 6, none⟩ = some (.int .i64 x.v) := fun w2 hb2 =>
        ⟨(hb2.cell (p := ⟨b, off + p * 9 + 2, none⟩) hbl).trans c2, (hb2.cell (p := ⟨b, off + p * 9 + 6, none⟩) hbl).trans c6⟩
      go_region_held3 (fun w' => w'.cell? ⟨b, off + p * 9 + 2, none⟩ = some (.int .i64 x.t) ∧ w'.cell? ⟨b, off + p * 9 + 6, none⟩ = some (.int .i64 x.v)) (first | exact ⟨c2, c6⟩ | exact hk _ hb2) (first | (go_at_call 26; refine (refBytes_any x.t x.v _).mono ?_; rintro e w2 ⟨A', c', rfl, hc1, hc2, hr, hb2⟩))
      have HRR := Lib.hid hr
      have HB2 : Hid (Below w.heap.size w w2) := HB.out.drew.trans (hb2.mono HB.out.size)
      clear hr hb2
      go_wp2
      go_ret2
      exact ⟨A', c', by rw [HR.out]; rfl, by rw [HR.out]; exact hc1, hc2, by rw [HR.out]; exact HRR.out, HB2.out⟩

set_option maxRecDepth 100000 in
set_option maxHeartbeats 4000000 in
theorem refWrite_any (g : Nat) (A : Option Addr) (n c : Nat) (l : List Ob) (i s : Int) (A2 : Option Addr) (n2 c2 : Nat) (b : List Int) (en : Bool) (w : World) (hg : g < w.heap.size) (hA : RdN w g A (ocells l)) (hn : l.length = n) (hc : n ≤ c) (hcc : c ≤ maxLen) (h200 : n ≤ 200)
    (hA2 : Rd w w.heap.size A2 (kcells .u8 b)) (hn2 : b.length = n2) (hc2 : n2 ≤ c2) (hcc2 : c2 ≤ maxLen) (hr : ∀ x ∈ b, 0 ≤ x ∧ x < 256) :
    Calls Try.prog 37 #[.slice A n c, .int .i64 i, .int .i64 s, .slice A2 n2 c2, .bool en] w fun e w' => ∃ A' c', e = .returned (.tuple #[.slice A' n c', .int .i64 (writeO l i s b en).2]) ∧ n ≤ c' ∧ c' ≤ maxLen ∧ RdN w' g A' (ocells (writeO l i s b en).1) ∧ Below w.heap.size w w' := by
  have hf := refFind_any A n c l i s w hA.rd hn hc hcc
  have HA := Lib.hid hA
  have HN := Lib.hid hn
  have HA2 := Lib.hid hA2
  have HN2 := Lib.hid hn2
  have HBR := Lib.hid hr
  clear hA hn hA2 hn2 hr
  cases hp : locO l i s with
  | none =>
    have HR : Hid (writeO l i s b en = (l, ferr l i)) := by show _ = _; unfold writeO; rw [hp]
    have HV : Hid (findR l i s = .tuple #[.int .i64 0, .int .i64 (ferr l i)]) := by show _ = _; unfold findR; rw [hp]
    have hne : (ferr l i != 0) = true := by simpa using ferr_ne l i
    generalize ferr l i = q at *
    clear hp
    go_enter Try.func37, Try.ntmps37
    go_wp2_with (fail)
    (with_reducible refine hf.mono ?_)
    rintro e w1 ⟨rfl, hb⟩
    rw [HV.out]
    have HB := Lib.hid hb
    clear hb
    go_wp2
    go_ret2
    exact ⟨A, c, by rw [HR.out]; rfl, hc, hcc, by rw [HR.out]; exact HA.out.below HB.out, HB.out⟩
  | some p =>
    obtain ⟨x, hx, _⟩ := locO_some hp
    have HV : Hid (findR l i s = .tuple #[.int .i64 p, .int .i64 0]) := by show _ = _; unfold findR; rw [hp]
    have HR0 : Hid (writeO l i s b en = if x.a = 0 then (l, 21) else if (x.hd && en) = true then (l, 12) else
        if (numO x.t b).2 ≠ 0 then (l, (numO x.t b).2) else setO l i s (numO x.t b).1) := by
      show _ = _; unfold writeO; rw [hp]; simp only [getD_of hx]
    have hlt : p < n := by have := (List.getElem?_eq_some_iff.1 hx).1; rw [HN.out] at this; exact this
    have HX := Lib.hid hx
    clear hp hx
    go_enter Try.func37, Try.ntmps37
    go_wp2_with (fail)
    (with_reducible refine hf.mono ?_)
    rintro e w1 ⟨rfl, hb⟩
    rw [HV.out]
    have HB := Lib.hid hb
    clear hb
    have HA1 : Hid (RdN w1 g A (ocells l)) := HA.out.below HB.out
    have HA21 : Hid (Rd w1 w1.heap.size A2 (kcells .u8 b)) := (HA2.out.below HB.out (Nat.le_refl _)).more HB.out.size
    obtain ⟨q, off, hAe, hbl, c0, c1, c2', c3, c4, c5, c6, c7, c8⟩ := HA1.out.rd.ob HX.out
    subst hAe
    have HCC := Lib.hid hcc
    unfold maxLen at hcc
    have hs := HB.out.size
    clear c0 c1 c4 c5 c6 c7
    by_cases ha : x.a = 0
    · have HR : Hid (writeO l i s b en = (l, 21)) := by rw [Hid, HR0.out, if_pos ha]
      rw [ha] at c3
      clear HR0 ha
      go_wp2
      go_ret2
      exact ⟨_, c, by rw [HR.out]; rfl, hc, HCC.out, by rw [HR.out]; exact HA1.out, HB.out⟩
    have ha' : (x.a == 0) = false := by simpa using ha
    by_cases hh : (x.hd && en) = true
    · have HR : Hid (writeO l i s b en = (l, 12)) := by rw [Hid, HR0.out, if_neg ha, if_pos hh]
      obtain ⟨e1, e2⟩ : x.hd = true ∧ en = true := by simpa using hh
      rw [e1] at c8
      subst e2
      clear ha HR0 hh e1
      go_wp2
      go_ret2
      exact ⟨_, c, by rw [HR.out]; rfl, hc, HCC.out, by rw [HR.out]; exact HA1.out, HB.out⟩
    have HR2 : Hid (writeO l i s b en = if (numO x.t b).2 ≠ 0 then (l, (numO x.t b).2) else setO l i s (numO x.t b).1) := by rw [Hid, HR0.out, if_neg ha, if_neg hh]
    have HEN : Hid (x.hd = false ∨ (x.hd = true ∧ en = false)) := by
      show x.hd = false ∨ (x.hd = true ∧ en = false)
      revert hh
      cases x.hd <;> cases en <;> simp
    obtain ⟨xhd, hxhd⟩ : ∃ z, x.hd = z := ⟨_, rfl⟩
    rw [hxhd] at c8 HEN
    clear ha HR0 hh hxhd
    obtain ⟨W, hW⟩ : ∃ W, writeO l i s b en = W := ⟨_, rfl⟩
    have HW := Lib.hid hW
    rw [hW] at HR2
    clear hW
    rcases HEN.out with rfl | ⟨rfl, rfl⟩
    all_goals
      clear HEN
      go_wp2_with (fail)
      (with_reducible refine (refNumber_any x.t A2 n2 c2 b w1 HA21.out HN2.out hc2 hcc2 HBR.out).mono ?_)
      rintro e w2 ⟨rfl, rfl⟩
      simp only [numR]
      generalize numO x.t b = z at *
      obtain ⟨z, ze⟩ := z
      simp only at HR2 ⊢
      by_cases he : ze = 0
      · have HR : Hid (W = setO l i s z) := by rw [Hid, HR2.out, if_neg (by simpa using he)]
        subst he
        clear HR2
        go_wp2_with (fail)
        (with_reducible refine (refSet_any g _ n c l i s z w1 (by omega) HA1.out HN.out hc HCC.out h200).mono ?_)
        rintro e w3 ⟨A', c', rfl, hc1', hc2', hr', hb'⟩
        rw [← HR.out] at hr'
        have HRR := Lib.hid hr'
        have HB3 : Hid (Below w.heap.size w w3) := HB.out.trans (hb'.mono HB.out.size)
        clear hr' hb'
        go_wp2
        go_ret2
        exact ⟨A', c', by rw [HW.out, HR.out]; rfl, hc1', hc2', by rw [HW.out]; exact HRR.out, HB3.out⟩
      · have HR : Hid (W = (l, ze)) := by rw [Hid, HR2.out, if_pos he]
        have he' : (ze != 0) = true := by simpa using he
        clear HR2 he
        go_wp2
        go_ret2
        exact ⟨_, c, by rw [HW.out, HR.out]; rfl, hc, HCC.out, by rw [HW.out, HR.out]; exact HA1.out, HB.out⟩
end Go.Proofs.Yteooabcgojadcaa
