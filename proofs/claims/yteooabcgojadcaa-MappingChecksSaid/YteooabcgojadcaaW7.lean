/-
  Write, Read, List of a dictionary.
-/
import Derived.Test.YteooabcgojadcaaW4
import Derived.Test.YteooabcgojadcaaW6
namespace Go.Proofs.Yteooabcgojadcaa
open Go.RowKit
set_option linter.unusedVariables false

section
variable {w0 w : World} {d : Nat} {v : Value} {bp bk : Nat} {l : List Ob}

set_option maxRecDepth 100000 in
set_option maxHeartbeats 2000000 in
theorem Write_any (hD : Dic w0 w d v bp bk l) (i s : Int) (A : Option Addr) (n c : Nat) (b : List Int) (en : Bool) (wi : (Lit.int .i64 i).wf = true) (ws : (Lit.int .i64 s).wf = true)
    (hA : Rd w w.heap.size A (kcells .u8 b)) (hn : b.length = n) (hc : n ≤ c) (hcc : c ≤ maxLen) (hr : ∀ x ∈ b, 0 ≤ x ∧ x < 256) :
    Calls Try.prog 29 #[.pointer (some ⟨d, 0, none⟩), .int .i64 i, .int .i64 s, .slice A n c, .bool en] w fun e w' => e = .returned (errV (writeO l i s b en).2) ∧ Dic w0 w' d v bp bk (writeO l i s b en).1 ∧ w.grownBy w' v.ownBlock := by
  have hf := find_any hD i s wi ws
  have h1 := eq_ptr
  have h2 := ne_nil
  have h3 := ne_err
  have HA := Lib.hid hA
  have HN := Lib.hid hn
  have HBR := Lib.hid hr
  clear hA hn hr
  cases hp : locO l i s with
  | some p =>
    obtain ⟨x, hx, _⟩ := locO_some hp
    have HV2 : Hid (findV l i s = .tuple #[.int .i64 p, .nilIface]) := by show _ = _; unfold findV; rw [hp]
    obtain ⟨g, gc, hv, hgc, hgcc, hb, hg, hgd, hcell⟩ := hD.ob hx
    have c2 : w.cell? ⟨g, p * 9 + 2, none⟩ = some (.int .i64 x.t) := hcell 2 (by omega)
    have c3 : w.cell? ⟨g, p * 9 + 3, none⟩ = some (.int .i64 x.a) := hcell 3 (by omega)
    have c4 : w.cell? ⟨g, p * 9 + 4, none⟩ = some (.int .i64 x.lo) := hcell 4 (by omega)
    have c5 : w.cell? ⟨g, p * 9 + 5, none⟩ = some (.int .i64 x.hi) := hcell 5 (by omega)
    have c6 : w.cell? ⟨g, p * 9 + 6, none⟩ = some (.int .i64 x.v) := hcell 6 (by omega)
    have c8 : w.cell? ⟨g, p * 9 + 8, none⟩ = some (.bool x.hd) := hcell 8 (by omega)
    have hlt : p < l.length := (List.getElem?_eq_some_iff.1 hx).1
    have h8 : l.length ≤ 128 := by obtain ⟨_, _, _, h⟩ := hD; exact h
    have c0 : w.cell? ⟨d, 0, none⟩ = some (.slice (some ⟨g, 0, none⟩) l.length gc) := by obtain ⟨_, _, h, _⟩ := hD; rw [← hv]; exact h.c0
    subst hv
    have HPUT : Hid (∀ y, Dic w0 (w.setCell ⟨g, p * 9 + 6, none⟩ (.int .i64 y)) d (.slice (some ⟨g, 0, none⟩) l.length gc) bp bk (l.set p (x.with y)) ∧ w.grownBy (w.setCell ⟨g, p * 9 + 6, none⟩ (.int .i64 y)) (some g) ∧ w.frozen? ⟨g, p * 9 + 6, none⟩ = false) := fun y => hD.put hx y
    have HR : Hid (writeO l i s b en = if x.a = 0 then (l, 21) else if (x.hd && en) = true then (l, 12) else
        if (numO x.t b).2 ≠ 0 then (l, (numO x.t b).2) else if (numO x.t b).1 < x.lo ∨ x.hi < (numO x.t b).1 then (l, 3) else (l.set p (x.with (numO x.t b).1), 0)) := by
      show _ = _; unfold writeO setO; rw [hp]; simp only [getD_of hx]
    have HD := Lib.hid hD
    have hN := Number_any x.t A n c b w HA.out HN.out hc hcc HBR.out
    generalize numO x.t b = q at *
    obtain ⟨q, qe⟩ := q
    simp only [numV] at HR hN
    clear hp hx hD hcell
    by_cases ha : x.a = 0
    · have HM : Hid (writeO l i s b en = (l, 21)) := by rw [Hid, HR.out, if_pos ha]
      rw [ha] at c3
      generalize l.length = m at *
      clear ha HR
      go_enter Try.func29, Try.ntmps29
      go_wp2_with (fail)
      (with_reducible refine hf.mono ?_)
      rintro e w1 ⟨rfl, rfl⟩
      rw [HV2.out]
      go_wp2
      go_ret
      exact ⟨by rw [HM.out]; rfl, by rw [HM.out]; exact HD.out, World.grownBy.refl _ _⟩
    have ha' : (x.a == 0) = false := by simpa using ha
    by_cases hh : (x.hd && en) = true
    · have HM : Hid (writeO l i s b en = (l, 12)) := by rw [Hid, HR.out, if_neg ha, if_pos hh]
      obtain ⟨e1, e2⟩ : x.hd = true ∧ en = true := by simpa using hh
      rw [e1] at c8
      subst e2
      generalize l.length = m at *
      clear ha HR hh e1
      go_enter Try.func29, Try.ntmps29
      go_wp2_with (fail)
      (with_reducible refine hf.mono ?_)
      rintro e w1 ⟨rfl, rfl⟩
      rw [HV2.out]
      go_wp2
      go_ret
      exact ⟨by rw [HM.out]; rfl, by rw [HM.out]; exact HD.out, World.grownBy.refl _ _⟩
    have HR2 : Hid (writeO l i s b en = if qe ≠ 0 then (l, qe) else if q < x.lo ∨ x.hi < q then (l, 3) else (l.set p (x.with q), 0)) := by rw [Hid, HR.out, if_neg ha, if_neg hh]
    have HM0 := Lib.hid hN
    have HEN : Hid (x.hd = false ∨ (x.hd = true ∧ en = false)) := by cases e1 : x.hd <;> cases e2 : en <;> simp_all
    obtain ⟨xhd, hxhd⟩ : ∃ z, x.hd = z := ⟨_, rfl⟩
    rw [hxhd] at c8 HEN
    clear ha HR hh hxhd hN
    generalize l.length = m at *
    generalize writeO l i s b en = W at *
    rcases HEN.out with rfl | ⟨rfl, rfl⟩
    all_goals
      clear HEN
      go_enter Try.func29, Try.ntmps29
      go_wp2_with (fail)
      (with_reducible refine hf.mono ?_)
      rintro e w1 ⟨rfl, rfl⟩
      rw [HV2.out]
      go_wp2_with (fail)
      (with_reducible refine HM0.out.mono ?_)
      rintro e w1 ⟨rfl, rfl⟩
      clear HM0
      by_cases he : qe = 0
      · subst he
        simp only [errV_zero]
        by_cases hq : q < x.lo ∨ x.hi < q
        · have HM : Hid (W = (l, 3)) := by rw [Hid, HR2.out, if_neg (by simp), if_pos hq]
          clear HR2
          by_cases hq1 : q < x.lo
          · go_wp2
            go_ret
            exact ⟨by rw [HM.out]; rfl, by rw [HM.out]; exact HD.out, World.grownBy.refl _ _⟩
          · have hq2 : x.hi < q := by omega
            go_wp2
            go_ret
            exact ⟨by rw [HM.out]; rfl, by rw [HM.out]; exact HD.out, World.grownBy.refl _ _⟩
        · have HM : Hid (W = (l.set p (x.with q), 0)) := by rw [Hid, HR2.out, if_neg (by simp), if_neg hq]
          have hq1 : ¬ q < x.lo := by omega
          have hq2 : ¬ x.hi < q := by omega
          obtain ⟨hd2, hg2, hfr⟩ := HPUT.out q
          have HD2 := Lib.hid hd2
          have HG2 := Lib.hid hg2
          clear HR2 hq hd2 hg2 HPUT
          go_wp2
          go_ret
          exact ⟨by rw [HM.out]; rfl, by rw [HM.out]; exact HD2.out, HG2.out⟩
      · have HM : Hid (W = (l, qe)) := by rw [Hid, HR2.out, if_pos he]
        have HE := Lib.hid (errV_ne he)
        rw [HE.out]
        clear HR2 he
        go_wp2
        go_ret
        exact ⟨by rw [HM.out, HE.out]; rfl, by rw [HM.out]; exact HD.out, World.grownBy.refl _ _⟩
  | none =>
    have HR : Hid (writeO l i s b en = (l, ferr l i)) := by show _ = _; unfold writeO; rw [hp]
    have HV2 : Hid (findV l i s = .tuple #[.int .i64 0, .iface 56 (.int .i64 (ferr l i))]) := by show _ = _; unfold findV; rw [hp]
    have HE := Lib.hid (errV_ne (ferr_ne l i))
    have HD := Lib.hid hD
    clear hp hD
    go_enter Try.func29, Try.ntmps29
    go_wp2_with (fail)
    (with_reducible refine hf.mono ?_)
    rintro e w1 ⟨rfl, rfl⟩
    rw [HV2.out]
    go_wp2
    go_ret
    exact ⟨by rw [HR.out, HE.out]; rfl, by rw [HR.out]; exact HD.out, World.grownBy.refl _ _⟩

set_option maxHeartbeats 1000000 in
theorem Read_any (hD : Dic w0 w d v bp bk l) (i s : Int) (wi : (Lit.int .i64 i).wf = true) (ws : (Lit.int .i64 s).wf = true) :
    Calls Try.prog 32 #[.pointer (some ⟨d, 0, none⟩), .int .i64 i, .int .i64 s] w fun e w' => ∃ A' c', e = .returned (.tuple #[.slice A' (readO l i s).1.length c', errV (readO l i s).2]) ∧ (readO l i s).1.length ≤ c' ∧ c' ≤ maxLen ∧ Rd w' w'.heap.size A' (kcells .u8 (readO l i s).1) ∧ Below w.heap.size w w' := by
  have hf := find_any hD i s wi ws
  have h1 := eq_ptr
  have h2 := ne_nil
  have h3 := ne_err
  cases hp : locO l i s with
  | some p =>
    obtain ⟨x, hx, _⟩ := locO_some hp
    have HR : Hid (readO l i s = if x.a = 2 then ([], 21) else bytesO x.t x.v) := by show _ = _; unfold readO; rw [hp]; simp only [getD_of hx]
    have HV2 : Hid (findV l i s = .tuple #[.int .i64 p, .nilIface]) := by show _ = _; unfold findV; rw [hp]
    obtain ⟨g, gc, rfl, hgc, hgcc, hb, hg, hgd, hcell⟩ := hD.ob hx
    have c1 : w.cell? ⟨g, p * 9, none⟩ = some (.int .i64 x.i) := hcell 0 (by omega)
    have c11 : w.cell? ⟨g, p * 9 + 1, none⟩ = some (.int .i64 x.s) := hcell 1 (by omega)
    have c2 : w.cell? ⟨g, p * 9 + 2, none⟩ = some (.int .i64 x.t) := hcell 2 (by omega)
    have c3 : w.cell? ⟨g, p * 9 + 3, none⟩ = some (.int .i64 x.a) := hcell 3 (by omega)
    have c4 : w.cell? ⟨g, p * 9 + 4, none⟩ = some (.int .i64 x.lo) := hcell 4 (by omega)
    have c5 : w.cell? ⟨g, p * 9 + 5, none⟩ = some (.int .i64 x.hi) := hcell 5 (by omega)
    have c6 : w.cell? ⟨g, p * 9 + 6, none⟩ = some (.int .i64 x.v) := hcell 6 (by omega)
    have c7 : w.cell? ⟨g, p * 9 + 7, none⟩ = some (.bool x.mp) := hcell 7 (by omega)
    have c8 : w.cell? ⟨g, p * 9 + 8, none⟩ = some (.bool x.hd) := hcell 8 (by omega)
    have hlt : p < l.length := (List.getElem?_eq_some_iff.1 hx).1
    have h8 : l.length ≤ 128 := by obtain ⟨_, _, _, h⟩ := hD; exact h
    have c0 : w.cell? ⟨d, 0, none⟩ = some (.slice (some ⟨g, 0, none⟩) l.length gc) := by obtain ⟨_, _, h, _⟩ := hD; exact h.c0
    generalize l.length = n at *
    have hBY := fun wx => Bytes_any x.t x.v wx
    clear hp hx hD hcell
    by_cases ha : x.a = 2
    · have HM : Hid (readO l i s = ([], 21)) := by rw [Hid, HR.out, if_pos ha]
      rw [ha] at c3
      clear ha HR
      go_enter Try.func32, Try.ntmps32
      go_wp2_with (fail)
      (with_reducible refine hf.mono ?_)
      rintro e w1 ⟨rfl, rfl⟩
      rw [HV2.out]
      go_wp2
      go_ret2
      exact ⟨none, 0, by rw [HM.out]; rfl, by rw [HM.out]; simp, Nat.zero_le _, by rw [HM.out]; exact fun h => absurd rfl h, (Below.refl _ _).alloc (Nat.le_refl _) _⟩
    · have HM : Hid (readO l i s = bytesO x.t x.v) := by rw [Hid, HR.out, if_neg ha]
      have ha' : (x.a == 2) = false := by simpa using ha
      rw [HM.out]
      generalize bytesO x.t x.v = q at *
      obtain ⟨q, qe⟩ := q
      simp only at hBY
      clear ha HR HM
      go_enter Try.func32, Try.ntmps32
      go_wp2_with (fail)
      (with_reducible refine hf.mono ?_)
      rintro e w1 ⟨rfl, rfl⟩
      rw [HV2.out]
      go_wp2_with (fail)
      (with_reducible refine (hBY _).mono ?_)
      rintro e w2 ⟨A', c', rfl, hc1, hc2, hr, hb2⟩
      have HRR := Lib.hid hr
      have HB2 : Hid (Below w.heap.size w w2) := ((Below.refl w.heap.size w).alloc (Nat.le_refl _) _).trans (hb2.mono (by simp))
      clear hr hb2
      go_wp2
      go_ret2
      exact ⟨A', c', rfl, hc1, hc2, HRR.out, HB2.out⟩
  | none =>
    have HR : Hid (readO l i s = ([], ferr l i)) := by show _ = _; unfold readO; rw [hp]
    have HV2 : Hid (findV l i s = .tuple #[.int .i64 0, .iface 56 (.int .i64 (ferr l i))]) := by show _ = _; unfold findV; rw [hp]
    have HE := Lib.hid (errV_ne (ferr_ne l i))
    clear hp hD
    go_enter Try.func32, Try.ntmps32
    go_wp2_with (fail)
    (with_reducible refine hf.mono ?_)
    rintro e w1 ⟨rfl, rfl⟩
    rw [HV2.out]
    go_wp2
    go_ret2
    exact ⟨none, 0, by rw [HR.out, HE.out]; rfl, by rw [HR.out]; simp, Nat.zero_le _, by rw [HR.out]; exact fun h => absurd rfl h, Below.refl _ _⟩

/-- The row of a dictionary, read. -/
theorem Dic.rd (hD : Dic w0 w d v bp bk l) : ∃ A c, v = .slice A l.length c ∧ l.length ≤ c ∧ c ≤ maxLen ∧ Rd w w.heap.size A (ocells l) := by
  obtain ⟨k, k', hD, _⟩ := hD
  exact own_read hD.row

set_option maxHeartbeats 1000000 in
theorem List_any (hD : Dic w0 w d v bp bk l) :
    Calls Try.prog 24 #[.pointer (some ⟨d, 0, none⟩)] w fun e w' => ∃ v', e = .returned v' ∧ w'.ownsRow w.heap.size 52 9 v' l.length (ocells l) ∧ Below w.heap.size w w' := by
  have h1 := eq_ptr
  have h8 : l.length ≤ 128 := by obtain ⟨_, _, _, h⟩ := hD; exact h
  obtain ⟨A, c, rfl, hc, hcc, hr⟩ := hD.rd
  have c0 : w.cell? ⟨d, 0, none⟩ = some (.slice A l.length c) := by obtain ⟨_, _, h, _⟩ := hD; exact h.c0
  have hdl : d < w.heap.size := World.block_lt_of_cell? w _ c0
  have HR := Lib.hid hr
  have HN9 : Hid ((ocells l).length = l.length * 9) := by rw [ocells_length]; rfl
  obtain ⟨i0, hi, hz0, hz1, hz2⟩ := info_parts info52
  have hm0 : 0 ≤ maxLen := Nat.zero_le _
  generalize l.length = n at *
  clear hr hD
  go_enter Try.func24, Try.ntmps24
  go_wp2_with (at_builtin; refine wpList_append_rd _ rfl _ _ 22 rfl w.heap.size 52 i0 _ 9 64 Try.underlying22 hi hz0 hz1 hz2 rfl (by omega) _ 0 [] rfl (World.ownsRow_lit w #[] 0 (Nat.le_refl _) hm0 rfl) w.heap.size A n c (ocells l) rfl (HR.out.below ((Below.refl w.heap.size w).alloc (Nat.le_refl _) _) (Nat.le_refl _)) HN9.out (ocells_one l) ?c3 ?c4 ?c5 ?_)
  case c3 => unfold maxLen; omega
  case c4 => omega
  case c5 => simp
  intro v' w2 hown hgrow hat
  have HB2 : Hid (Below w.heap.size w w2) := ((Below.refl w.heap.size w).alloc (Nat.le_refl _) _).grown hgrow (by simp) (fun k hk => by simp [Value.ownBlock] at hk; omega)
  try simp only [Nat.zero_add, List.nil_append] at hown
  have HO := Lib.hid hown
  clear hown hgrow hat
  go_wp2
  go_ret
  exact ⟨v', rfl, HO.out, HB2.out⟩
end

theorem List_nil (w : World) : Calls Try.prog 24 #[.pointer none] w fun e w' => e = .returned (.slice none 0 0) ∧ w = w' := by
  have h1 := eq_ptr0
  go_enter Try.func24, Try.ntmps24
  go_wp2
  go_ret
  exact ⟨rfl, rfl⟩
theorem Get_nil (i s : Int) (w : World) : Calls Try.prog 31 #[.pointer none, .int .i64 i, .int .i64 s] w fun e w' => e = .returned (.tuple #[.int .i64 0, .iface 56 (.int .i64 1)]) ∧ w = w' := by
  have h1 := eq_ptr0
  go_enter Try.func31, Try.ntmps31
  go_wp2
  go_ret2
  exact ⟨rfl, rfl⟩
theorem Read_nil (i s : Int) (w : World) : Calls Try.prog 32 #[.pointer none, .int .i64 i, .int .i64 s] w fun e w' => e = .returned (.tuple #[.slice none 0 0, .iface 56 (.int .i64 1)]) ∧ w = w' := by
  have h1 := eq_ptr0
  go_enter Try.func32, Try.ntmps32
  go_wp2
  go_ret2
  exact ⟨rfl, rfl⟩
theorem Set_nil (i s y : Int) (w : World) : Calls Try.prog 30 #[.pointer none, .int .i64 i, .int .i64 s, .int .i64 y] w fun e w' => e = .returned (.iface 56 (.int .i64 1)) ∧ w = w' := by
  have h1 := eq_ptr0
  go_enter Try.func30, Try.ntmps30
  go_wp2
  go_ret
  exact ⟨rfl, rfl⟩
theorem Write_nil (i s : Int) (A : Option Addr) (n c : Nat) (en : Bool) (w : World) : Calls Try.prog 29 #[.pointer none, .int .i64 i, .int .i64 s, .slice A n c, .bool en] w fun e w' => e = .returned (.iface 56 (.int .i64 1)) ∧ w = w' := by
  have h1 := eq_ptr0
  go_enter Try.func29, Try.ntmps29
  go_wp2
  go_ret
  exact ⟨rfl, rfl⟩
end Go.Proofs.Yteooabcgojadcaa
