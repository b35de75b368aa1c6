
/-
  find, Get, Set, List of a dictionary.
-/
import Derived.Test.YtjdknddnanopaaaBW3
import Derived.Test.YtjdknddnanopaaaBPlain3
namespace Go.Proofs.Ytjdknddnanopaaa.Bus
open Go.RowKit
set_option linter.unusedVariables false

/-- A dictionary of these objects. -/
def Dic (w0 wr : World) (d : Nat) (v : Value) (bp bk : Nat) (l : List Ob) : Prop := ∃ k k', DictAt w0 wr d v bp bk l (placeO l) (hasO l) k k' ∧ l.length ≤ 128

theorem Dic.of {w0 wr : World} {d : Nat} {v : Value} {bp bk : Nat} {l : List Ob} {n : Nat} (h : DictAt w0 wr d v bp bk l (placeTo l n) (knownTo l n) n n) (hf : Fine l) (hn : l.length = n) : Dic w0 wr d v bp bk l := by
  subst hn
  rw [place_all hf, known_all] at h
  exact ⟨_, _, h, hf.few⟩

/-- What find returns. -/
def findV (l : List Ob) (i s : Int) : Value := match locO l i s with
  | some p => .tuple #[.int .i64 p, .nilIface]
  | none => .tuple #[.int .i64 0, .iface 77 (.int .i64 (ferr l i))]

theorem ferr_ne (l : List Ob) (i : Int) : ferr l i ≠ 0 := by unfold ferr; split <;> omega

section
variable {w0 w : World} {d : Nat} {v : Value} {bp bk : Nat} {l : List Ob}

set_option maxHeartbeats 1000000 in
theorem find_any (hD : Dic w0 w d v bp bk l) (i s : Int) (wi : (Lit.int .i64 i).wf = true) (ws : (Lit.int .i64 s).wf = true) :
    Calls Try.prog 90 #[.pointer (some ⟨d, 0, none⟩), .int .i64 i, .int .i64 s] w fun e w' => e = .returned (findV l i s) ∧ w = w' := by
  obtain ⟨k, k', hD, _⟩ := hD
  obtain ⟨kl, hkey⟩ := key_of i s wi ws
  have hl1 := hD.pl.look hkey
  have hl2 := hD.kn.look wi
  have c1 := hD.c1
  have c2 := hD.c2
  simp only [keyV] at hl1
  clear hkey hD
  cases hp : locO l i s with
  | some p =>
    have HV : Hid (findV l i s = .tuple #[.int .i64 p, .nilIface]) := by show _ = _; unfold findV; rw [hp]
    have e1 : placeO l i s = some (p : Int) := by unfold placeO; rw [hp]; rfl
    rw [e1] at hl1
    simp only [Option.getD_some, Option.isSome_some] at hl1
    clear hp
    go_enter Try.func90, Try.ntmps90
    go_wp2
    go_ret2
    exact ⟨by rw [HV.out]; rfl, rfl⟩
  | none =>
    have e1 : placeO l i s = none := by unfold placeO; rw [hp]; rfl
    rw [e1] at hl1
    simp only [Option.getD_none, Option.isSome_none] at hl1
    cases hh : hasO l i
    · have HV : Hid (findV l i s = .tuple #[.int .i64 0, .iface 77 (.int .i64 5)]) := by show _ = _; unfold findV ferr; rw [hp, hh]; rfl
      rw [hh] at hl2
      clear hp hh
      go_enter Try.func90, Try.ntmps90
      go_wp2
      go_ret2
      exact ⟨by rw [HV.out]; rfl, rfl⟩
    · have HV : Hid (findV l i s = .tuple #[.int .i64 0, .iface 77 (.int .i64 10)]) := by show _ = _; unfold findV ferr; rw [hp, hh]; rfl
      rw [hh] at hl2
      clear hp hh
      go_enter Try.func90, Try.ntmps90
      go_wp2
      go_ret2
      exact ⟨by rw [HV.out]; rfl, rfl⟩
end

theorem eq_ptr (b o : Nat) (w : World) : (binOp .eql 93 (.pointer (some ⟨b, o, none⟩)) (.pointer none)).run Try.prog w = .ok (.bool false) w := by kernel_rfl
theorem eq_ptr0 (w : World) : (binOp .eql 93 (.pointer none) (.pointer none)).run Try.prog w = .ok (.bool true) w := by kernel_rfl

section
variable {w0 w : World} {d : Nat} {v : Value} {bp bk : Nat} {l : List Ob}

theorem Dic.ob (hD : Dic w0 w d v bp bk l) {p : Nat} {x : Ob} (hx : l[p]? = some x) : ∃ g c, v = .slice (some ⟨g, 0, none⟩) l.length c ∧ l.length ≤ c ∧ c ≤ maxLen ∧ w0.heap.size ≤ g ∧ g < w.heap.size ∧ g ≠ d ∧
    ∀ j, j < 9 → w.cell? ⟨g, p * 9 + j, none⟩ = x.cells[j]? := by
  obtain ⟨k, k', hD, _⟩ := hD
  have hr := hD.row
  have hd := hD.rd
  have hlt : p < l.length := (List.getElem?_eq_some_iff.1 hx).1
  rcases hr.2 with ⟨rfl, h0⟩ | ⟨g, cap, cur, rfl, hb, hg, hnc, hcm, hcs, htake⟩
  · omega
  · refine ⟨g, cap, rfl, hnc, hcm, hb, (Array.getElem?_eq_some_iff.1 hg).1, ?_, fun j hj => own_flat Ob.cells 9 Ob.cells_length rfl hr hx j hj⟩
    intro h
    subst h
    exact hd rfl

set_option maxHeartbeats 1000000 in
theorem Get_any (hD : Dic w0 w d v bp bk l) (i s : Int) (wi : (Lit.int .i64 i).wf = true) (ws : (Lit.int .i64 s).wf = true) :
    Calls Try.prog 46 #[.pointer (some ⟨d, 0, none⟩), .int .i64 i, .int .i64 s] w fun e w' => e = .returned (.tuple #[.int .i64 (getO l i s).1, errV (getO l i s).2]) ∧ w = w' := by
  have hf := find_any hD i s wi ws
  have h1 := eq_ptr
  have h2 := ne_nil
  have h3 := ne_err
  cases hp : locO l i s with
  | some p =>
    obtain ⟨x, hx, _⟩ := locO_some hp
    have HV : Hid (getO l i s = (x.v, 0)) := by show _ = _; unfold getO; rw [hp]; simp only [getD_of hx]
    have HV2 : Hid (findV l i s = .tuple #[.int .i64 p, .nilIface]) := by show _ = _; unfold findV; rw [hp]
    obtain ⟨g, c, rfl, hc, hcc, hb, hg, hgd, hcell⟩ := hD.ob hx
    have c6 : w.cell? ⟨g, p * 9 + 6, none⟩ = some (.int .i64 x.v) := hcell 6 (by omega)
    have hlt : p < l.length := (List.getElem?_eq_some_iff.1 hx).1
    have h8 : l.length ≤ 128 := by obtain ⟨_, _, _, h⟩ := hD; exact h
    have c0 : w.cell? ⟨d, 0, none⟩ = some (.slice (some ⟨g, 0, none⟩) l.length c) := by obtain ⟨_, _, h, _⟩ := hD; exact h.c0
    generalize l.length = n at *
    clear hp hx hD hcell
    go_enter Try.func46, Try.ntmps46
    go_wp2_with (fail)
    (with_reducible refine hf.mono ?_)
    rintro e w1 ⟨rfl, rfl⟩
    rw [HV2.out]
    go_wp2
    go_ret2
    exact ⟨by rw [HV.out]; rfl, rfl⟩
  | none =>
    have HV : Hid (getO l i s = (0, ferr l i)) := by show _ = _; unfold getO; rw [hp]
    have HV2 : Hid (findV l i s = .tuple #[.int .i64 0, .iface 77 (.int .i64 (ferr l i))]) := by show _ = _; unfold findV; rw [hp]
    have HE := Lib.hid (errV_ne (ferr_ne l i))
    clear hp hD
    go_enter Try.func46, Try.ntmps46
    go_wp2_with (fail)
    (with_reducible refine hf.mono ?_)
    rintro e w1 ⟨rfl, rfl⟩
    rw [HV2.out]
    go_wp2
    go_ret2
    exact ⟨by rw [HV.out, HE.out]; rfl, rfl⟩

/-- Behind a store into an object's value. -/
theorem Dic.put {g c : Nat} (hD : Dic w0 w d (.slice (some ⟨g, 0, none⟩) l.length c) bp bk l) {p : Nat} {x : Ob} (hx : l[p]? = some x) (y : Int) :
    Dic w0 (w.setCell ⟨g, p * 9 + 6, none⟩ (.int .i64 y)) d (.slice (some ⟨g, 0, none⟩) l.length c) bp bk (l.set p (x.with y)) ∧ w.grownBy (w.setCell ⟨g, p * 9 + 6, none⟩ (.int .i64 y)) (some g) ∧ w.frozen? ⟨g, p * 9 + 6, none⟩ = false := by
  obtain ⟨k, k', hD, h8⟩ := hD
  obtain ⟨hl, hg⟩ := hD.row.stored (p * 9 + 6) (.int .i64 y)
  have hz : ocells (l.set p (x.with y)) = (ocells l).set (p * 9 + 6) (.int .i64 y) := flat_set Ob.cells 9 Ob.cells_length l p x (x.with y) 6 _ hx (by omega) rfl
  have hgb := (hD.row.lt g rfl).1
  refine ⟨⟨k, k', ⟨hD.below.setCell (p := ⟨g, p * 9 + 6, none⟩) hgb _, hg.cell hD.c0 (fun e => hD.rd (by simpa [Value.ownBlock] using e.symm)), hg.cell hD.c1 (fun e => hD.rd (by simpa [Value.ownBlock] using e.symm)),
    hg.cell hD.c2 (fun e => hD.rd (by simpa [Value.ownBlock] using e.symm)), by rw [hz, List.length_set]; exact hl, ?_, ?_, hD.hd, hD.hp, hD.hk, hD.pk, hD.dp, hD.dk, hD.rd, hD.rp, hD.rk⟩, by rw [List.length_set]; exact h8⟩, hg, hD.row.frozenAt _⟩
  · have e : placeO (l.set p (x.with y)) = placeO l := by funext i s; unfold placeO; rw [locO_set hx]
    rw [e]
    exact hD.pl.kept hg (fun e => hD.rp (by simpa [Value.ownBlock] using e.symm))
  · rw [hasO_set hx]
    exact hD.kn.kept hg (fun e => hD.rk (by simpa [Value.ownBlock] using e.symm))

set_option maxHeartbeats 1000000 in
theorem Set_any (hD : Dic w0 w d v bp bk l) (i s y : Int) (wi : (Lit.int .i64 i).wf = true) (ws : (Lit.int .i64 s).wf = true) :
    Calls Try.prog 51 #[.pointer (some ⟨d, 0, none⟩), .int .i64 i, .int .i64 s, .int .i64 y] w fun e w' => e = .returned (errV (setO l i s y).2) ∧ Dic w0 w' d v bp bk (setO l i s y).1 ∧ w.grownBy w' v.ownBlock := by
  have hf := find_any hD i s wi ws
  have h1 := eq_ptr
  have h2 := ne_nil
  have h3 := ne_err
  cases hp : locO l i s with
  | some p =>
    obtain ⟨x, hx, _⟩ := locO_some hp
    have HV2 : Hid (findV l i s = .tuple #[.int .i64 p, .nilIface]) := by show _ = _; unfold findV; rw [hp]
    obtain ⟨g, c, hv, hc, hcc, hb, hg, hgd, hcell⟩ := hD.ob hx
    have c4 : w.cell? ⟨g, p * 9 + 4, none⟩ = some (.int .i64 x.lo) := hcell 4 (by omega)
    have c5 : w.cell? ⟨g, p * 9 + 5, none⟩ = some (.int .i64 x.hi) := hcell 5 (by omega)
    have c6 : w.cell? ⟨g, p * 9 + 6, none⟩ = some (.int .i64 x.v) := hcell 6 (by omega)
    have hlt : p < l.length := (List.getElem?_eq_some_iff.1 hx).1
    have h8 : l.length ≤ 128 := by obtain ⟨_, _, _, h⟩ := hD; exact h
    have c0 : w.cell? ⟨d, 0, none⟩ = some (.slice (some ⟨g, 0, none⟩) l.length c) := by obtain ⟨_, _, h, _⟩ := hD; rw [← hv]; exact h.c0
    subst hv
    by_cases hout : y < x.lo ∨ x.hi < y
    · have HR : Hid (setO l i s y = (l, 3)) := by show _ = _; unfold setO; rw [hp]; simp only [getD_of hx]; rw [if_pos hout]
      have HD := Lib.hid hD
      generalize l.length = n at *
      clear hp hx hD hcell
      go_enter Try.func51, Try.ntmps51
      go_wp2_with (fail)
      (with_reducible refine hf.mono ?_)
      rintro e w1 ⟨rfl, rfl⟩
      rw [HV2.out]
      by_cases ho : y < x.lo
      · go_wp2
        go_ret
        exact ⟨by rw [HR.out]; rfl, by rw [HR.out]; exact HD.out, World.grownBy.refl _ _⟩
      · have ho2 : x.hi < y := by omega
        go_wp2
        go_ret
        exact ⟨by rw [HR.out]; rfl, by rw [HR.out]; exact HD.out, World.grownBy.refl _ _⟩
    · have HR : Hid (setO l i s y = (l.set p (x.with y), 0)) := by show _ = _; unfold setO; rw [hp]; simp only [getD_of hx]; rw [if_neg hout]
      have ho1 : ¬ y < x.lo := by omega
      have ho2 : ¬ x.hi < y := by omega
      obtain ⟨hd2, hg2, hfr⟩ := hD.put hx y
      have HD2 := Lib.hid hd2
      have HG2 := Lib.hid hg2
      generalize l.length = n at *
      clear hp hx hD hcell hout hd2 hg2
      go_enter Try.func51, Try.ntmps51
      go_wp2_with (fail)
      (with_reducible refine hf.mono ?_)
      rintro e w1 ⟨rfl, rfl⟩
      rw [HV2.out]
      go_wp2
      go_ret
      exact ⟨by rw [HR.out]; rfl, by rw [HR.out]; exact HD2.out, HG2.out⟩
  | none =>
    have HR : Hid (setO l i s y = (l, ferr l i)) := by show _ = _; unfold setO; rw [hp]
    have HV2 : Hid (findV l i s = .tuple #[.int .i64 0, .iface 77 (.int .i64 (ferr l i))]) := by show _ = _; unfold findV; rw [hp]
    have HE := Lib.hid (errV_ne (ferr_ne l i))
    have HD := Lib.hid hD
    clear hp hD
    go_enter Try.func51, Try.ntmps51
    go_wp2_with (fail)
    (with_reducible refine hf.mono ?_)
    rintro e w1 ⟨rfl, rfl⟩
    rw [HV2.out]
    go_wp2
    go_ret
    exact ⟨by rw [HR.out, HE.out]; rfl, by rw [HR.out]; exact HD.out, World.grownBy.refl _ _⟩
end
end Go.Proofs.Ytjdknddnanopaaa.Bus
