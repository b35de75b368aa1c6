/-
  The method release of a task's line.
-/
import Derived.Test.YtcfhnjdaijdoiaaW4
import Derived.Test.YtcfhnjdaijdoiaaMem5
namespace Go.Proofs.Ytcfhnjdaijdoiaa
open Go.RowKit
set_option linter.unusedVariables false

/-- What release leaves: the queue's new value v', in the world w1 behind the append; then it is stored, and the work of the first job. -/
def RelEnd (g o B : Nat) (c : Int) (v : Value) (q : List Int) (k : Int) (w : World) (e : Ending) (w' : World) : Prop :=
  e = .returned (.tuple #[]) ∧ ∃ v' w1, QS w1 3 B v' (q ++ [k]) ∧ w.grownBy w1 v.ownBlock ∧ (v'.ownBlock = v.ownBlock ∨ ∃ h, v'.ownBlock = some h ∧ w.heap.size ≤ h) ∧
    w' = if q = [] then (w1.setCell ⟨g, o + 5, none⟩ v').setCell ⟨g, o + 6, none⟩ (.int .i64 c) else w1.setCell ⟨g, o + 5, none⟩ v'

set_option maxHeartbeats 1000000 in
theorem release_any (g o B : Nat) (c left k : Int) (v : Value) (q : List Int) (w : World) (hq : QS w 3 B v q) (hB : B ≤ w.heap.size) (hl : q.length + 1 ≤ 1000000) (hne : v.ownBlock ≠ some g)
    (c2 : w.cell? ⟨g, o + 2, none⟩ = some (.int .i64 c)) (c5 : w.cell? ⟨g, o + 5, none⟩ = some v) (c6 : w.cell? ⟨g, o + 6, none⟩ = some (.int .i64 left))
    (f5 : w.frozen? ⟨g, o + 5, none⟩ = false) (f6 : w.frozen? ⟨g, o + 6, none⟩ = false) :
    Calls Try.prog 59 #[.pointer (some ⟨g, o, none⟩), .int .i64 k] w (RelEnd g o B c v q k w) := by
  obtain ⟨i0, hi, hz0, hz1, hz2⟩ := info_parts info3
  have hgl : g < w.heap.size := World.block_lt_of_cell? w _ c5
  obtain ⟨A, cv, hv, _, _⟩ := hq.form
  have HQ := Lib.hid hq
  have HV := Lib.hid hv
  have HNE := Lib.hid hne
  have HB := Lib.hid hB
  have HC2 := Lib.hid c2
  have HC6 := Lib.hid c6
  have HC5 := Lib.hid c5
  have HF5 := Lib.hid f5
  have HF6 := Lib.hid f6
  clear hq hv hne hB c2 c6 f5 f6
  go_enter Try.func59, Try.ntmps59
  go_wp2_with (at_builtin; refine wpList_append_qs _ rfl _ _ 29 rfl B 3 i0 (.int .i64 0) Try.underlying29 hi hz0 hz1 hz2 rfl v q rfl (HQ.out.kept (World.grownBy_alloc w _ none) (fun _ _ => by simp)) k ⟨w.heap.size, 0, none⟩ 1 rfl ?c1 ?c2 ?c3 ?_)
  case c1 => simp
  case c2 => omega
  case c3 => have := HB.out; simp; omega
  intro v' w1 hq1 hg1 hb1
  have hgr : Hid (w.grownBy w1 v.ownBlock) := (World.grownBy_alloc w _ v.ownBlock).trans hg1
  have hgne : some g ≠ v.ownBlock := fun e => HNE.out e.symm
  have e2 : w1.cell? ⟨g, o + 2, none⟩ = some (.int .i64 c) := hgr.out.cell HC2.out hgne
  have e5 : w1.cell? ⟨g, o + 5, none⟩ = some v := hgr.out.cell HC5.out hgne
  have e6 : w1.cell? ⟨g, o + 6, none⟩ = some (.int .i64 left) := hgr.out.cell HC6.out hgne
  have f5 : w1.frozen? ⟨g, o + 5, none⟩ = false := (World.frozen?_of_block (a := ⟨g, o + 5, none⟩) (hgr.out.block g hgl hgne)).trans HF5.out
  have f6 : w1.frozen? ⟨g, o + 6, none⟩ = false := (World.frozen?_of_block (a := ⟨g, o + 6, none⟩) (hgr.out.block g hgl hgne)).trans HF6.out
  have hat : Hid (v'.ownBlock = v.ownBlock ∨ ∃ h, v'.ownBlock = some h ∧ w.heap.size ≤ h) := by
    rcases hb1 with h | h
    · exact .inl h
    · exact .inr ⟨_, h, by simp⟩
  have HQ1 := Lib.hid hq1
  obtain ⟨A', c', hv', _, _⟩ := hq1.form
  rw [List.length_append, List.length_cons, List.length_nil, Nat.zero_add] at hv'
  subst hv'
  clear hq1 hg1 hb1 c5 hgne
  by_cases hq0 : q = []
  · have HW : Hid (RelEnd g o B c v q k w (.returned (.tuple #[])) ((w1.setCell ⟨g, o + 5, none⟩ (.slice A' (q.length + 1) c')).setCell ⟨g, o + 6, none⟩ (.int .i64 c))) :=
      ⟨rfl, _, w1, HQ1.out, hgr.out, hat.out, by rw [if_pos hq0]⟩
    subst hq0
    have ht : (((0 : Nat) : Int) + 1 == 1) = true := rfl
    go_wp2
    go_end0
    exact HW.out
  · have HW : Hid (RelEnd g o B c v q k w (.returned (.tuple #[])) (w1.setCell ⟨g, o + 5, none⟩ (.slice A' (q.length + 1) c'))) :=
      ⟨rfl, _, w1, HQ1.out, hgr.out, hat.out, by rw [if_neg hq0]⟩
    have hpos : 0 < q.length := List.length_pos_iff.2 hq0
    have ht : ((q.length : Int) + 1 == 1) = false := by simp; omega
    clear hq0
    generalize q.length = m at *
    go_wp2
    go_end0
    exact HW.out
end Go.Proofs.Ytcfhnjdaijdoiaa
