/-
  The lines at the start of the simulation.
-/
import Derived.Test.YtcfhnjdaijdoiaaMem6
namespace Go.Proofs.Ytcfhnjdaijdoiaa
open Go.RowKit

def zeroTsk : Tsk := ⟨0, 0, 0, 0, 0⟩
/-- The first k lines have their tasks. -/
def initTo (l : List Tsk) (k : Nat) : List Ln := l.mapIdx fun i x => if i < k then ⟨x, [], 0⟩ else ⟨zeroTsk, [], 0⟩

theorem initTo_get (l : List Tsk) (k i : Nat) : (initTo l k)[i]? = (l[i]?).map fun x => if i < k then (⟨x, [], 0⟩ : Ln) else ⟨zeroTsk, [], 0⟩ := by simp [initTo]
theorem initTo_length (l : List Tsk) (k : Nat) : (initTo l k).length = l.length := by simp [initTo]
theorem initTo_all (l : List Tsk) (k : Nat) (h : l.length ≤ k) : initTo l k = Go.Proofs.Ytcfhnjdaijdoiaa.start l := by
  apply List.ext_getElem?
  intro i
  rw [initTo_get, Go.Proofs.Ytcfhnjdaijdoiaa.start, List.getElem?_map]
  cases e : l[i]? with
  | none => rfl
  | some x =>
    have := (List.getElem?_eq_some_iff.1 e).1
    simp [show i < k by omega]
theorem initTo_step (l : List Tsk) (k : Nat) (x : Tsk) (h : l[k]? = some x) : initTo l (k + 1) = (initTo l k).set k ⟨x, [], 0⟩ := by
  apply List.ext_getElem?
  intro i
  rw [initTo_get, List.getElem?_set, initTo_length, initTo_get]
  by_cases e : k = i
  · subst e
    obtain ⟨hl, he⟩ := List.getElem?_eq_some_iff.1 h
    simp [hl, he]
  · rw [if_neg e]
    by_cases h1 : i < k
    · simp [h1, show i < k + 1 by omega]
    · simp [h1, show ¬ i < k + 1 by omega]

def noQueue : Value := .slice none 0 0
def zeroLine : Array Value := #[.int .i64 0, .int .i64 0, .int .i64 0, .int .i64 0, .int .i64 0, .slice none 0 0, .int .i64 0]

theorem made_lines (l : List Tsk) : (madeCells zeroLine (l.length * 7)).toList = lcells (initTo l 0) (List.replicate l.length noQueue) := by
  apply List.ext_getElem?
  intro j
  have hlen : (lcells (initTo l 0) (List.replicate l.length noQueue)).length = l.length * 7 := by
    unfold lcells
    rw [flat_length lnCells 7 lnCells_length, List.length_zip, initTo_length, List.length_replicate, Nat.min_self]
  by_cases hj : j < l.length * 7
  · have hk : j / 7 < l.length := by omega
    have e1 : (initTo l 0)[j / 7]? = some ⟨zeroTsk, [], 0⟩ := by
      rw [initTo_get, List.getElem?_eq_getElem hk]; simp
    have e2 : (List.replicate l.length noQueue)[j / 7]? = some noQueue := by
      rw [List.getElem?_replicate, if_pos hk]
    have hu : ∃ u, (lnCells ((⟨zeroTsk, [], 0⟩ : Ln), noQueue))[j % 7]? = some u := ⟨_, List.getElem?_eq_getElem (by rw [lnCells_length]; omega)⟩
    obtain ⟨u, hu⟩ := hu
    have := flat_get lnCells 7 lnCells_length _ (j / 7) (j % 7) _ u (zip_get e1 e2) hu
    rw [show j / 7 * 7 + j % 7 = j by omega] at this
    unfold lcells
    rw [this]
    simp only [madeCells, Array.toList_map, Array.toList_range, List.getElem?_map, List.getElem?_range hj, Option.map_some]
    have hm : j % 7 < 7 := by omega
    have h7 : zeroLine.size = 7 := rfl
    rw [h7]
    generalize j % 7 = m at *
    rcases (by omega : m = 0 ∨ m = 1 ∨ m = 2 ∨ m = 3 ∨ m = 4 ∨ m = 5 ∨ m = 6) with rfl | rfl | rfl | rfl | rfl | rfl | rfl <;> exact hu
  · rw [List.getElem?_eq_none (by simp [madeCells]; omega), List.getElem?_eq_none (by omega)]

theorem Sim.putTask {w0 wr : World} {n g : Nat} {ls : List Ln} {vs : List Value} {jobs : List Jb} {jv : Value} {out : List Int} {ov : Value} (h : Sim w0 wr n g ls vs jobs jv out ov)
    {k : Nat} {v : Value} (hk : ls[k]? = some ⟨zeroTsk, [], 0⟩) (hv : vs[k]? = some v) (x : Tsk) :
    Sim w0 (((((wr.setCell ⟨g, k * 7, none⟩ (.int .i64 x.p)).setCell ⟨g, k * 7 + 1, none⟩ (.int .i64 x.o)).setCell ⟨g, k * 7 + 2, none⟩ (.int .i64 x.c)).setCell ⟨g, k * 7 + 3, none⟩ (.int .i64 x.d)).setCell ⟨g, k * 7 + 4, none⟩ (.int .i64 x.q))
      n g (ls.set k ⟨x, [], 0⟩) vs jobs jv out ov := by
  have at_ : ∀ (l : List Ln) (a : Ln), k < l.length → (l.set k a)[k]? = some a := fun l a hl => by rw [List.getElem?_set, if_pos rfl, if_pos hl]
  have hl : k < ls.length := (List.getElem?_eq_some_iff.1 hk).1
  have h0 := h.setLine (ln' := ⟨⟨x.p, 0, 0, 0, 0⟩, [], 0⟩) hk hv 0 (by omega) (.int .i64 x.p) rfl rfl
  have h1 := h0.setLine (ln' := ⟨⟨x.p, x.o, 0, 0, 0⟩, [], 0⟩) (at_ _ _ hl) hv 1 (by omega) (.int .i64 x.o) rfl rfl
  rw [List.set_set] at h1
  have h2 := h1.setLine (ln' := ⟨⟨x.p, x.o, x.c, 0, 0⟩, [], 0⟩) (at_ _ _ hl) hv 2 (by omega) (.int .i64 x.c) rfl rfl
  rw [List.set_set] at h2
  have h3 := h2.setLine (ln' := ⟨⟨x.p, x.o, x.c, x.d, 0⟩, [], 0⟩) (at_ _ _ hl) hv 3 (by omega) (.int .i64 x.d) rfl rfl
  rw [List.set_set] at h3
  have h4 := h3.setLine (ln' := ⟨x, [], 0⟩) (at_ _ _ hl) hv 4 (by omega) (.int .i64 x.q) rfl rfl
  rw [List.set_set] at h4
  exact h4
end Go.Proofs.Ytcfhnjdaijdoiaa
