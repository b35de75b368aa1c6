
/-
  What a mapping answers: the objects of its items. No program in sight.
-/
import Derived.Test.YtjdknddnanopaaaBPlain3
import Derived.Test.YtjdknddnanopaaaBAc
namespace Go.Proofs.Ytjdknddnanopaaa.Bus

/-- The bits of a type. -/
def bitsO (t : Int) : Nat := if t = 0 then 1 else 8 * (kindOf t).n

theorem bitsO_le (t : Int) : bitsO t ≤ 32 := by
  unfold bitsO
  rcases kind_cases t with h | h | h | h | h | h | h | h <;> rw [h.1] <;> (split <;> simp)

theorem bytes_zero (t : Int) : (bytesO t 0).1.length = (kindOf t).n := by
  unfold bytesO
  rcases kind_cases t with h | h | h | h | h | h | h | h <;> rw [h.1] <;> simp [bytesTo_length]

/-- The bits of all objects. -/
def sumB : List Ob → Nat
  | [] => 0
  | x :: r => bitsO x.t + sumB r

theorem sumB_append : ∀ (a b : List Ob), sumB (a ++ b) = sumB a + sumB b
  | [], b => by simp [sumB]
  | x :: r, b => by simp only [List.cons_append, sumB, sumB_append r b]; omega
theorem sumB_le : ∀ (a : List Ob), sumB a ≤ 32 * a.length
  | [] => by simp [sumB]
  | x :: r => by
    have := sumB_le r
    have := bitsO_le x.t
    simp only [sumB, List.length_cons]; omega
theorem sumB_snoc (a : List Ob) (x : Ob) : sumB (a ++ [x]) = sumB a + bitsO x.t := by rw [sumB_append]; simp [sumB]
theorem sumB_take {f : List Ob} {k : Nat} {x : Ob} (h : f[k]? = some x) : sumB (f.take (k + 1)) = sumB (f.take k) + bitsO x.t := by rw [take_snoc_get f k x h, sumB_snoc]

/-- The objects of the items that are left, behind those found; or the first error. -/
def pick (l : List Ob) (chk : Nat → Ob → Int) : Nat → List It → List Ob → List Ob × Int
  | _, [], acc => if 256 < sumB acc then ([], 4) else (acc, 0)
  | k, m :: ms, acc => match locO l m.i m.s with
    | none => ([], ferr l m.i)
    | some p => if chk k (l[p]?.getD default) ≠ 0 then ([], chk k (l[p]?.getD default)) else pick l chk (k + 1) ms (acc ++ [l[p]?.getD default])

def findM (l : List Ob) (chk : Nat → Ob → Int) (m : List It) : List Ob × Int :=
  if checkO l ≠ 0 then ([], checkO l) else if 16 < m.length then ([], 4) else pick l chk 0 m []

/-- No further check. -/
def noChk : Nat → Ob → Int := fun _ _ => 0

/-- The further check of a mapping. -/
def chkO (m : List It) (out : Bool) (k : Nat) (x : Ob) : Int :=
  if x.mp = false ∨ (out = true ∧ x.a = 2) ∨ (out = false ∧ x.a = 0) then 21 else if (m.getD k default) ∈ m.take k then 6 else 0

theorem ferr_ne (l : List Ob) (i : Int) : ferr l i ≠ 0 := by unfold ferr; split <;> simp

theorem pick_nil {l : List Ob} {chk : Nat → Ob → Int} {k : Nat} {m : List It} {acc : List Ob} (h : k = m.length) : pick l chk k (m.drop k) acc = if 256 < sumB acc then ([], 4) else (acc, 0) := by
  rw [List.drop_eq_nil_of_le (by omega), pick]

theorem pick_miss {l : List Ob} {chk : Nat → Ob → Int} {k : Nat} {m : List It} {acc : List Ob} {x : It} (hx : m[k]? = some x) (h : locO l x.i x.s = none) : pick l chk k (m.drop k) acc = ([], ferr l x.i) := by
  rw [drop_cons_get m k x hx, pick, h]
theorem pick_bad {l : List Ob} {chk : Nat → Ob → Int} {k p : Nat} {m : List It} {acc : List Ob} {x : It} {y : Ob} (hx : m[k]? = some x) (h : locO l x.i x.s = some p) (hy : l[p]? = some y) (hc : chk k y ≠ 0) :
    pick l chk k (m.drop k) acc = ([], chk k y) := by
  rw [drop_cons_get m k x hx, pick, h]
  simp only [getD_of hy]
  rw [if_pos hc]
theorem pick_step {l : List Ob} {chk : Nat → Ob → Int} {k p : Nat} {m : List It} {acc : List Ob} {x : It} {y : Ob} (hx : m[k]? = some x) (h : locO l x.i x.s = some p) (hy : l[p]? = some y) (hc : chk k y = 0) :
    pick l chk k (m.drop k) acc = pick l chk (k + 1) (m.drop (k + 1)) (acc ++ [y]) := by
  rw [drop_cons_get m k x hx, pick, h]
  simp only [getD_of hy]
  rw [if_neg (by simp [hc])]

/-- What is found. -/
theorem pick_ok {l : List Ob} {chk : Nat → Ob → Int} : ∀ {m : List It} {k : Nat} {acc f : List Ob}, pick l chk k m acc = (f, 0) → ∃ g, f = acc ++ g ∧ g.length = m.length ∧ (∀ x ∈ g, x ∈ l) ∧ sumB f ≤ 256
  | [], k, acc, f, h => by
    rw [pick] at h
    split at h
    · simp at h
    · simp at h
      subst h
      exact ⟨[], by simp, rfl, by simp, by omega⟩
  | x :: m, k, acc, f, h => by
    rw [pick] at h
    cases hp : locO l x.i x.s with
    | none =>
      rw [hp] at h
      simp only [Prod.mk.injEq] at h
      exact absurd h.2 (ferr_ne _ _)
    | some p =>
      rw [hp] at h
      obtain ⟨y, hy, _⟩ := locO_some hp
      simp only [getD_of hy] at h
      split at h
      · rename_i hc
        simp only [Prod.mk.injEq] at h
        exact absurd h.2 hc
      · obtain ⟨g, rfl, h1, h2, h3⟩ := pick_ok h
        refine ⟨y :: g, by simp, by simp [h1], fun z hz => ?_, by simpa using h3⟩
        rcases List.mem_cons.1 hz with rfl | hz
        · exact List.mem_of_getElem? hy
        · exact h2 z hz

/-- An error: nothing is found. -/
theorem pick_err {l : List Ob} {chk : Nat → Ob → Int} : ∀ {m : List It} {k : Nat} {acc : List Ob}, (pick l chk k m acc).2 ≠ 0 → (pick l chk k m acc).1 = []
  | [], k, acc => by
    rw [pick]
    split <;> simp
  | x :: m, k, acc => by
    rw [pick]
    cases hp : locO l x.i x.s with
    | none => simp
    | some p =>
      simp only
      split
      · simp
      · exact pick_err

theorem findM_ok {l : List Ob} {chk : Nat → Ob → Int} {m : List It} {f : List Ob} (h : findM l chk m = (f, 0)) : checkO l = 0 ∧ f.length = m.length ∧ m.length ≤ 16 ∧ (∀ x ∈ f, x ∈ l) ∧ sumB f ≤ 256 := by
  unfold findM at h
  split at h
  · rename_i hc
    simp only [Prod.mk.injEq] at h
    exact absurd h.2 hc
  · rename_i hc
    split at h
    · simp at h
    · obtain ⟨g, rfl, h1, h2, h3⟩ := pick_ok h
      exact ⟨by omega, by simpa using h1, by omega, by simpa using h2, by simpa using h3⟩

theorem findM_err {l : List Ob} {chk : Nat → Ob → Int} {m : List It} (h : (findM l chk m).2 ≠ 0) : (findM l chk m).1 = [] := by
  revert h
  unfold findM
  split
  · simp
  · split
    · simp
    · exact pick_err
end Go.Proofs.Ytjdknddnanopaaa.Bus
