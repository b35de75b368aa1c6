
/-
  Where an object lies, and whether an index is known.
-/
import Derived.Test.YtjdknddnanopaaaBPlain
namespace Go.Proofs.Ytjdknddnanopaaa.Bus

/-- Where an object with this key lies among the first k. -/
def placeTo (l : List Ob) : Nat → Int → Int → Option Int
  | 0 => fun _ _ => none
  | k + 1 => match l[k]? with
    | none => placeTo l k
    | some x => fun i s => if i = x.i ∧ s = x.s then some (k : Int) else placeTo l k i s

/-- Does one of the first k objects have this index? -/
def knownTo (l : List Ob) : Nat → Int → Bool
  | 0 => fun _ => false
  | k + 1 => match l[k]? with
    | none => knownTo l k
    | some x => fun i => if i = x.i then true else knownTo l k i

theorem placeTo_step {l : List Ob} {k : Nat} {x : Ob} (h : l[k]? = some x) : placeTo l (k + 1) = fun i s => if i = x.i ∧ s = x.s then some (k : Int) else placeTo l k i s := by rw [placeTo, h]
theorem knownTo_step {l : List Ob} {k : Nat} {x : Ob} (h : l[k]? = some x) : knownTo l (k + 1) = fun i => if i = x.i then true else knownTo l k i := by rw [knownTo, h]

/-- Objects that are fine lie in order. -/
theorem checkFrom_zero : ∀ (r : List Ob) (p : Option Ob), checkFrom p r = 0 →
    (∀ x ∈ r, ¬ x.far ∧ (kindOf x.t).n ≠ 0 ∧ ¬ x.odd ∧ ¬ x.wide) ∧ (∀ y x, p = some y → r[0]? = some x → ¬ y.back x) ∧ (∀ (k : Nat) (y x : Ob), r[k]? = some y → r[k + 1]? = some x → ¬ y.back x)
  | [], p, _ => ⟨fun x h => by simp at h, fun y x _ h => by simp at h, fun k y x h => by simp at h⟩
  | x :: r, p, h => by
    rw [checkFrom] at h
    by_cases h1 : x.far
    · rw [if_pos h1] at h; simp at h
    rw [if_neg h1] at h
    by_cases h2 : backO p x
    · rw [if_pos h2] at h; simp at h
    rw [if_neg h2] at h
    by_cases h3 : (kindOf x.t).n = 0
    · rw [if_pos h3] at h; simp at h
    rw [if_neg h3] at h
    by_cases h4 : x.odd
    · rw [if_pos h4] at h; simp at h
    rw [if_neg h4] at h
    by_cases h5 : x.wide
    · rw [if_pos h5] at h; simp at h
    rw [if_neg h5] at h
    obtain ⟨a, b, c⟩ := checkFrom_zero r (some x) h
    refine ⟨fun y hy => ?_, fun y z hp hz => ?_, fun k y z hy hz => ?_⟩
    · rcases List.mem_cons.1 hy with rfl | hy
      · exact ⟨h1, h3, h4, h5⟩
      · exact a y hy
    · subst hp
      simp at hz
      subst hz
      exact h2
    · cases k with
      | zero =>
        simp at hy hz
        subst hy
        exact b x z rfl (by simpa using hz)
      | succ k => exact c k y z (by simpa using hy) (by simpa using hz)

structure Fine (l : List Ob) : Prop where
  few : l.length ≤ 128
  each : ∀ x ∈ l, ¬ x.far ∧ (kindOf x.t).n ≠ 0 ∧ ¬ x.odd ∧ ¬ x.wide
  next : ∀ (k : Nat) (y x : Ob), l[k]? = some y → l[k + 1]? = some x → ¬ y.back x

theorem fine_of {l : List Ob} (h : checkO l = 0) : Fine l := by
  unfold checkO at h
  split at h
  · simp at h
  · obtain ⟨a, _, c⟩ := checkFrom_zero l none h
    exact ⟨by omega, a, c⟩

theorem Fine.lt {l : List Ob} (h : Fine l) : ∀ (d k : Nat) (y x : Ob), l[k]? = some y → l[k + d + 1]? = some x → y.i < x.i ∨ (y.i = x.i ∧ y.s < x.s)
  | 0, k, y, x, hy, hx => by
    have := h.next k y x hy hx
    unfold Ob.back at this
    omega
  | d + 1, k, y, x, hy, hx => by
    have hl := (List.getElem?_eq_some_iff.1 hx).1
    obtain ⟨z, hz⟩ : ∃ z, l[k + d + 1]? = some z := ⟨l[k + d + 1]'(by omega), List.getElem?_eq_getElem (by omega)⟩
    have a := Fine.lt h d k y z hy hz
    have b := h.next (k + d + 1) z x hz (by rw [show k + d + 1 + 1 = k + (d + 1) + 1 by omega]; exact hx)
    unfold Ob.back at b
    omega

/-- No key occurs twice. -/
theorem Fine.inj {l : List Ob} (h : Fine l) {j k : Nat} {y x : Ob} (hy : l[j]? = some y) (hx : l[k]? = some x) (e1 : y.i = x.i) (e2 : y.s = x.s) : j = k := by
  rcases Nat.lt_trichotomy j k with g | g | g
  · have := h.lt (k - j - 1) j y x hy (by rw [show j + (k - j - 1) + 1 = k by omega]; exact hx)
    omega
  · exact g
  · have := h.lt (j - k - 1) k x y hx (by rw [show k + (j - k - 1) + 1 = j by omega]; exact hy)
    omega

theorem placeTo_some {l : List Ob} : ∀ {k : Nat} {i s p : Int}, k ≤ l.length → placeTo l k i s = some p → ∃ (j : Nat) (x : Ob), p = j ∧ j < k ∧ l[j]? = some x ∧ x.i = i ∧ x.s = s
  | 0, _, _, _, _, h => by simp [placeTo] at h
  | k + 1, i, s, p, hk, h => by
    obtain ⟨x, hx⟩ : ∃ x, l[k]? = some x := ⟨l[k], List.getElem?_eq_getElem (by omega)⟩
    rw [placeTo_step hx] at h
    simp only at h
    split at h
    · rename_i e
      simp at h
      exact ⟨k, x, h.symm, by omega, hx, e.1.symm, e.2.symm⟩
    · obtain ⟨j, y, a, b, c⟩ := placeTo_some (by omega) h
      exact ⟨j, y, a, by omega, c⟩

theorem placeTo_none {l : List Ob} : ∀ {k : Nat} {i s : Int}, placeTo l k i s = none → ∀ (j : Nat) (x : Ob), j < k → l[j]? = some x → ¬ (x.i = i ∧ x.s = s)
  | 0, _, _, _, j, _, h, _ => by omega
  | k + 1, i, s, h, j, y, hj, hy => by
    cases e : l[k]? with
    | none =>
      have h2 : placeTo l (k + 1) = placeTo l k := by rw [placeTo, e]
      rw [h2] at h
      by_cases e2 : j = k
      · subst e2; rw [e] at hy; cases hy
      · exact placeTo_none h j y (by omega) hy
    | some x =>
      rw [placeTo_step e] at h
      simp only at h
      split at h
      · cases h
      · rename_i hne
        by_cases e2 : j = k
        · subst e2
          rw [e] at hy
          cases hy
          exact fun h => hne ⟨h.1.symm, h.2.symm⟩
        · exact placeTo_none h j y (by omega) hy

theorem knownTo_iff {l : List Ob} : ∀ {k : Nat} {i : Int}, k ≤ l.length → (knownTo l k i = true ↔ ∃ (j : Nat) (x : Ob), j < k ∧ l[j]? = some x ∧ x.i = i)
  | 0, i, _ => by simp [knownTo]
  | k + 1, i, hk => by
    obtain ⟨x, hx⟩ : ∃ x, l[k]? = some x := ⟨l[k], List.getElem?_eq_getElem (by omega)⟩
    rw [knownTo_step hx]
    simp only
    split
    · rename_i e
      simp only [true_iff]
      exact ⟨k, x, by omega, hx, e.symm⟩
    · rename_i hne
      rw [knownTo_iff (by omega)]
      constructor
      · rintro ⟨j, y, a, b, c⟩; exact ⟨j, y, by omega, b, c⟩
      · rintro ⟨j, y, a, b, c⟩
        by_cases e : j = k
        · subst e; rw [hx] at b; cases b; exact absurd c.symm hne
        · exact ⟨j, y, by omega, b, c⟩
end Go.Proofs.Ytjdknddnanopaaa.Bus
