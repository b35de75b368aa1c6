/-
  More cost for one task.
-/
import Derived.Test.YtcfhnjdaijdoiaaPlain4
namespace Go.Proofs.Ytcfhnjdaijdoiaa

/-- The tasks, the cost of task x, at i, being c. -/
def withCost (l : List Tsk) (i : Nat) (x : Tsk) (c : Int) : List Tsk := l.set i { x with c := c }

theorem withCost_length (l : List Tsk) (i : Nat) (x : Tsk) (c : Int) : (withCost l i x c).length = l.length := by simp [withCost]
theorem withCost_same (l : List Tsk) (i : Nat) (x : Tsk) (hx : l[i]? = some x) : withCost l i x x.c = l := by
  unfold withCost
  apply List.ext_getElem?
  intro k
  rw [List.getElem?_set]
  by_cases e : i = k
  · subst e
    rw [if_pos rfl, if_pos (List.getElem?_eq_some_iff.1 hx).1, hx]
  · rw [if_neg e]
theorem withCost_at (l : List Tsk) (i : Nat) (x : Tsk) (c : Int) (hx : l[i]? = some x) : (withCost l i x c)[i]? = some { x with c := c } := by
  unfold withCost
  rw [List.getElem?_set, if_pos rfl, if_pos (List.getElem?_eq_some_iff.1 hx).1]
theorem withCost_set (l : List Tsk) (i : Nat) (x : Tsk) (c c' : Int) : (withCost l i x c).set i { x with c := c' } = withCost l i x c' := by
  simp [withCost]
theorem withCost_other (l : List Tsk) (i k : Nat) (x : Tsk) (c : Int) (h : k ≠ i) : (withCost l i x c)[k]? = l[k]? := by
  unfold withCost
  rw [List.getElem?_set, if_neg (Ne.symm h)]

/-- The tasks are accepted and meet their deadlines. -/
def fine (l : List Tsk) : Prop := check l = 0 ∧ meets l = true
instance (l : List Tsk) : Decidable (fine l) := by unfold fine; infer_instance

theorem withCost_check {l : List Tsk} (hl : check l = 0) (i : Nat) (x : Tsk) (hx : l[i]? = some x) (c : Int) : check (withCost l i x c) = 0 ↔ 1 ≤ c ∧ c ≤ x.d := by
  rw [check_zero_iff] at hl ⊢
  obtain ⟨h1, h2, h3⟩ := hl
  have hbx := h2 x (List.mem_of_getElem? hx)
  simp only [Tsk.bad, not_or, Int.not_lt] at hbx
  constructor
  · rintro ⟨_, g2, _⟩
    have := g2 _ (List.mem_of_getElem? (withCost_at l i x c hx))
    simp only [Tsk.bad, not_or, Int.not_lt] at this
    omega
  · rintro ⟨c1, c2⟩
    refine ⟨by rw [withCost_length]; exact h1, ?_, ?_⟩
    · intro y hy
      obtain ⟨k, hk⟩ := List.mem_iff_getElem?.1 hy
      by_cases e : k = i
      · subst e
        rw [withCost_at l k x c hx] at hk
        cases hk
        simp only [Tsk.bad, not_or, Int.not_lt]
        omega
      · rw [withCost_other l i k x c e] at hk
        exact h2 y (List.mem_of_getElem? hk)
    · intro a b u v hab hu hv
      have red : ∀ (k : Nat) (z : Tsk), (withCost l i x c)[k]? = some z → ∃ z' : Tsk, l[k]? = some z' ∧ z'.q = z.q := by
        intro k z hz
        by_cases e : k = i
        · subst e
          rw [withCost_at l k x c hx] at hz
          cases hz
          exact ⟨x, hx, rfl⟩
        · rw [withCost_other l i k x c e] at hz
          exact ⟨z, hz, rfl⟩
      obtain ⟨u', hu', eu⟩ := red a u hu
      obtain ⟨v', hv', ev⟩ := red b v hv
      rw [← eu, ← ev]
      exact h3 a b u' v' hab hu' hv'

theorem sumLow_set (q r : Int) (x y : Tsk) (hq : y.q = x.q) (h : times y r * y.c ≤ times x r * x.c) : ∀ (l : List Tsk) (i : Nat), l[i]? = some x → sumLow q r (l.set i y) ≤ sumLow q r l
  | [], i, hx => by simp at hx
  | z :: l, 0, hx => by
    simp at hx
    subst hx
    simp only [List.set_cons_zero, sumLow, hq]
    split <;> omega
  | z :: l, i + 1, hx => by
    have := sumLow_set q r x y hq h l i (by simpa using hx)
    simp only [List.set_cons_succ, sumLow]
    omega

/-- Less cost of one task does no harm. -/
theorem less_cost {l : List Tsk} (i : Nat) (x : Tsk) (hx : l[i]? = some x) (c : Int) (h1 : 1 ≤ c) (h2 : c ≤ x.c) (hf : fine l) : fine (withCost l i x c) := by
  obtain ⟨hc, hm⟩ := hf
  obtain ⟨h8, hb, hd⟩ := (check_zero_iff l).1 hc
  have hbx := hb x (List.mem_of_getElem? hx)
  have hbx' := hbx
  simp only [Tsk.bad, not_or, Int.not_lt] at hbx'
  have hc2 : check (withCost l i x c) = 0 := (withCost_check hc i x hx c).2 (by omega)
  have hb2 := ((check_zero_iff _).1 hc2).2.1
  refine ⟨hc2, ?_⟩
  rw [meets_iff] at hm ⊢
  intro y hy
  have hby := hb2 y hy
  obtain ⟨k, hk⟩ := List.mem_iff_getElem?.1 hy
  -- the task of the same place before
  obtain ⟨z, hz, e1, e2, e3, e4, e5⟩ : ∃ z, l[k]? = some z ∧ y.p = z.p ∧ y.d = z.d ∧ y.q = z.q ∧ y.c ≤ z.c ∧ 1 ≤ y.c := by
    by_cases e : k = i
    · subst e
      rw [withCost_at l k x c hx] at hk
      cases hk
      exact ⟨x, hx, rfl, rfl, rfl, h2, h1⟩
    · rw [withCost_other l i k x c e] at hk
      have := hb y (List.mem_of_getElem? hk)
      simp only [Tsk.bad, not_or, Int.not_lt] at this
      exact ⟨y, hk, rfl, rfl, rfl, Int.le_refl _, by omega⟩
  obtain ⟨w1, w2⟩ := hm z (List.mem_of_getElem? hz)
  obtain ⟨s1, s2, s3⟩ := worst_spec w1
  have hle : resp (withCost l i x c) y (worst l z) ≤ worst l z := by
    unfold resp at s1 ⊢
    rw [e3]
    have hmul : times ({ x with c := c } : Tsk) (worst l z) * c ≤ times x (worst l z) * x.c := by
      have h0 : 0 ≤ times x (worst l z) := times_nonneg x _ (by omega) (by omega)
      exact Int.mul_le_mul_of_nonneg_left h2 h0
    have := sumLow_set z.q (worst l z) x { x with c := c } rfl hmul l i hx
    unfold withCost
    omega
  have := worst_le hb2 hby s2 (by omega) hle
  omega
end Go.Proofs.Ytcfhnjdaijdoiaa
