/-
  Which error distinct tasks can have.
-/
import Derived.Test.YtcfhnjdaijdoiaaPlain6
namespace Go.Proofs.Ytcfhnjdaijdoiaa

theorem checkFrom_range : ∀ (r pre : List Tsk), (∀ (k : Nat) (x : Tsk), r[k]? = some x → hasPrio x.q (pre ++ r.take k) = false) → checkFrom pre r = 0 ∨ checkFrom pre r = 3
  | [], _, _ => .inl rfl
  | x :: r, pre, h => by
    rw [checkFrom]
    by_cases hb : x.bad
    · rw [if_pos hb]; exact .inr rfl
    · have h0 := h 0 x rfl
      simp only [List.take_zero, List.append_nil] at h0
      rw [if_neg hb, h0]
      simp only [Bool.false_eq_true, if_false]
      refine checkFrom_range r (pre ++ [x]) (fun k y hy => ?_)
      have := h (k + 1) y (by simpa using hy)
      simpa using this

theorem withCost_range {l : List Tsk} (hl : check l = 0) (i : Nat) (x : Tsk) (hx : l[i]? = some x) (c : Int) (h : check (withCost l i x c) ≠ 0) : check (withCost l i x c) = 3 := by
  obtain ⟨h1, h2, h3⟩ := (check_zero_iff l).1 hl
  unfold check at h ⊢
  rw [if_neg (by rw [withCost_length]; omega)] at h ⊢
  have red : ∀ (k : Nat) (z : Tsk), (withCost l i x c)[k]? = some z → ∃ z' : Tsk, l[k]? = some z' ∧ z'.q = z.q := by
    intro k z hz
    by_cases e : k = i
    · subst e
      rw [withCost_at l k x c hx] at hz
      cases hz
      exact ⟨x, hx, rfl⟩
    · rw [withCost_other l i k x c e] at hz
      exact ⟨z, hz, rfl⟩
  rcases checkFrom_range (withCost l i x c) [] (fun k y hy => (hasPrio_false_iff _ _).2 fun z hz => by
    rw [List.nil_append] at hz
    obtain ⟨j, hj⟩ := List.mem_iff_getElem?.1 hz
    rw [List.getElem?_take] at hj
    split at hj
    · obtain ⟨y', hy', ey⟩ := red k y hy
      obtain ⟨z', hz', ez⟩ := red j z hj
      rw [← ey, ← ez]
      exact h3 j k z' y' (by assumption) hz' hy'
    · simp at hj) with e | e
  · exact absurd e h
  · exact e

theorem withCost_again (l : List Tsk) (i : Nat) (x : Tsk) (c c' : Int) : withCost (withCost l i x c) i { x with c := c } c' = withCost l i x c' := by
  simp [withCost]
end Go.Proofs.Ytcfhnjdaijdoiaa
