/-
  Where the jobs of a unit lie; the late ones.
-/
import Derived.Test.YtcfhnjdaijdoiaaPlain16
namespace Go.Proofs.Ytcfhnjdaijdoiaa

/-- How many jobs are released before time t, and by the first m tasks at time t. -/
def pos (l : List Tsk) (t m : Nat) : Nat := (relSeq l t).length + (relAt l t m).length

theorem pos_zero (l : List Tsk) : pos l 0 0 = 0 := rfl
theorem pos_next (l : List Tsk) (t : Nat) : pos l (t + 1) 0 = pos l t l.length := by simp [pos, relSeq, relAt]
theorem pos_not {l : List Tsk} {t m : Nat} {x : Tsk} (hx : l[m]? = some x) (hd : ¬ due t x) : pos l t (m + 1) = pos l t m := by
  unfold pos; rw [relAt, hx]; simp [hd]
theorem pos_due {l : List Tsk} {t m : Nat} {x : Tsk} (hx : l[m]? = some x) (hd : due t x) : pos l t (m + 1) = pos l t m + 1 := by
  unfold pos; rw [relAt, hx]; simp [hd]; omega

theorem relAt_prefix (l : List Tsk) (t m : Nat) : ∀ k, m ≤ k → ∃ z, relAt l t k = relAt l t m ++ z
  | 0, h => by rw [Nat.le_zero.1 h]; exact ⟨[], by simp⟩
  | k + 1, h => by
    by_cases e : m = k + 1
    · subst e; exact ⟨[], by simp⟩
    · obtain ⟨z, hz⟩ := relAt_prefix l t m k (by omega)
      rw [relAt, hz]
      exact ⟨_, List.append_assoc ..⟩

theorem relSeq_prefix (l : List Tsk) (t : Nat) : ∀ T, t ≤ T → ∃ z, relSeq l T = relSeq l t ++ z
  | 0, h => by rw [Nat.le_zero.1 h]; exact ⟨[], by simp⟩
  | T + 1, h => by
    by_cases e : t = T + 1
    · subst e; exact ⟨[], by simp⟩
    · obtain ⟨z, hz⟩ := relSeq_prefix l t T (by omega)
      rw [relSeq, hz]
      exact ⟨_, List.append_assoc ..⟩

theorem key_at {l : List Tsk} {t m T : Nat} {x : Tsk} (hx : l[m]? = some x) (hd : due t x) (ht : t < T) : (relSeq l T)[pos l t m]? = some ((m : Int), (t : Int)) := by
  have hm := (List.getElem?_eq_some_iff.1 hx).1
  obtain ⟨z, hz⟩ := relSeq_prefix l (t + 1) T ht
  obtain ⟨u, hu⟩ := relAt_prefix l t (m + 1) l.length hm
  have h1 : relAt l t (m + 1) = relAt l t m ++ [((m : Int), (t : Int))] := by rw [relAt, hx]; simp [hd]
  rw [hz, relSeq, hu, h1]
  unfold pos
  simp only [List.append_assoc]
  rw [List.getElem?_append_right (by omega), show (relSeq l t).length + (relAt l t m).length - (relSeq l t).length = (relAt l t m).length by omega, List.getElem?_append_right (Nat.le_refl _), Nat.sub_self]
  rfl

theorem job_at {l : List Tsk} {t m T : Nat} {x : Tsk} {jobs : List Jb} (hk : jobs.map Jb.key = relSeq l T) (hx : l[m]? = some x) (hd : due t x) (ht : t < T) :
    ∃ j, jobs[pos l t m]? = some j ∧ j.k = m ∧ j.rel = t := by
  have := key_at hx hd ht
  rw [← hk, List.getElem?_map, Option.map_eq_some_iff] at this
  obtain ⟨j, h1, h2⟩ := this
  unfold Jb.key at h2
  simp only [Prod.mk.injEq] at h2
  exact ⟨j, h1, h2.1, h2.2⟩

theorem pos_all {l : List Tsk} {T : Nat} {jobs : List Jb} (hk : jobs.map Jb.key = relSeq l T) : pos l T 0 = jobs.length := by
  have := congrArg List.length hk
  rw [List.length_map] at this
  simp [pos, relAt, this]

theorem lateOf_at {l : List Tsk} {T : Int} {jobs : List Jb} {k : Nat} {j : Jb} (h : jobs[k]? = some j) (hl : lateJ l T j = true) : (lateOf l T jobs)[(lateOf l T (jobs.take k)).length]? = some j := by
  have h1 := List.take_append_drop k jobs
  have h2 := drop_cons_get jobs k j h
  have h3 : lateOf l T jobs = lateOf l T (jobs.take k) ++ lateOf l T (jobs.drop k) := by
    unfold lateOf; rw [← List.filter_append, h1]
  rw [h3, List.getElem?_append_right (Nat.le_refl _), Nat.sub_self, h2]
  unfold lateOf
  rw [List.filter_cons, if_pos hl]
  rfl
end Go.Proofs.Ytcfhnjdaijdoiaa
