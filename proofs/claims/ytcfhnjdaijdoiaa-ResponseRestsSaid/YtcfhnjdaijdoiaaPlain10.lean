/-
  Plain facts on the jobs of a simulation.
-/
import Derived.Test.YtcfhnjdaijdoiaaPlain9
namespace Go.Proofs.Ytcfhnjdaijdoiaa

/-- What each job is like before time T, of n tasks. -/
structure JobOk (n T : Nat) (j : Jb) : Prop where
  k_ : 0 ≤ j.k ∧ j.k < n
  rel_ : 0 ≤ j.rel ∧ j.rel < T
  st_ : -1 ≤ j.st ∧ j.st < T
  fin_ : -1 ≤ j.fin ∧ j.fin ≤ T

theorem JobOk.more {n T : Nat} {j : Jb} (h : JobOk n T j) : JobOk n (T + 1) j :=
  ⟨h.k_, ⟨h.rel_.1, by have := h.rel_.2; omega⟩, ⟨h.st_.1, by have := h.st_.2; omega⟩, ⟨h.fin_.1, by have := h.fin_.2; omega⟩⟩

theorem jobok_relTo {n T : Nat} {ls : List Ln} {jobs : List Jb} (hn : ls.length = n) (h : ∀ j ∈ jobs, JobOk n T j) : ∀ k, ∀ j ∈ (relTo T ls jobs k).2, JobOk n (T + 1) j
  | 0, j, hj => (h j hj).more
  | k + 1, j, hj => by
    have ih := jobok_relTo hn h k
    rw [relTo] at hj
    split at hj
    · exact ih j hj
    · rename_i ln e
      split at hj
      · simp only [List.mem_append, List.mem_singleton] at hj
        rcases hj with hj | rfl
        · exact ih j hj
        · have hk := (List.getElem?_eq_some_iff.1 e).1
          rw [relTo_length, hn] at hk
          exact ⟨⟨by simp only; omega, by simp only; omega⟩, ⟨by simp only; omega, by simp only; omega⟩, ⟨by simp only; omega, by simp only; omega⟩, ⟨by simp only; omega, by simp only; omega⟩⟩
      · exact ih j hj

theorem jobok_exec {n T : Nat} {ls : List Ln} {jobs : List Jb} (h : ∀ j ∈ jobs, JobOk n (T + 1) j) (r : Nat) : ∀ j ∈ (execAt T ls jobs r).2, JobOk n (T + 1) j := by
  intro j hj
  unfold execAt at hj
  split at hj
  · exact h j hj
  · split at hj
    · exact h j hj
    · split at hj
      · exact h j hj
      · rename_i jb e
        have hb := h jb (List.mem_of_getElem? e)
        split at hj
        · rcases List.mem_or_eq_of_mem_set hj with hj | rfl
          · exact h j hj
          · refine ⟨hb.k_, hb.rel_, ?_, ⟨by simp only; omega, by simp only; omega⟩⟩
            have := hb.st_
            simp only
            split <;> omega
        · rcases List.mem_or_eq_of_mem_set hj with hj | rfl
          · exact h j hj
          · refine ⟨hb.k_, hb.rel_, ?_, hb.fin_⟩
            have := hb.st_
            simp only
            split <;> omega

theorem start_length (l : List Tsk) : (start l).length = l.length := by simp [start]

theorem execAt_length (t : Int) (ls : List Ln) (jobs : List Jb) (r : Nat) : (execAt t ls jobs r).1.length = ls.length ∧ (execAt t ls jobs r).2.length = jobs.length := by
  unfold execAt
  split
  · exact ⟨rfl, rfl⟩
  · split
    · exact ⟨rfl, rfl⟩
    · split
      · exact ⟨rfl, rfl⟩
      · split <;> simp

theorem sim_length (l : List Tsk) : ∀ T, (simTo l T).1.length = l.length
  | 0 => start_length l
  | T + 1 => by
    have ih := sim_length l T
    simp only [simTo, stepAt]
    split
    · rw [relTo_length, ih]
    · rw [(execAt_length _ _ _ _).1, relTo_length, ih]

theorem jobs_ok (l : List Tsk) : ∀ T, ∀ j ∈ (simTo l T).2.1, JobOk l.length T j
  | 0, j, hj => by simp [simTo] at hj
  | T + 1, j, hj => by
    have ih := jobs_ok l T
    have hr := jobok_relTo (sim_length l T) ih (simTo l T).1.length
    simp only [simTo, stepAt] at hj
    split at hj
    · exact hr j hj
    · exact jobok_exec hr _ j hj

theorem sim_run_range (l : List Tsk) : ∀ T, ∀ r ∈ (simTo l T).2.2, -1 ≤ r ∧ r < l.length
  | 0, r, hr => by simp [simTo] at hr
  | T + 1, r, hr => by
    have ih := sim_run_range l T
    simp only [simTo, List.mem_append, List.mem_singleton] at hr
    rcases hr with hr | rfl
    · exact ih r hr
    · have := pickTo_range (relTo T (simTo l T).1 (simTo l T).2.1 (simTo l T).1.length).1 (simTo l T).1.length
      rw [sim_length] at this
      simp only [stepAt]
      split <;> (simp only; rw [sim_length]; exact this)

/-- A job is late before time T: finished too late, or not, though it is due. -/
def lateJ (l : List Tsk) (T : Int) (j : Jb) : Bool :=
  match l[j.k.toNat]? with
  | none => false
  | some x => decide (j.rel + x.d < j.fin) || (decide (j.fin < 0) && decide (j.rel + x.d ≤ T))

def lateOf (l : List Tsk) (T : Int) (jobs : List Jb) : List Jb := jobs.filter (lateJ l T)

theorem lateJ_some {l : List Tsk} {T : Int} {j : Jb} {x : Tsk} (h : l[j.k.toNat]? = some x) : lateJ l T j = (decide (j.rel + x.d < j.fin) || (decide (j.fin < 0) && decide (j.rel + x.d ≤ T))) := by
  simp only [lateJ, h]

theorem lateOf_step (l : List Tsk) (T : Int) (jobs : List Jb) (k : Nat) (j : Jb) (h : jobs[k]? = some j) :
    lateOf l T (jobs.take (k + 1)) = if lateJ l T j then lateOf l T (jobs.take k) ++ [j] else lateOf l T (jobs.take k) := by
  unfold lateOf
  rw [List.take_add_one, h, List.filter_append]
  simp only [Option.toList, List.filter_cons, List.filter_nil]
  split <;> simp
end Go.Proofs.Ytcfhnjdaijdoiaa
