/-
  The simulation of tasks, as the program does it.
-/
import Derived.Test.YtcfhnjdaijdoiaaPlain8
namespace Go.Proofs.Ytcfhnjdaijdoiaa

/-- A task with its jobs that are not finished, and what the first of them still needs. -/
structure Ln where
  x : Tsk
  q : List Int
  left : Int

/-- A job: task, release, start, finish. -/
structure Jb where
  k : Int
  rel : Int
  st : Int
  fin : Int
  deriving DecidableEq

def due (t : Int) (x : Tsk) : Prop := x.o ≤ t ∧ (t - x.o) % x.p = 0
instance (t : Int) (x : Tsk) : Decidable (due t x) := by unfold due; infer_instance

def relOne (m : Nat) (ln : Ln) : Ln := { ln with q := ln.q ++ [(m : Int)], left := if ln.q = [] then ln.x.c else ln.left }

/-- The first k tasks have released their jobs of time t. -/
def relTo (t : Int) (ls : List Ln) (jobs : List Jb) : Nat → List Ln × List Jb
  | 0 => (ls, jobs)
  | k + 1 => match (relTo t ls jobs k).1[k]? with
    | none => relTo t ls jobs k
    | some ln => if due t ln.x then ((relTo t ls jobs k).1.set k (relOne (relTo t ls jobs k).2.length ln), (relTo t ls jobs k).2 ++ [⟨k, t, -1, -1⟩]) else relTo t ls jobs k

theorem relTo_length (t : Int) (ls : List Ln) (jobs : List Jb) : ∀ k, (relTo t ls jobs k).1.length = ls.length
  | 0 => rfl
  | k + 1 => by
    rw [relTo]
    split
    · exact relTo_length t ls jobs k
    · split
      · simpa using relTo_length t ls jobs k
      · exact relTo_length t ls jobs k

theorem relTo_later (t : Int) (ls : List Ln) (jobs : List Jb) : ∀ k i, k ≤ i → (relTo t ls jobs k).1[i]? = ls[i]?
  | 0, i, _ => rfl
  | k + 1, i, h => by
    have ih := relTo_later t ls jobs k i (by omega)
    rw [relTo]
    split
    · exact ih
    · split
      · simp only
        rw [List.getElem?_set, if_neg (by omega)]
        exact ih
      · exact ih

theorem relTo_step (t : Int) (ls : List Ln) (jobs : List Jb) (k : Nat) (ln : Ln) (h : ls[k]? = some ln) :
    relTo t ls jobs (k + 1) = if due t ln.x then ((relTo t ls jobs k).1.set k (relOne (relTo t ls jobs k).2.length ln), (relTo t ls jobs k).2 ++ [⟨k, t, -1, -1⟩]) else relTo t ls jobs k := by
  rw [relTo, relTo_later t ls jobs k k (Nat.le_refl _), h]

/-- Line i, once it has released. -/
theorem relTo_earlier (t : Int) (ls : List Ln) (jobs : List Jb) : ∀ k i, i < k → (relTo t ls jobs k).1[i]? = (relTo t ls jobs (i + 1)).1[i]?
  | 0, i, h => by omega
  | k + 1, i, h => by
    by_cases e : i = k
    · subst e; rfl
    · have ih := relTo_earlier t ls jobs k i (by omega)
      rw [relTo]
      split
      · exact ih
      · split
        · simp only
          rw [List.getElem?_set, if_neg (by omega)]
          exact ih
        · exact ih

theorem relTo_jobs (t : Int) (ls : List Ln) (jobs : List Jb) : ∀ k, jobs.length ≤ (relTo t ls jobs k).2.length ∧ (relTo t ls jobs k).2.length ≤ jobs.length + k
  | 0 => by simp [relTo]
  | k + 1 => by
    have ih := relTo_jobs t ls jobs k
    rw [relTo]
    split
    · omega
    · split
      · simp; omega
      · omega

/-- Which of the first k tasks is to run: the most urgent one that has work left; -1: none. -/
def pickTo (ls : List Ln) : Nat → Int
  | 0 => -1
  | k + 1 => match ls[k]? with
    | none => pickTo ls k
    | some ln => if ln.q ≠ [] ∧ (pickTo ls k < 0 ∨ ∀ y, ls[(pickTo ls k).toNat]? = some y → ln.x.q < y.x.q) then (k : Int) else pickTo ls k

theorem pickTo_range (ls : List Ln) : ∀ k, -1 ≤ pickTo ls k ∧ pickTo ls k < k
  | 0 => by simp [pickTo]
  | k + 1 => by
    have ih := pickTo_range ls k
    rw [pickTo]
    split
    · omega
    · split <;> omega

theorem pickTo_congr (ls ls' : List Ln) : ∀ k, (∀ i, i < k → ls[i]? = ls'[i]?) → pickTo ls k = pickTo ls' k
  | 0, _ => rfl
  | k + 1, h => by
    have ih := pickTo_congr ls ls' k (fun i hi => h i (by omega))
    have hr := pickTo_range ls' k
    rw [pickTo, pickTo, h k (by omega), ih]
    split
    · rfl
    · by_cases h0 : pickTo ls' k < 0
      · simp [h0]
      · rw [h (pickTo ls' k).toNat (by omega)]

theorem pickTo_has (ls : List Ln) : ∀ k, 0 ≤ pickTo ls k → ∃ ln, ls[(pickTo ls k).toNat]? = some ln ∧ ln.q ≠ []
  | 0, h => by simp [pickTo] at h
  | k + 1, h => by
    have ih := pickTo_has ls k
    rw [pickTo] at h ⊢
    split at h
    · rename_i e
      exact ih h
    · rename_i ln e
      split at h
      · rename_i hc
        rw [if_pos hc]
        exact ⟨ln, by simpa using e, hc.1⟩
      · rename_i hc
        rw [if_neg hc]
        exact ih h

/-- Task r runs at time t. -/
def execAt (t : Int) (ls : List Ln) (jobs : List Jb) (r : Nat) : List Ln × List Jb :=
  match ls[r]? with
  | none => (ls, jobs)
  | some ln => match ln.q with
    | [] => (ls, jobs)
    | j :: q => match jobs[j.toNat]? with
      | none => (ls, jobs)
      | some jb =>
        if ln.left - 1 = 0 then (ls.set r { ln with q := q, left := ln.x.c }, jobs.set j.toNat { jb with st := if jb.st < 0 then t else jb.st, fin := t + 1 })
        else (ls.set r { ln with left := ln.left - 1 }, jobs.set j.toNat { jb with st := if jb.st < 0 then t else jb.st })

theorem execAt_eq (t : Int) (ls : List Ln) (jobs : List Jb) (r J : Nat) (ln : Ln) (q : List Int) (jb : Jb) (h1 : ls[r]? = some ln) (h2 : ln.q = (J : Int) :: q) (h3 : jobs[J]? = some jb) :
    execAt t ls jobs r = if ln.left - 1 = 0 then (ls.set r { ln with q := q, left := ln.x.c }, jobs.set J { jb with st := if jb.st < 0 then t else jb.st, fin := t + 1 })
      else (ls.set r { ln with left := ln.left - 1 }, jobs.set J { jb with st := if jb.st < 0 then t else jb.st }) := by
  unfold execAt
  rw [h1]
  simp only [h2, Int.toNat_natCast, h3]

/-- What is known before time t. -/
structure Wf (T : Nat) (l : List Tsk) (ls : List Ln) (jobs : List Jb) : Prop where
  tasks : ls.map (·.x) = l
  jobs_le : jobs.length ≤ 8 * T
  left_le : ∀ (i : Nat) (ln : Ln), ls[i]? = some ln → 0 ≤ ln.left ∧ ln.left ≤ 4096
  left_pos : ∀ (i : Nat) (ln : Ln), ls[i]? = some ln → ln.q ≠ [] → 1 ≤ ln.left
  queue : ∀ (i : Nat) (ln : Ln), ls[i]? = some ln → ∀ j ∈ ln.q, 0 ≤ j ∧ j < jobs.length
  short : ∀ (i : Nat) (ln : Ln), ls[i]? = some ln → ln.q.length ≤ T

def start (l : List Tsk) : List Ln := l.map fun x => ⟨x, [], 0⟩

theorem wf_start (l : List Tsk) : Wf 0 l (start l) [] := by
  have key : ∀ (i : Nat) (ln : Ln), (start l)[i]? = some ln → ln.q = [] ∧ ln.left = 0 := by
    intro i ln h
    simp only [start, List.getElem?_map, Option.map_eq_some_iff] at h
    obtain ⟨x, _, rfl⟩ := h
    exact ⟨rfl, rfl⟩
  refine ⟨?_, by simp, ?_, ?_, ?_, ?_⟩
  · simp [start, Function.comp_def]
  · intro i ln h; rw [(key i ln h).2]; omega
  · intro i ln h hq; exact absurd (key i ln h).1 hq
  · intro i ln h j hj; rw [(key i ln h).1] at hj; simp at hj
  · intro i ln h; rw [(key i ln h).1]; simp

theorem Wf.bad {T : Nat} {l : List Tsk} {ls : List Ln} {jobs : List Jb} (h : Wf T l ls jobs) (hl : ∀ x ∈ l, ¬ x.bad) {i : Nat} {ln : Ln} (hi : ls[i]? = some ln) : ¬ ln.x.bad := by
  apply hl
  rw [← h.tasks]
  exact List.mem_map.2 ⟨ln, List.mem_of_getElem? hi, rfl⟩

theorem Wf.at_ {T : Nat} {l : List Tsk} {ls : List Ln} {jobs : List Jb} (h : Wf T l ls jobs) {i : Nat} {x : Tsk} (hi : l[i]? = some x) : ∃ ln, ls[i]? = some ln ∧ ln.x = x := by
  rw [← h.tasks, List.getElem?_map] at hi
  obtain ⟨ln, e, rfl⟩ := Option.map_eq_some_iff.1 hi
  exact ⟨ln, e, rfl⟩

theorem Wf.at_ln {T : Nat} {l : List Tsk} {ls : List Ln} {jobs : List Jb} (h : Wf T l ls jobs) {i : Nat} {ln : Ln} (hi : ls[i]? = some ln) : l[i]? = some ln.x := by
  rw [← h.tasks, List.getElem?_map, hi]; rfl

theorem set_map_x (ls : List Ln) (k : Nat) (ln ln' : Ln) (h : ls[k]? = some ln) (hx : ln'.x = ln.x) : (ls.set k ln').map (·.x) = ls.map (·.x) := by
  apply List.ext_getElem?
  intro i
  rw [List.getElem?_map, List.getElem?_set, List.getElem?_map]
  by_cases e : k = i
  · subst e
    obtain ⟨hl, he⟩ := List.getElem?_eq_some_iff.1 h
    simp [hl, he, hx]
  · rw [if_neg e]

/-- What a relTo in the midst of a unit keeps. -/
theorem wf_relTo {T : Nat} {l : List Tsk} {ls : List Ln} {jobs : List Jb} (h : Wf T l ls jobs) (hl : ∀ x ∈ l, ¬ x.bad) (h8 : l.length ≤ 8) (t : Int) :
    ∀ k, k ≤ 8 → Wf (T + 1) l (relTo t ls jobs k).1 (relTo t ls jobs k).2 ∧ (relTo t ls jobs k).2.length ≤ jobs.length + k
  | 0, _ => ⟨⟨h.tasks, by have := h.jobs_le; simp only [relTo]; omega, h.left_le, h.left_pos, h.queue, fun i ln hi => by have := h.short i ln hi; omega⟩, by simp [relTo]⟩
  | k + 1, hk => by
    obtain ⟨ih, ij⟩ := wf_relTo h hl h8 t k (by omega)
    cases e : ls[k]? with
    | none =>
      have e2 := relTo_later t ls jobs k k (Nat.le_refl _)
      rw [e] at e2
      have es : relTo t ls jobs (k + 1) = relTo t ls jobs k := by simp only [relTo, e2]
      rw [es]
      exact ⟨ih, by omega⟩
    | some ln =>
      rw [relTo_step t ls jobs k ln e]
      by_cases hd : due t ln.x
      · rw [if_pos hd]
        have hb := h.bad hl e
        simp only [Tsk.bad, not_or, Int.not_lt] at hb
        have e2 := relTo_later t ls jobs k k (Nat.le_refl _)
        rw [e] at e2
        have hlen : ((relTo t ls jobs k).2 ++ [(⟨k, t, -1, -1⟩ : Jb)]).length = (relTo t ls jobs k).2.length + 1 := by simp
        have hjl := h.jobs_le
        have get : ∀ i ln', ((relTo t ls jobs k).1.set k (relOne (relTo t ls jobs k).2.length ln))[i]? = some ln' → (i = k ∧ ln' = relOne (relTo t ls jobs k).2.length ln) ∨ (i ≠ k ∧ (relTo t ls jobs k).1[i]? = some ln') := by
          intro i ln' hi
          rw [List.getElem?_set] at hi
          by_cases ei : k = i
          · subst ei
            rw [if_pos rfl, if_pos (List.getElem?_eq_some_iff.1 e2).1] at hi
            exact .inl ⟨rfl, (Option.some.inj hi).symm⟩
          · rw [if_neg ei] at hi
            exact .inr ⟨Ne.symm ei, hi⟩
        refine ⟨⟨?_, ?_, ?_, ?_, ?_, ?_⟩, ?_⟩
        · rw [← ih.tasks]; exact set_map_x _ k ln _ e2 rfl
        · simp only [hlen]; omega
        · intro i ln' hi
          rcases get i ln' hi with ⟨rfl, rfl⟩ | ⟨_, hi⟩
          · simp only [relOne]
            split
            · omega
            · exact h.left_le i ln e
          · exact ih.left_le i ln' hi
        · intro i ln' hi hq
          rcases get i ln' hi with ⟨rfl, rfl⟩ | ⟨_, hi⟩
          · simp only [relOne]
            split
            · omega
            · exact h.left_pos i ln e (by assumption)
          · exact ih.left_pos i ln' hi hq
        · intro i ln' hi j hj
          rcases get i ln' hi with ⟨rfl, rfl⟩ | ⟨_, hi⟩
          · simp only [relOne, List.mem_append, List.mem_singleton] at hj
            rcases hj with hj | rfl
            · have := h.queue i ln e j hj
              have := (relTo_jobs t ls jobs i).1
              simp only [hlen]; omega
            · simp only [hlen]; omega
          · have := ih.queue i ln' hi j hj
            simp only [hlen]; omega
        · intro i ln' hi
          rcases get i ln' hi with ⟨rfl, rfl⟩ | ⟨_, hi⟩
          · have := h.short i ln e
            simp only [relOne, List.length_append, List.length_cons, List.length_nil]; omega
          · exact ih.short i ln' hi
        · simp only [hlen]; omega
      · rw [if_neg hd]
        exact ⟨ih, by omega⟩

theorem wf_exec {T : Nat} {l : List Tsk} {ls : List Ln} {jobs : List Jb} (h : Wf T l ls jobs) (hl : ∀ x ∈ l, ¬ x.bad) (t : Int) (r : Nat) : Wf T l (execAt t ls jobs r).1 (execAt t ls jobs r).2 := by
  unfold execAt
  split
  · exact h
  · rename_i ln e
    split
    · exact h
    · rename_i j q eq
      split
      · exact h
      · rename_i jb ej
        have hb := h.bad hl e
        simp only [Tsk.bad, not_or, Int.not_lt] at hb
        have hp := h.left_pos r ln e (by rw [eq]; simp)
        have hle := h.left_le r ln e
        have hq := h.queue r ln e
        have hs := h.short r ln e
        rw [eq] at hq hs
        have get : ∀ (nw : Ln) i ln', (ls.set r nw)[i]? = some ln' → (i = r ∧ ln' = nw) ∨ (i ≠ r ∧ ls[i]? = some ln') := by
          intro nw i ln' hi
          rw [List.getElem?_set] at hi
          by_cases ei : r = i
          · subst ei
            rw [if_pos rfl, if_pos (List.getElem?_eq_some_iff.1 e).1] at hi
            exact .inl ⟨rfl, (Option.some.inj hi).symm⟩
          · rw [if_neg ei] at hi
            exact .inr ⟨Ne.symm ei, hi⟩
        split
        · refine ⟨?_, by simpa using h.jobs_le, ?_, ?_, ?_, ?_⟩
          · rw [← h.tasks]; exact set_map_x _ r ln _ e rfl
          · intro i ln' hi
            rcases get _ i ln' hi with ⟨rfl, rfl⟩ | ⟨_, hi⟩
            · simp only; omega
            · exact h.left_le i ln' hi
          · intro i ln' hi hq'
            rcases get _ i ln' hi with ⟨rfl, rfl⟩ | ⟨_, hi⟩
            · simp only; omega
            · exact h.left_pos i ln' hi hq'
          · intro i ln' hi j' hj'
            rcases get _ i ln' hi with ⟨rfl, rfl⟩ | ⟨_, hi⟩
            · simpa using hq j' (List.mem_cons_of_mem _ hj')
            · simpa using h.queue i ln' hi j' hj'
          · intro i ln' hi
            rcases get _ i ln' hi with ⟨rfl, rfl⟩ | ⟨_, hi⟩
            · simp only [List.length_cons] at hs; simp only; omega
            · exact h.short i ln' hi
        · rename_i hne
          refine ⟨?_, by simpa using h.jobs_le, ?_, ?_, ?_, ?_⟩
          · rw [← h.tasks]; exact set_map_x _ r ln _ e rfl
          · intro i ln' hi
            rcases get _ i ln' hi with ⟨rfl, rfl⟩ | ⟨_, hi⟩
            · simp only; omega
            · exact h.left_le i ln' hi
          · intro i ln' hi hq'
            rcases get _ i ln' hi with ⟨rfl, rfl⟩ | ⟨_, hi⟩
            · simp only; omega
            · exact h.left_pos i ln' hi hq'
          · intro i ln' hi j' hj'
            rcases get _ i ln' hi with ⟨rfl, rfl⟩ | ⟨_, hi⟩
            · have : j' ∈ ln.q := hj'
              rw [eq] at this
              simpa using hq j' this
            · simpa using h.queue i ln' hi j' hj'
          · intro i ln' hi
            rcases get _ i ln' hi with ⟨rfl, rfl⟩ | ⟨_, hi⟩
            · simp only; rw [eq]; exact hs
            · exact h.short i ln' hi

/-- One unit: who runs, and what is behind it. -/
def stepAt (t : Int) (ls : List Ln) (jobs : List Jb) : List Ln × List Jb × Int :=
  let r := relTo t ls jobs ls.length
  let run := pickTo r.1 ls.length
  if run < 0 then (r.1, r.2, run) else ((execAt t r.1 r.2 run.toNat).1, (execAt t r.1 r.2 run.toNat).2, run)

/-- After T units: the lines, the jobs, who ran. -/
def simTo (l : List Tsk) : Nat → List Ln × List Jb × List Int
  | 0 => (start l, [], [])
  | T + 1 => let s := simTo l T; let u := stepAt T s.1 s.2.1; (u.1, u.2.1, s.2.2 ++ [u.2.2])

theorem wf_sim {l : List Tsk} (hl : ∀ x ∈ l, ¬ x.bad) (h8 : l.length ≤ 8) : ∀ T, Wf T l (simTo l T).1 (simTo l T).2.1
  | 0 => wf_start l
  | T + 1 => by
    have ih := wf_sim hl h8 T
    have hlen : (simTo l T).1.length = l.length := by
      have := congrArg List.length ih.tasks
      rwa [List.length_map] at this
    have hr := (wf_relTo ih hl h8 T (simTo l T).1.length (by omega)).1
    simp only [simTo, stepAt]
    split
    · exact hr
    · exact wf_exec hr hl T _

theorem sim_out_length (l : List Tsk) : ∀ T, (simTo l T).2.2.length = T
  | 0 => rfl
  | T + 1 => by simp [simTo, sim_out_length l T]
end Go.Proofs.Ytcfhnjdaijdoiaa
