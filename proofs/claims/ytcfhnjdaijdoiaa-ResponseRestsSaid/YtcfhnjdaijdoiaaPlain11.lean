/-
  What a schedule is: who runs in each unit, and the jobs; the program's simulation is one.
-/
import Derived.Test.YtcfhnjdaijdoiaaPlain10
namespace Go.Proofs.Ytcfhnjdaijdoiaa

/-! ### Releases -/
/-- How many jobs of a task are released before time T. -/
def relN (x : Tsk) : Nat → Nat
  | 0 => 0
  | T + 1 => relN x T + if due T x then 1 else 0

theorem due_eq {x : Tsk} (hb : ¬ x.bad) {T N : Nat} (h1 : (T : Int) ≤ x.o + N * x.p) (h2 : 1 ≤ N → x.o + ((N : Int) - 1) * x.p < T) : due T x ↔ (T : Int) = x.o + N * x.p := by
  simp only [Tsk.bad, not_or, Int.not_lt] at hb
  constructor
  · rintro ⟨h3, h4⟩
    obtain ⟨m, hm⟩ := Int.dvd_of_emod_eq_zero h4
    have hp : 0 < x.p := by omega
    have hm0 : 0 ≤ m := by
      by_cases h : 0 ≤ m
      · exact h
      · have : x.p * m < 0 := Int.mul_neg_of_pos_of_neg hp (by omega)
        omega
    have e : m = N := by
      have a1 : m ≤ N := by
        by_cases h : m ≤ N
        · exact h
        · have : x.p * (N + 1) ≤ x.p * m := Int.mul_le_mul_of_nonneg_left (by omega) (by omega)
          rw [Int.mul_add, Int.mul_comm x.p N] at this
          omega
      by_cases hN : N = 0
      · omega
      · have := h2 (by omega)
        by_cases h : (N : Int) ≤ m
        · omega
        · have h5 : x.p * m ≤ x.p * (N - 1) := Int.mul_le_mul_of_nonneg_left (by omega) (by omega)
          rw [Int.mul_comm x.p ((N : Int) - 1)] at h5
          omega
    subst e
    rw [Int.mul_comm] at hm
    omega
  · intro h
    have h3 : 0 ≤ (N : Int) * x.p := Int.mul_nonneg (by omega) (by omega)
    refine ⟨by omega, ?_⟩
    rw [show (T : Int) - x.o = N * x.p by omega]
    exact Int.mul_emod_left _ _

theorem relN_spec {x : Tsk} (hb : ¬ x.bad) : ∀ T : Nat, (T : Int) ≤ x.o + relN x T * x.p ∧ (1 ≤ relN x T → x.o + ((relN x T : Int) - 1) * x.p < T)
  | 0 => by
    simp only [Tsk.bad, not_or, Int.not_lt] at hb
    simp [relN]; omega
  | T + 1 => by
    have ih := relN_spec hb T
    have hd := due_eq hb ih.1 ih.2
    simp only [Tsk.bad, not_or, Int.not_lt] at hb
    by_cases h : due T x
    · have e0 : relN x (T + 1) = relN x T + 1 := by rw [relN, if_pos h]
      rw [e0]
      have e := hd.1 h
      generalize relN x T = N at *
      have e1 : (((N + 1 : Nat) : Int)) * x.p = N * x.p + x.p := by rw [Int.natCast_add, Int.add_mul]; simp
      refine ⟨by rw [e1]; omega, fun _ => ?_⟩
      have e2 : ((N + 1 : Nat) : Int) - 1 = N := by omega
      rw [e2]; omega
    · have e0 : relN x (T + 1) = relN x T := by rw [relN, if_neg h]; rfl
      rw [e0]
      have e : (T : Int) ≠ x.o + relN x T * x.p := fun e => h (hd.2 e)
      generalize relN x T = N at *
      refine ⟨by omega, fun h1 => ?_⟩
      have := ih.2 h1
      omega

theorem relN_due {x : Tsk} (hb : ¬ x.bad) (T : Nat) : due T x ↔ (T : Int) = x.o + relN x T * x.p := due_eq hb (relN_spec hb T).1 (relN_spec hb T).2

theorem relN_mono (x : Tsk) (s : Nat) : ∀ t, s ≤ t → relN x s ≤ relN x t
  | 0, h => by rw [Nat.le_zero.1 h]; exact Nat.le_refl _
  | t + 1, h => by
    by_cases e : s = t + 1
    · rw [e]; exact Nat.le_refl _
    · have := relN_mono x s t (by omega)
      rw [relN]; omega

/-- The jobs that the first k tasks release at time t. -/
def relAt (l : List Tsk) (t : Nat) : Nat → List (Int × Int)
  | 0 => []
  | k + 1 => relAt l t k ++ match l[k]? with
    | none => []
    | some x => if due t x then [((k : Int), (t : Int))] else []

def relSeq (l : List Tsk) : Nat → List (Int × Int)
  | 0 => []
  | T + 1 => relSeq l T ++ relAt l T l.length

def keyLt (a b : Int × Int) : Prop := a.2 < b.2 ∨ (a.2 = b.2 ∧ a.1 < b.1)
def Jb.key (j : Jb) : Int × Int := (j.k, j.rel)

theorem relAt_mem (l : List Tsk) (t : Nat) : ∀ k a, a ∈ relAt l t k → a.2 = t ∧ 0 ≤ a.1 ∧ a.1 < k
  | 0, a, h => by simp [relAt] at h
  | k + 1, a, h => by
    rw [relAt, List.mem_append] at h
    rcases h with h | h
    · have := relAt_mem l t k a h
      omega
    · split at h
      · simp at h
      · split at h
        · simp at h; subst h; exact ⟨rfl, by simp only; omega, by simp only; omega⟩
        · simp at h

theorem relSeq_mem (l : List Tsk) : ∀ T a, a ∈ relSeq l T → 0 ≤ a.2 ∧ a.2 < T
  | 0, a, h => by simp [relSeq] at h
  | T + 1, a, h => by
    rw [relSeq, List.mem_append] at h
    rcases h with h | h
    · have := relSeq_mem l T a h
      omega
    · have := relAt_mem l T _ a h
      omega

theorem relAt_sorted (l : List Tsk) (t : Nat) : ∀ k, (relAt l t k).Pairwise keyLt
  | 0 => by simp [relAt]
  | k + 1 => by
    rw [relAt, List.pairwise_append]
    refine ⟨relAt_sorted l t k, ?_, ?_⟩
    · split
      · simp
      · split <;> simp
    · intro a ha b hb
      have h1 := relAt_mem l t k a ha
      split at hb
      · simp at hb
      · split at hb
        · simp at hb; subst hb; exact .inr ⟨h1.1, h1.2.2⟩
        · simp at hb

theorem relSeq_sorted (l : List Tsk) : ∀ T k, (relSeq l T ++ relAt l T k).Pairwise keyLt
  | 0, k => by simpa [relSeq] using relAt_sorted l 0 k
  | T + 1, k => by
    rw [List.pairwise_append]
    refine ⟨relSeq_sorted l T l.length, relAt_sorted l (T + 1) k, ?_⟩
    intro a ha b hb
    have h1 := relSeq_mem l (T + 1) a ha
    have h2 := relAt_mem l (T + 1) k b hb
    exact .inl (by omega)

theorem sorted_get {jobs : List Jb} (h : (jobs.map Jb.key).Pairwise keyLt) {J J' : Nat} {a b : Jb} (hlt : J < J') (ha : jobs[J]? = some a) (hb : jobs[J']? = some b) : keyLt a.key b.key := by
  rw [List.pairwise_iff_getElem] at h
  obtain ⟨h1, rfl⟩ := List.getElem?_eq_some_iff.1 ha
  obtain ⟨h2, rfl⟩ := List.getElem?_eq_some_iff.1 hb
  have := h J J' (by simpa using h1) (by simpa using h2) hlt
  simpa using this

theorem sorted_inj {jobs : List Jb} (h : (jobs.map Jb.key).Pairwise keyLt) {J J' : Nat} {a b : Jb} (ha : jobs[J]? = some a) (hb : jobs[J']? = some b) (e : a.key = b.key) : J = J' := by
  rcases Nat.lt_trichotomy J J' with g | g | g
  · have := sorted_get h g ha hb
    rw [e] at this
    unfold keyLt at this
    omega
  · exact g
  · have := sorted_get h g hb ha
    rw [e] at this
    unfold keyLt at this
    omega

/-! ### Who ran -/
/-- How many of the first t units task i ran. -/
def exN (out : List Int) (i t : Nat) : Nat := (out.take t).count (i : Int)

theorem exN_zero (out : List Int) (i : Nat) : exN out i 0 = 0 := by simp [exN]
theorem exN_succ {out : List Int} {t : Nat} {r : Int} (i : Nat) (h : out[t]? = some r) : exN out i (t + 1) = exN out i t + if r = i then 1 else 0 := by
  unfold exN
  rw [List.take_add_one, h, List.count_append]
  simp [List.count_cons]
theorem exN_append (out z : List Int) (i t : Nat) (h : t ≤ out.length) : exN (out ++ z) i t = exN out i t := by
  unfold exN
  rw [List.take_append_of_le_length h]
theorem exN_next (out : List Int) (r : Int) (i : Nat) : exN (out ++ [r]) i (out.length + 1) = exN out i out.length + if r = i then 1 else 0 := by
  rw [exN_succ i (r := r) (by simp), exN_append _ _ _ _ (Nat.le_refl _)]
theorem exN_mono (out : List Int) (i s t : Nat) (h : s ≤ t) : exN out i s ≤ exN out i t := by
  unfold exN
  have : out.take s = (out.take t).take s := by rw [List.take_take, Nat.min_eq_left h]
  rw [this]
  exact List.Sublist.count_le _ (List.take_sublist _ _)
theorem exN_take (out : List Int) (i a t : Nat) (h : t ≤ a) : exN (out.take a) i t = exN out i t := by
  unfold exN; rw [List.take_take, Nat.min_eq_left h]

/-- Task i has work left in unit t. -/
def pend (l : List Tsk) (out : List Int) (t i : Nat) : Prop := ∃ x, l[i]? = some x ∧ exN out i t < x.c.toNat * relN x (t + 1)

/-- r is the most urgent task with work left in unit t; -1: there is none. -/
def Runs (l : List Tsk) (out : List Int) (t : Nat) (r : Int) : Prop :=
  (r = -1 ∧ ∀ i, ¬ pend l out t i) ∨
  ∃ i : Nat, r = i ∧ pend l out t i ∧ ∀ j, pend l out t j → j ≠ i → ∀ x y, l[i]? = some x → l[j]? = some y → x.q < y.q

def Sched (l : List Tsk) (out : List Int) : Prop := ∀ t r, out[t]? = some r → Runs l out t r

theorem pend_congr (l : List Tsk) {out out' : List Int} {t : Nat} (h : ∀ i, exN out i t = exN out' i t) (i : Nat) : pend l out t i ↔ pend l out' t i := by
  unfold pend; rw [h i]

theorem Runs.congr {l : List Tsk} {out out' : List Int} {t : Nat} {r : Int} (h : ∀ i, exN out i t = exN out' i t) (hr : Runs l out t r) : Runs l out' t r := by
  rcases hr with ⟨e, h1⟩ | ⟨i, e, h1, h2⟩
  · exact .inl ⟨e, fun i hi => h1 i ((pend_congr l h i).2 hi)⟩
  · exact .inr ⟨i, e, (pend_congr l h i).1 h1, fun j hj => h2 j ((pend_congr l h j).2 hj)⟩

theorem Runs.unique {l : List Tsk} {out : List Int} {t : Nat} {r r' : Int} (h : Runs l out t r) (h' : Runs l out t r') : r = r' := by
  rcases h with ⟨e, h1⟩ | ⟨i, e, h1, h2⟩ <;> rcases h' with ⟨e', h1'⟩ | ⟨i', e', h1', h2'⟩
  · rw [e, e']
  · exact absurd h1' (h1 _)
  · exact absurd h1 (h1' _)
  · by_cases hi : i = i'
    · rw [e, e', hi]
    · obtain ⟨x, hx, _⟩ := h1
      obtain ⟨y, hy, _⟩ := h1'
      have a := h2 i' ⟨y, hy, by assumption⟩ (Ne.symm hi) x y hx hy
      have b := h2' i ⟨x, hx, by assumption⟩ hi y x hy hx
      omega

theorem Sched.snoc {l : List Tsk} {out : List Int} {r : Int} (h : Sched l out) (hr : Runs l out out.length r) : Sched l (out ++ [r]) := by
  intro t u hu
  have ht : t < out.length + 1 := by
    have := (List.getElem?_eq_some_iff.1 hu).1
    simpa using this
  have e : ∀ i, exN out i t = exN (out ++ [r]) i t := fun i => (exN_append out [r] i t (by omega)).symm
  by_cases hlt : t < out.length
  · rw [List.getElem?_append_left hlt] at hu
    exact (h t u hu).congr e
  · obtain rfl : t = out.length := by omega
    simp at hu
    subst hu
    exact hr.congr e

theorem Sched.take {l : List Tsk} {out : List Int} (h : Sched l out) (a : Nat) : Sched l (out.take a) := by
  intro t u hu
  rw [List.getElem?_take] at hu
  split at hu
  · exact (h t u hu).congr (fun i => (exN_take out i a t (by omega)).symm)
  · cases hu

/-- There is one schedule. -/
theorem Sched.unique {l : List Tsk} {out out' : List Int} (h : Sched l out) (h' : Sched l out') (hl : out.length = out'.length) : out = out' := by
  have key : ∀ t, t ≤ out.length → out.take t = out'.take t := by
    intro t
    induction t with
    | zero => intro _; simp
    | succ t ih =>
      intro ht
      have ih := ih (by omega)
      obtain ⟨r, hr⟩ : ∃ r, out[t]? = some r := ⟨out[t], List.getElem?_eq_getElem (by omega)⟩
      obtain ⟨r', hr'⟩ : ∃ r, out'[t]? = some r := ⟨out'[t], List.getElem?_eq_getElem (by omega)⟩
      have e : r = r' := by
        refine Runs.unique ((h t r hr).congr (out' := out') (fun i => ?_)) (h' t r' hr')
        unfold exN; rw [ih]
      rw [take_snoc_get _ _ _ hr, take_snoc_get _ _ _ hr', ih, e]
  have := key out.length (Nat.le_refl _)
  rw [List.take_length, hl, List.take_length] at this
  exact this

/-! ### Jobs -/
def StOk (out : List Int) (i lo : Nat) (st : Int) : Prop := (st = -1 ∧ exN out i out.length ≤ lo) ∨ ∃ s : Nat, st = s ∧ out[s]? = some (i : Int) ∧ exN out i s = lo
def FinOk (out : List Int) (i hi : Nat) (fin : Int) : Prop := (fin = -1 ∧ exN out i out.length < hi) ∨ ∃ s : Nat, fin = s + 1 ∧ out[s]? = some (i : Int) ∧ exN out i (s + 1) = hi

/-- A job is the m-th one of a task, and starts and is finished with the first and the last unit of its work. -/
def JobAt (l : List Tsk) (out : List Int) (N : Nat → Nat) (jb : Jb) : Prop :=
  ∃ (i : Nat) (x : Tsk) (m : Nat), l[i]? = some x ∧ jb.k = i ∧ jb.rel = x.o + m * x.p ∧ m < N i ∧ StOk out i (m * x.c.toNat) jb.st ∧ FinOk out i ((m + 1) * x.c.toNat) jb.fin

theorem StOk.ext {out : List Int} {i lo : Nat} {st r : Int} (h : StOk out i lo st) (hr : r = i → exN out i out.length = lo → st = -1 → False) : StOk (out ++ [r]) i lo st := by
  rcases h with ⟨e, h⟩ | ⟨s, e, h1, h2⟩
  · refine .inl ⟨e, ?_⟩
    rw [List.length_append, List.length_cons, List.length_nil, exN_next]
    split
    · by_cases e2 : exN out i out.length = lo
      · exact (hr (by assumption) e2 e).elim
      · omega
    · omega
  · have hs := (List.getElem?_eq_some_iff.1 h1).1
    exact .inr ⟨s, e, by rw [List.getElem?_append_left hs]; exact h1, by rw [exN_append _ _ _ _ (by omega)]; exact h2⟩

theorem FinOk.ext {out : List Int} {i hi : Nat} {fin r : Int} (h : FinOk out i hi fin) (hr : r = i → exN out i out.length + 1 = hi → fin = -1 → False) : FinOk (out ++ [r]) i hi fin := by
  rcases h with ⟨e, h⟩ | ⟨s, e, h1, h2⟩
  · refine .inl ⟨e, ?_⟩
    rw [List.length_append, List.length_cons, List.length_nil, exN_next]
    split
    · by_cases e2 : exN out i out.length + 1 = hi
      · exact (hr (by assumption) e2 e).elim
      · omega
    · omega
  · have hs := (List.getElem?_eq_some_iff.1 h1).1
    exact .inr ⟨s, e, by rw [List.getElem?_append_left hs]; exact h1, by rw [exN_append _ _ _ _ (by omega)]; exact h2⟩

theorem div_full {e c : Nat} (hc : 0 < c) (h : e % c + 1 = c) : (e + 1) / c = e / c + 1 ∧ (e + 1) % c = 0 := by
  have h1 := Nat.div_add_mod e c
  have h2 : e + 1 = c * (e / c + 1) := by rw [Nat.mul_add]; omega
  generalize e / c = d at *
  rw [h2]
  exact ⟨Nat.mul_div_cancel_left _ hc, Nat.mul_mod_right _ _⟩

theorem div_part {e c : Nat} (h : e % c + 1 < c) : (e + 1) / c = e / c ∧ (e + 1) % c = e % c + 1 := by
  have h1 := Nat.div_add_mod e c
  have h2 : e + 1 = c * (e / c) + (e % c + 1) := by omega
  generalize e / c = d at *
  generalize e % c = m at *
  rw [h2]
  exact ⟨by rw [Nat.mul_add_div (by omega), Nat.div_eq_of_lt h, Nat.add_zero], by rw [Nat.mul_add_mod, Nat.mod_eq_of_lt h]⟩
end Go.Proofs.Ytcfhnjdaijdoiaa
