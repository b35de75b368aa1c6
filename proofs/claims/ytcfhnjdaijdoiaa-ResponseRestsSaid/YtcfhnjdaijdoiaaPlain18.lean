/-
  The work that is left of each task.
-/
import Derived.Test.YtcfhnjdaijdoiaaPlain17
namespace Go.Proofs.Ytcfhnjdaijdoiaa

theorem relN_le (x : Tsk) : ∀ T, relN x T ≤ T
  | 0 => by simp [relN]
  | T + 1 => by
    have := relN_le x T
    rw [relN]
    split <;> omega
theorem exN_le (out : List Int) (i t : Nat) : exN out i t ≤ t := by
  unfold exN
  exact Nat.le_trans List.count_le_length (List.length_take_le _ _)

/-- The work left when the first m tasks have released their jobs of time t. -/
def wkAt (l : List Tsk) (out : List Int) (t m : Nat) : List Int := l.mapIdx fun i x => x.c * relN x (if i < m then t + 1 else t) - exN out i t

theorem wkAt_get (l : List Tsk) (out : List Int) (t m i : Nat) : (wkAt l out t m)[i]? = (l[i]?).map fun x => x.c * relN x (if i < m then t + 1 else t) - exN out i t := by simp [wkAt]
theorem wkAt_length (l : List Tsk) (out : List Int) (t m : Nat) : (wkAt l out t m).length = l.length := by simp [wkAt]

theorem wkAt_start (l : List Tsk) (out : List Int) : wkAt l out 0 0 = List.replicate l.length 0 := by
  apply List.ext_getElem?
  intro i
  rw [wkAt_get, List.getElem?_replicate]
  cases e : l[i]? with
  | none =>
    rw [List.getElem?_eq_none_iff] at e
    have h2 : ¬ i < l.length := by omega
    simp [h2]
  | some x =>
    have := (List.getElem?_eq_some_iff.1 e).1
    rw [if_pos this]
    simp [relN, exN]

theorem wkAt_due {l : List Tsk} {out : List Int} {t m : Nat} {x : Tsk} (hx : l[m]? = some x) (hd : due t x) : wkAt l out t (m + 1) = (wkAt l out t m).set m (x.c * relN x t - exN out m t + x.c) := by
  apply List.ext_getElem?
  intro i
  rw [wkAt_get, List.getElem?_set, wkAt_length, wkAt_get]
  by_cases e : m = i
  · subst e
    rw [if_pos rfl, if_pos (List.getElem?_eq_some_iff.1 hx).1, hx]
    simp only [Option.map_some, Nat.lt_succ_self, if_pos, Option.some.injEq]
    have : relN x (t + 1) = relN x t + 1 := by rw [relN, if_pos hd]
    rw [this, Int.natCast_add, Int.mul_add]
    simp
    omega
  · rw [if_neg e]
    by_cases h2 : i < m
    · rw [if_pos (by omega), if_pos h2]
    · rw [if_neg (by omega), if_neg h2]

theorem wkAt_not {l : List Tsk} {out : List Int} {t m : Nat} {x : Tsk} (hx : l[m]? = some x) (hd : ¬ due t x) : wkAt l out t (m + 1) = wkAt l out t m := by
  apply List.ext_getElem?
  intro i
  rw [wkAt_get, wkAt_get]
  by_cases e : m = i
  · subst e
    have : relN x (t + 1) = relN x t := by rw [relN, if_neg hd]; rfl
    rw [hx]
    simp [this]
  · by_cases h2 : i < m
    · rw [if_pos (by omega), if_pos h2]
    · rw [if_neg (by omega), if_neg h2]

theorem wkAt_idle {l : List Tsk} {out : List Int} {t : Nat} {r : Int} (ho : out[t]? = some r) (hr : r < 0) : wkAt l out (t + 1) 0 = wkAt l out t l.length := by
  apply List.ext_getElem?
  intro i
  rw [wkAt_get, wkAt_get]
  cases e : l[i]? with
  | none => rfl
  | some x =>
    have := (List.getElem?_eq_some_iff.1 e).1
    rw [if_pos this, if_neg (by omega), exN_succ i ho, if_neg (by omega)]; rfl

theorem wkAt_run {l : List Tsk} {out : List Int} {t k : Nat} {x : Tsk} (ho : out[t]? = some (k : Int)) (hx : l[k]? = some x) : wkAt l out (t + 1) 0 = (wkAt l out t l.length).set k (x.c * relN x (t + 1) - exN out k t - 1) := by
  apply List.ext_getElem?
  intro i
  rw [wkAt_get, List.getElem?_set, wkAt_length, wkAt_get]
  by_cases e1 : k = i
  · subst e1
    have := (List.getElem?_eq_some_iff.1 hx).1
    rw [hx, if_pos rfl, if_pos this]
    simp only [Option.map_some, Option.some.injEq, Nat.not_lt_zero, if_false]
    rw [exN_succ k ho, if_pos rfl, Int.natCast_add]
    simp
    omega
  · rw [if_neg e1]
    cases e : l[i]? with
    | none => rfl
    | some y =>
      have := (List.getElem?_eq_some_iff.1 e).1
      rw [if_pos this, if_neg (by omega), exN_succ i ho, if_neg (by omega)]; rfl

theorem wk_pend {l : List Tsk} {out : List Int} {t i : Nat} {x : Tsk} (hx : l[i]? = some x) (hb : ¬ x.bad) : pend l out t i ↔ 0 < x.c * relN x (t + 1) - exN out i t := by
  simp only [Tsk.bad, not_or, Int.not_lt] at hb
  obtain ⟨c, hc⟩ : ∃ c : Nat, x.c = c := ⟨x.c.toNat, by omega⟩
  have hcn : x.c.toNat = c := by omega
  constructor
  · rintro ⟨y, hy, h⟩
    rw [hx] at hy
    cases hy
    rw [hcn] at h
    rw [hc]
    have : ((exN out i t : Nat) : Int) < ((c * relN x (t + 1) : Nat) : Int) := by exact_mod_cast h
    rw [Int.natCast_mul] at this
    omega
  · intro h
    refine ⟨x, hx, ?_⟩
    rw [hcn]
    rw [hc] at h
    have : ((exN out i t : Nat) : Int) < ((c * relN x (t + 1) : Nat) : Int) := by rw [Int.natCast_mul]; omega
    exact_mod_cast this

theorem wk_bounds {x : Tsk} (hb : ¬ x.bad) {t : Nat} (ht : t ≤ 100000) (out : List Int) (i s : Nat) (hs : s ≤ 100000) : -100000 ≤ x.c * relN x t - exN out i s ∧ x.c * relN x t - exN out i s ≤ 409600000 := by
  simp only [Tsk.bad, not_or, Int.not_lt] at hb
  have h1 := relN_le x t
  have h2 := exN_le out i s
  have h3 : 0 ≤ x.c * (relN x t : Int) := Int.mul_nonneg (by omega) (by omega)
  have h4 : x.c * (relN x t : Int) ≤ 4096 * 100000 := Int.mul_le_mul (by omega) (by omega) (by omega) (by omega)
  omega

/-- In unit t, r runs: no task with work left is more urgent, and r has work left. -/
theorem urgent {l : List Tsk} {out : List Int} (hs : Sched l out) (hl : ∀ x ∈ l, ¬ x.bad) {t : Nat} {r : Int} (ho : out[t]? = some r) {i : Nat} {x : Tsk} (hx : l[i]? = some x) (hp : 0 < x.c * relN x (t + 1) - exN out i t) :
    ∃ (k : Nat) (y : Tsk), r = k ∧ l[k]? = some y ∧ ¬ x.q < y.q := by
  have hpd := (wk_pend hx (hl x (List.mem_of_getElem? hx))).2 hp
  rcases hs t r ho with ⟨_, h⟩ | ⟨k, e, h1, h2⟩
  · exact absurd hpd (h i)
  · obtain ⟨y, hy, _⟩ := h1
    refine ⟨k, y, e, hy, ?_⟩
    by_cases e2 : i = k
    · subst e2
      rw [hx] at hy
      cases hy
      omega
    · have := h2 i hpd e2 y x hy hx
      omega

theorem runs_pos {l : List Tsk} {out : List Int} (hs : Sched l out) (hl : ∀ x ∈ l, ¬ x.bad) {t k : Nat} (ho : out[t]? = some (k : Int)) : ∃ x, l[k]? = some x ∧ 0 < x.c * relN x (t + 1) - exN out k t := by
  rcases hs t k ho with ⟨e, _⟩ | ⟨j, e, h1, _⟩
  · omega
  · obtain rfl : k = j := by omega
    obtain ⟨x, hx, h⟩ := h1
    exact ⟨x, hx, (wk_pend hx (hl x (List.mem_of_getElem? hx))).1 ⟨x, hx, h⟩⟩
end Go.Proofs.Ytcfhnjdaijdoiaa
