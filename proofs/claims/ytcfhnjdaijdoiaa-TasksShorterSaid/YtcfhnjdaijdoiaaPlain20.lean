/-
  A shorter timeline; the timeline without the least urgent task.
-/
import Derived.Test.YtcfhnjdaijdoiaaPlain13
import Derived.Test.YtcfhnjdaijdoiaaPlain8
namespace Go.Proofs.Ytcfhnjdaijdoiaa

theorem line_prefix {l : List Tsk} (hc : check l = 0) {a b : Nat} (h : a ≤ b) : (simTo l a).2.2 = (simTo l b).2.2.take a :=
  (sim_spec hc a).sched.unique ((sim_spec hc b).sched.take a) (by rw [sim_out_length, List.length_take, sim_out_length]; omega)

/-- The least urgent one of the first k tasks. -/
def lastTo (l : List Tsk) : Nat → Nat
  | 0 => 0
  | k + 1 => match l[k]?, l[lastTo l k]? with
    | some x, some y => if y.q < x.q then k else lastTo l k
    | _, _ => lastTo l k

theorem lastTo_lt {l : List Tsk} (h : 0 < l.length) : ∀ k, k ≤ l.length → lastTo l k < l.length
  | 0, _ => h
  | k + 1, hk => by
    have ih := lastTo_lt h k (by omega)
    rw [lastTo]
    split
    · split <;> omega
    · exact ih

theorem lastTo_step {l : List Tsk} {k : Nat} {x y : Tsk} (hx : l[k]? = some x) (hy : l[lastTo l k]? = some y) : lastTo l (k + 1) = if y.q < x.q then k else lastTo l k := by
  rw [lastTo, hx, hy]

theorem lastTo_max {l : List Tsk} (h : 0 < l.length) : ∀ k, k ≤ l.length → ∀ (j : Nat) (z y : Tsk), j < k → l[j]? = some z → l[lastTo l k]? = some y → z.q ≤ y.q
  | 0, _, j, _, _, hj, _, _ => by omega
  | k + 1, hk, j, z, y, hj, hz, hy => by
    have hlt := lastTo_lt h k (by omega)
    obtain ⟨x, hx⟩ : ∃ x, l[k]? = some x := ⟨l[k], List.getElem?_eq_getElem (by omega)⟩
    obtain ⟨u, hu⟩ : ∃ u, l[lastTo l k]? = some u := ⟨l[lastTo l k], List.getElem?_eq_getElem (by omega)⟩
    rw [lastTo_step hx hu] at hy
    by_cases e : j = k
    · subst e
      rw [hx] at hz
      cases hz
      split at hy
      · rw [hx] at hy; cases hy; omega
      · rw [hu] at hy; cases hy; omega
    · have ih := lastTo_max h k (by omega) j z u (by omega) hz hu
      split at hy
      · rw [hx] at hy; cases hy; omega
      · rw [hu] at hy; cases hy; exact ih

def shift (last : Nat) (r : Int) : Int := if (last : Int) < r then r - 1 else if r = last then -1 else r
def unshift (last i : Nat) : Nat := if i < last then i else i + 1

theorem shift_iff (last i : Nat) (r : Int) (_hr : -1 ≤ r) : shift last r = i ↔ r = unshift last i := by
  unfold shift unshift
  split <;> split <;> (try split) <;> omega

theorem exN_shift (out : List Int) (last i t : Nat) (hr : ∀ r ∈ out, -1 ≤ r) : exN (out.map (shift last)) i t = exN out (unshift last i) t := by
  unfold exN
  rw [← List.map_take]
  have h : ∀ r ∈ out.take t, -1 ≤ r := fun r h => hr r (List.mem_of_mem_take h)
  revert h
  generalize out.take t = o
  intro h
  induction o with
  | nil => rfl
  | cons r o ih =>
    rw [List.map_cons, List.count_cons, List.count_cons, ih (fun r h' => h r (List.mem_cons_of_mem _ h'))]
    have := shift_iff last i r (h r List.mem_cons_self)
    by_cases e : r = unshift last i
    · have e2 := this.2 e
      rw [if_pos (by rw [e2]; simp), if_pos (by rw [e]; simp)]
    · have e2 : ¬ shift last r = i := fun h => e (this.1 h)
      simp [e2, e]

theorem rest_get (l : List Tsk) (last i : Nat) : (l.eraseIdx last)[i]? = l[unshift last i]? := by
  unfold unshift
  rw [List.getElem?_eraseIdx]
  split <;> rfl

theorem rest_check {l : List Tsk} (hc : check l = 0) (last : Nat) : check (l.eraseIdx last) = 0 := sublist_check hc (List.eraseIdx_sublist ..)

theorem rest_line {l : List Tsk} (hc : check l = 0) (h0 : 0 < l.length) (T : Nat) : (simTo (l.eraseIdx (lastTo l l.length)) T).2.2 = (simTo l T).2.2.map (shift (lastTo l l.length)) := by
  have hrg : ∀ r ∈ (simTo l T).2.2, -1 ≤ r := fun r h => (sim_run_range l T r h).1
  have hmax := lastTo_max h0 l.length (Nat.le_refl _)
  have hlt := lastTo_lt h0 l.length (Nat.le_refl _)
  obtain ⟨_, _, hdis⟩ := (check_zero_iff l).1 hc
  have hsch := (sim_spec hc T).sched
  refine (sim_spec (rest_check hc _) T).sched.unique ?_ (by rw [List.length_map, sim_out_length, sim_out_length])
  generalize lastTo l l.length = last at *
  generalize (simTo l T).2.2 = out at *
  have hpend : ∀ i t, pend (l.eraseIdx last) (out.map (shift last)) t i ↔ pend l out t (unshift last i) := by
    intro i t
    unfold pend
    rw [rest_get, exN_shift out last i t hrg]
  intro t r hr
  rw [List.getElem?_map, Option.map_eq_some_iff] at hr
  obtain ⟨r0, hr0, rfl⟩ := hr
  rcases hsch t r0 hr0 with ⟨e, h1⟩ | ⟨i, e, h1, h2⟩
  · subst e
    refine .inl ⟨by unfold shift; rw [if_neg (by omega), if_neg (by omega)], fun i hi => h1 _ ((hpend i t).1 hi)⟩
  · subst e
    by_cases hil : i = last
    · subst hil
      refine .inl ⟨by unfold shift; rw [if_neg (by omega), if_pos rfl], fun j hj => ?_⟩
      have hj' := (hpend j t).1 hj
      have hne : unshift i j ≠ i := by unfold unshift; split <;> omega
      obtain ⟨x, hx, _⟩ := h1
      have hj2 := hj'
      obtain ⟨y, hy, _⟩ := hj2
      have a1 := h2 _ hj' hne x y hx hy
      have a2 := hmax _ y x (List.getElem?_eq_some_iff.1 hy).1 hy hx
      omega
    · obtain ⟨i', hi'⟩ : ∃ i', unshift last i' = i := by
        by_cases h : i < last
        · exact ⟨i, by unfold unshift; rw [if_pos h]⟩
        · exact ⟨i - 1, by unfold unshift; rw [if_neg (by omega)]; omega⟩
      refine .inr ⟨i', (shift_iff last i' i (by omega)).2 (by omega), (hpend i' t).2 (by rw [hi']; exact h1), fun j hj hne x y hx hy => ?_⟩
      rw [rest_get, hi'] at hx
      rw [rest_get] at hy
      have hne' : unshift last j ≠ i := by
        rw [← hi']
        unfold unshift
        split <;> split <;> omega
      exact h2 _ ((hpend j t).1 hj) hne' x y hx hy
end Go.Proofs.Ytcfhnjdaijdoiaa
