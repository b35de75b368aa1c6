/-
  Tasks numbered; two priorities exchanged.
-/
import Derived.Test.YtcfhnjdaijdoiaaPlain3
namespace Go.Proofs.Ytcfhnjdaijdoiaa

def mapTo (f : Nat → Tsk → Tsk) (l : List Tsk) (k : Nat) : List Tsk := l.mapIdx fun i x => if i < k then f i x else x
theorem mapTo_get (f : Nat → Tsk → Tsk) (l : List Tsk) (k i : Nat) : (mapTo f l k)[i]? = (l[i]?).map fun x => if i < k then f i x else x := by
  simp [mapTo]
theorem mapTo_length (f : Nat → Tsk → Tsk) (l : List Tsk) (k : Nat) : (mapTo f l k).length = l.length := by simp [mapTo]
theorem mapTo_zero (f : Nat → Tsk → Tsk) (l : List Tsk) : mapTo f l 0 = l := by
  apply List.ext_getElem?
  intro i
  rw [mapTo_get]
  simp
theorem mapTo_step (f : Nat → Tsk → Tsk) (l : List Tsk) (k : Nat) (x : Tsk) (h : l[k]? = some x) : mapTo f l (k + 1) = (mapTo f l k).set k (f k x) := by
  apply List.ext_getElem?
  intro i
  rw [mapTo_get, List.getElem?_set, mapTo_length, mapTo_get]
  by_cases e : k = i
  · subst e
    obtain ⟨hl, he⟩ := List.getElem?_eq_some_iff.1 h
    simp [hl, he]
  · rw [if_neg e]
    by_cases h1 : i < k
    · simp [h1, show i < k + 1 by omega]
    · simp [h1, show ¬ i < k + 1 by omega]

def numOne (i : Nat) (x : Tsk) : Tsk := { x with q := i }

theorem num_check {l : List Tsk} (h : check l = 0) (k : Nat) (hk : l.length ≤ k) : check (mapTo numOne l k) = 0 := by
  rw [check_zero_iff] at h ⊢
  obtain ⟨h1, h2, h3⟩ := h
  refine ⟨by rw [mapTo_length]; exact h1, ?_, ?_⟩
  · intro x hx
    obtain ⟨i, hi⟩ := List.mem_iff_getElem?.1 hx
    rw [mapTo_get] at hi
    obtain ⟨y, hy, rfl⟩ := Option.map_eq_some_iff.1 hi
    have := h2 y (List.mem_of_getElem? hy)
    split <;> exact this
  · intro i j x y hij hi hj
    rw [mapTo_get] at hi hj
    obtain ⟨x', hx, rfl⟩ := Option.map_eq_some_iff.1 hi
    obtain ⟨y', hy, rfl⟩ := Option.map_eq_some_iff.1 hj
    have := (List.getElem?_eq_some_iff.1 hy).1
    rw [if_pos (by omega), if_pos (by omega)]
    show (i : Int) ≠ (j : Int)
    omega

/-- Behind the first of the two stores. -/
def swap1 (l : List Tsk) (i : Nat) (x y : Tsk) : List Tsk := l.set i { x with q := y.q }
/-- The priorities of the tasks x, at i, and y, at j, are exchanged. -/
def swap (l : List Tsk) (i j : Nat) (x y : Tsk) : List Tsk := (swap1 l i x y).set j { y with q := x.q }

theorem swap1_at (l : List Tsk) (i j : Nat) (x y : Tsk) (hx : l[i]? = some x) (hy : l[j]? = some y) : (swap1 l i x y)[j]? = some y := by
  unfold swap1
  rw [List.getElem?_set]
  by_cases e : i = j
  · subst e
    rw [hx] at hy
    cases hy
    rw [if_pos rfl, if_pos (List.getElem?_eq_some_iff.1 hx).1]
  · rw [if_neg e]; exact hy

theorem swap_get (l : List Tsk) (i j : Nat) (x y : Tsk) (hx : l[i]? = some x) (hy : l[j]? = some y) (k : Nat) (z : Tsk) (hz : l[k]? = some z) :
    ∃ z', (swap l i j x y)[k]? = some z' ∧ (z'.bad ↔ z.bad) ∧ z'.q = if k = j then x.q else if k = i then y.q else z.q := by
  have hk := (List.getElem?_eq_some_iff.1 hz).1
  unfold swap
  rw [List.getElem?_set]
  by_cases e : j = k
  · subst e
    rw [hy] at hz
    cases hz
    rw [if_pos rfl, if_pos (by simpa [swap1] using hk)]
    exact ⟨_, rfl, Iff.rfl, by simp⟩
  · rw [if_neg e]
    unfold swap1
    rw [List.getElem?_set]
    by_cases e2 : i = k
    · subst e2
      rw [hx] at hz
      cases hz
      rw [if_pos rfl, if_pos hk]
      exact ⟨_, rfl, Iff.rfl, by rw [if_neg (Ne.symm e)]; simp⟩
    · rw [if_neg e2]
      exact ⟨z, hz, Iff.rfl, by rw [if_neg (Ne.symm e), if_neg (Ne.symm e2)]⟩

theorem swap_length (l : List Tsk) (i j : Nat) (x y : Tsk) : (swap l i j x y).length = l.length := by simp [swap, swap1]

theorem swap_check {l : List Tsk} (h : check l = 0) (i j : Nat) (x y : Tsk) (hx : l[i]? = some x) (hy : l[j]? = some y) : check (swap l i j x y) = 0 := by
  rw [check_zero_iff] at h ⊢
  obtain ⟨h1, h2, h3⟩ := h
  have back : ∀ k z', (swap l i j x y)[k]? = some z' → ∃ z, l[k]? = some z ∧ (z'.bad ↔ z.bad) ∧ z'.q = if k = j then x.q else if k = i then y.q else z.q := by
    intro k z' hz'
    have hk := (List.getElem?_eq_some_iff.1 hz').1
    rw [swap_length] at hk
    have hz : l[k]? = some l[k] := List.getElem?_eq_getElem hk
    obtain ⟨z2, e1, e2, e3⟩ := swap_get l i j x y hx hy k _ hz
    rw [hz'] at e1
    cases e1
    exact ⟨_, hz, e2, e3⟩
  refine ⟨by rw [swap_length]; exact h1, ?_, ?_⟩
  · intro z' hz'
    obtain ⟨k, hk⟩ := List.mem_iff_getElem?.1 hz'
    obtain ⟨z, hz, hb, _⟩ := back k z' hk
    rw [hb]
    exact h2 z (List.mem_of_getElem? hz)
  · intro a b u v hab hu hv
    obtain ⟨u', hu', _, eu⟩ := back a u hu
    obtain ⟨v', hv', _, ev⟩ := back b v hv
    rw [eu, ev]
    intro e
    have inj : ∀ {p q : Nat} {s t : Tsk}, l[p]? = some s → l[q]? = some t → s.q = t.q → p = q := fun hs ht e => Distinct.inj h3 hs ht e
    by_cases a1 : a = j
    · rw [if_pos a1] at e
      by_cases b1 : b = j
      · omega
      · rw [if_neg b1] at e
        by_cases b2 : b = i
        · rw [if_pos b2] at e
          have := inj hx hy e
          omega
        · rw [if_neg b2] at e
          have := inj hx hv' e
          omega
    · rw [if_neg a1] at e
      by_cases a2 : a = i
      · rw [if_pos a2] at e
        by_cases b1 : b = j
        · rw [if_pos b1] at e
          have := inj hy hx e
          omega
        · rw [if_neg b1] at e
          by_cases b2 : b = i
          · omega
          · rw [if_neg b2] at e
            have := inj hy hv' e
            omega
      · rw [if_neg a2] at e
        by_cases b1 : b = j
        · rw [if_pos b1] at e
          have := inj hu' hx e
          omega
        · rw [if_neg b1] at e
          by_cases b2 : b = i
          · rw [if_pos b2] at e
            have := inj hu' hy e
            omega
          · rw [if_neg b2] at e
            have := inj hu' hv' e
            omega
end Go.Proofs.Ytcfhnjdaijdoiaa
