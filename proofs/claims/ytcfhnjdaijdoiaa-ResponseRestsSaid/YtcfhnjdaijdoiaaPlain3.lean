/-
  When tasks are accepted; the order by deadlines.
-/
import Derived.Test.YtcfhnjdaijdoiaaPlain2
namespace Go.Proofs.Ytcfhnjdaijdoiaa

theorem hasPrio_false_iff (q : Int) : ∀ (l : List Tsk), hasPrio q l = false ↔ ∀ y ∈ l, y.q ≠ q
  | [] => by simp [hasPrio]
  | y :: l => by
    rw [hasPrio]
    by_cases h : y.q = q
    · simp [h]
    · rw [if_neg h, hasPrio_false_iff q l]
      simp [h]

theorem checkFrom_zero_iff : ∀ (r pre : List Tsk), checkFrom pre r = 0 ↔
    (∀ x ∈ r, ¬ x.bad) ∧ ∀ k x, r[k]? = some x → hasPrio x.q (pre ++ r.take k) = false
  | [], pre => by simp [checkFrom]
  | x :: r, pre => by
    rw [checkFrom]
    by_cases hb : x.bad
    · rw [if_pos hb]
      constructor
      · intro h; simp at h
      · intro h; exact absurd hb (h.1 x (List.mem_cons_self ..))
    · rw [if_neg hb]
      by_cases hp : hasPrio x.q pre = true
      · rw [if_pos hp]
        constructor
        · intro h; simp at h
        · intro h
          have := h.2 0 x rfl
          simp [hp] at this
      · rw [if_neg hp, checkFrom_zero_iff r (pre ++ [x])]
        have hp' : hasPrio x.q pre = false := by simpa using hp
        constructor
        · rintro ⟨h1, h2⟩
          refine ⟨?_, ?_⟩
          · intro y hy
            rcases List.mem_cons.1 hy with rfl | hy
            · exact hb
            · exact h1 y hy
          · intro k y hy
            cases k with
            | zero => simp at hy; subst hy; simpa using hp'
            | succ k =>
              have := h2 k y (by simpa using hy)
              simpa using this
        · rintro ⟨h1, h2⟩
          refine ⟨fun y hy => h1 y (List.mem_cons_of_mem _ hy), fun k y hy => ?_⟩
          have := h2 (k + 1) y (by simpa using hy)
          simpa using this

def Distinct (l : List Tsk) : Prop := ∀ (i j : Nat) (x y : Tsk), i < j → l[i]? = some x → l[j]? = some y → x.q ≠ y.q

theorem check_zero_iff (l : List Tsk) : check l = 0 ↔ l.length ≤ 8 ∧ (∀ x ∈ l, ¬ x.bad) ∧ Distinct l := by
  unfold check
  by_cases h8 : 8 < l.length
  · rw [if_pos h8]
    constructor
    · intro h; simp at h
    · intro h; omega
  · rw [if_neg h8, checkFrom_zero_iff]
    constructor
    · rintro ⟨h1, h2⟩
      refine ⟨by omega, h1, fun i j x y hij hi hj => ?_⟩
      have := (hasPrio_false_iff _ _).1 (h2 j y hj) x (by
        rw [List.nil_append]
        refine List.mem_of_getElem? (i := i) ?_
        rw [List.getElem?_take, if_pos hij]
        exact hi)
      exact this
    · rintro ⟨_, h1, h2⟩
      refine ⟨h1, fun k x hx => (hasPrio_false_iff _ _).2 fun y hy => ?_⟩
      rw [List.nil_append] at hy
      obtain ⟨i, hi⟩ := List.mem_iff_getElem?.1 hy
      rw [List.getElem?_take] at hi
      split at hi
      · exact h2 i k y x (by assumption) hi hx
      · simp at hi

theorem Distinct.inj {l : List Tsk} (h : Distinct l) {i j : Nat} {x y : Tsk} (hi : l[i]? = some x) (hj : l[j]? = some y) (e : x.q = y.q) : i = j := by
  rcases Nat.lt_trichotomy i j with hij | hij | hij
  · exact absurd e (h i j x y hij hi hj)
  · exact hij
  · exact absurd e.symm (h j i y x hij hj hi)

/-- How many tasks come before task i, of deadline d, in the order by deadlines (and places). -/
def rank (i : Nat) (d : Int) : Nat → List Tsk → Int
  | _, [] => 0
  | k, y :: r => (if y.d < d ∨ (y.d = d ∧ k < i) then 1 else 0) + rank i d (k + 1) r

theorem rank_append (i : Nat) (d : Int) : ∀ (a b : List Tsk) (k : Nat), rank i d k (a ++ b) = rank i d k a + rank i d (k + a.length) b
  | [], b, k => by simp [rank]
  | y :: a, b, k => by
    simp only [List.cons_append, rank, rank_append i d a b (k + 1), List.length_cons]
    rw [show k + 1 + a.length = k + (a.length + 1) by omega]
    omega

theorem rank_step (i : Nat) (d : Int) (l : List Tsk) (j : Nat) (y : Tsk) (h : l[j]? = some y) :
    rank i d 0 (l.take (j + 1)) = rank i d 0 (l.take j) + if y.d < d ∨ (y.d = d ∧ j < i) then 1 else 0 := by
  rw [take_snoc_get l j y h, rank_append]
  have hj : j < l.length := (List.getElem?_eq_some_iff.1 h).1
  simp [rank, Nat.min_eq_left (Nat.le_of_lt hj)]

theorem rank_bounds (i : Nat) (d : Int) : ∀ (l : List Tsk) (k : Nat), 0 ≤ rank i d k l ∧ rank i d k l ≤ l.length
  | [], _ => by simp [rank]
  | y :: r, k => by
    have := rank_bounds i d r (k + 1)
    simp only [rank, List.length_cons]
    split <;> omega

theorem rank_le (i j : Nat) (d e : Int) (h : d < e ∨ (d = e ∧ i ≤ j)) : ∀ (l : List Tsk) (k : Nat), rank i d k l ≤ rank j e k l
  | [], _ => by simp [rank]
  | y :: r, k => by
    have := rank_le i j d e h r (k + 1)
    simp only [rank]
    by_cases h1 : y.d < d ∨ (y.d = d ∧ k < i)
    · rw [if_pos h1, if_pos (by omega)]; omega
    · rw [if_neg h1]
      split <;> omega

theorem rank_lt (i j : Nat) (d e : Int) (h : d < e ∨ (d = e ∧ i < j)) : ∀ (l : List Tsk) (k : Nat) (x : Tsk), k ≤ i → l[i - k]? = some x → x.d = d → rank i d k l < rank j e k l
  | [], k, x, _, hx, _ => by simp at hx
  | y :: r, k, x, hk, hx, hd => by
    simp only [rank]
    by_cases e0 : k = i
    · subst e0
      simp at hx
      subst hx
      have := rank_le k j d e (by omega) r (k + 1)
      rw [if_neg (by omega), if_pos (by omega)]
      omega
    · have h1 : i - k = (i - (k + 1)) + 1 := by omega
      rw [h1] at hx
      have := rank_lt i j d e h r (k + 1) x (by omega) (by simpa using hx) hd
      by_cases h2 : y.d < d ∨ (y.d = d ∧ k < i)
      · rw [if_pos h2, if_pos (by omega)]; omega
      · rw [if_neg h2]
        split <;> omega

def assignOne (l : List Tsk) (i : Nat) (x : Tsk) : Tsk := { x with q := rank i x.d 0 l }
/-- The first k tasks have their priorities by deadlines. -/
def assignTo (l : List Tsk) (k : Nat) : List Tsk := l.mapIdx fun i x => if i < k then assignOne l i x else x
def assign (l : List Tsk) : List Tsk := l.mapIdx (assignOne l)

theorem assignTo_get (l : List Tsk) (k i : Nat) : (assignTo l k)[i]? = (l[i]?).map fun x => if i < k then assignOne l i x else x := by
  simp [assignTo]
theorem assign_get (l : List Tsk) (i : Nat) : (assign l)[i]? = (l[i]?).map (assignOne l i) := by simp [assign]
theorem assignTo_length (l : List Tsk) (k : Nat) : (assignTo l k).length = l.length := by simp [assignTo]
theorem assign_length (l : List Tsk) : (assign l).length = l.length := by simp [assign]
theorem assignTo_zero (l : List Tsk) : assignTo l 0 = l := by
  apply List.ext_getElem?
  intro i
  rw [assignTo_get]
  simp
theorem assignTo_all (l : List Tsk) (k : Nat) (h : l.length ≤ k) : assignTo l k = assign l := by
  apply List.ext_getElem?
  intro i
  rw [assignTo_get, assign_get]
  cases e : l[i]? with
  | none => rfl
  | some x =>
    have := (List.getElem?_eq_some_iff.1 e).1
    simp [show i < k by omega]
theorem assignTo_step (l : List Tsk) (k : Nat) (x : Tsk) (h : l[k]? = some x) : assignTo l (k + 1) = (assignTo l k).set k (assignOne l k x) := by
  apply List.ext_getElem?
  intro i
  rw [assignTo_get, List.getElem?_set, assignTo_length, assignTo_get]
  by_cases e : k = i
  · subst e
    obtain ⟨hl, he⟩ := List.getElem?_eq_some_iff.1 h
    simp [hl, he]
  · rw [if_neg e]
    by_cases h1 : i < k
    · simp [h1, show i < k + 1 by omega]
    · simp [h1, show ¬ i < k + 1 by omega]

theorem assign_check {l : List Tsk} (h : check l = 0) : check (assign l) = 0 := by
  rw [check_zero_iff] at h ⊢
  obtain ⟨h1, h2, h3⟩ := h
  refine ⟨by rw [assign_length]; exact h1, ?_, ?_⟩
  · intro x hx
    obtain ⟨i, hi⟩ := List.mem_iff_getElem?.1 hx
    rw [assign_get] at hi
    obtain ⟨y, hy, rfl⟩ := Option.map_eq_some_iff.1 hi
    exact h2 y (List.mem_of_getElem? hy)
  · intro i j x y hij hi hj
    rw [assign_get] at hi hj
    obtain ⟨x', hx, rfl⟩ := Option.map_eq_some_iff.1 hi
    obtain ⟨y', hy, rfl⟩ := Option.map_eq_some_iff.1 hj
    show rank i x'.d 0 l ≠ rank j y'.d 0 l
    by_cases hd : y'.d < x'.d
    · have := rank_lt j i y'.d x'.d (Or.inl hd) l 0 y' (Nat.zero_le _) (by simpa using hy) rfl
      omega
    · have := rank_lt i j x'.d y'.d (by omega) l 0 x' (Nat.zero_le _) (by simpa using hx) rfl
      omega
end Go.Proofs.Ytcfhnjdaijdoiaa
