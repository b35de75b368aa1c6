/-
  Plain facts on lists, and what the tasks' checks compute. No program in sight.
-/
namespace Go.Proofs.Ytcfhnjdaijdoiaa

theorem flat_get {α β : Type} (f : α → List β) (m : Nat) (hm : ∀ a, (f a).length = m) :
    ∀ (l : List α) (k j : Nat) (x : α) (u : β), l[k]? = some x → (f x)[j]? = some u → (l.flatMap f)[k * m + j]? = some u
  | [], k, j, x, u, h, _ => by simp at h
  | a :: l, 0, j, x, u, h, hu => by
    simp at h; subst h
    simp only [List.flatMap_cons, Nat.zero_mul, Nat.zero_add]
    rw [List.getElem?_append_left]
    · exact hu
    · exact (List.getElem?_eq_some_iff.1 hu).1
  | a :: l, k + 1, j, x, u, h, hu => by
    have ih := flat_get f m hm l k j x u (by simpa using h) hu
    simp only [List.flatMap_cons]
    rw [List.getElem?_append_right (by rw [hm, Nat.add_mul]; omega), hm, show (k + 1) * m + j - m = k * m + j by rw [Nat.add_mul]; omega]
    exact ih

theorem flat_length {α β : Type} (f : α → List β) (m : Nat) (hm : ∀ a, (f a).length = m) :
    ∀ (l : List α), (l.flatMap f).length = l.length * m
  | [] => by simp
  | a :: l => by simp only [List.flatMap_cons, List.length_append, hm, flat_length f m hm l, List.length_cons, Nat.add_mul]; omega

/-- A task: period, offset, cost, deadline, priority. -/
structure Tsk where
  p : Int
  o : Int
  c : Int
  d : Int
  q : Int
  deriving DecidableEq, Inhabited

def Tsk.bad (x : Tsk) : Prop := x.p < 1 ∨ 4096 < x.p ∨ x.o < 0 ∨ x.p ≤ x.o ∨ x.c < 1 ∨ x.d < x.c ∨ x.p < x.d
instance (x : Tsk) : Decidable x.bad := by unfold Tsk.bad; infer_instance

/-- Does one of these tasks have this priority? -/
def hasPrio (q : Int) : List Tsk → Bool
  | [] => false
  | y :: r => if y.q = q then true else hasPrio q r

theorem hasPrio_append (q : Int) : ∀ (a b : List Tsk), hasPrio q (a ++ b) = (hasPrio q a || hasPrio q b)
  | [], b => by simp [hasPrio]
  | y :: a, b => by
    simp only [List.cons_append, hasPrio, hasPrio_append q a b]
    split <;> simp

/-- The number of the first error of the tasks behind 'pre'. -/
def checkFrom (pre : List Tsk) : List Tsk → Int
  | [] => 0
  | x :: r => if x.bad then 3 else if hasPrio x.q pre then 6 else checkFrom (pre ++ [x]) r

def check (l : List Tsk) : Int := if 8 < l.length then 4 else checkFrom [] l

theorem take_snoc_get {α : Type} (l : List α) (k : Nat) (x : α) (h : l[k]? = some x) : l.take (k + 1) = l.take k ++ [x] := by
  rw [List.take_add_one, h]; rfl

theorem drop_cons_get {α : Type} (l : List α) (k : Nat) (x : α) (h : l[k]? = some x) : l.drop k = x :: l.drop (k + 1) := by
  have hk := (List.getElem?_eq_some_iff.1 h)
  obtain ⟨hl, he⟩ := hk
  rw [List.drop_eq_getElem_cons hl, he]

theorem checkFrom_step (l : List Tsk) (k : Nat) (x : Tsk) (h : l[k]? = some x) :
    checkFrom (l.take k) (l.drop k) = if x.bad then 3 else if hasPrio x.q (l.take k) then 6 else checkFrom (l.take (k + 1)) (l.drop (k + 1)) := by
  rw [drop_cons_get l k x h, checkFrom, take_snoc_get l k x h]

theorem hasPrio_step (q : Int) (l : List Tsk) (k : Nat) (x : Tsk) (h : l[k]? = some x) (h0 : hasPrio q (l.take k) = false) :
    hasPrio q (l.take (k + 1)) = decide (x.q = q) := by
  rw [take_snoc_get l k x h, hasPrio_append, h0]
  simp only [hasPrio, Bool.false_or]
  by_cases e : x.q = q <;> simp [e]

theorem hasPrio_mono (q : Int) (l : List Tsk) (j k : Nat) (h : hasPrio q (l.take j) = true) (hjk : j ≤ k) : hasPrio q (l.take k) = true := by
  have : l.take k = l.take j ++ (l.take k).drop j := by
    have e := List.take_append_drop j (l.take k)
    rw [List.take_take, Nat.min_eq_left hjk] at e
    exact e.symm
  rw [this, hasPrio_append, h]; rfl
theorem hasPrio_ne (q : Int) (l : List Tsk) (k j : Nat) (y : Tsk) (h : hasPrio q (l.take k) = false) (hy : l[j]? = some y) (hj : j < k) : y.q ≠ q := by
  intro e
  have : hasPrio q (l.take (j + 1)) = true := by
    rw [take_snoc_get l j y hy, hasPrio_append]
    simp [hasPrio, e]
  rw [hasPrio_mono q l (j + 1) k this (by omega)] at h
  simp at h

/-! ### The worst cases -/
theorem good_of_check {l : List Tsk} (h : check l = 0) : (∀ x ∈ l, ¬ x.bad) ∧ l.length ≤ 8 := by
  unfold check at h
  split at h
  · simp at h
  · refine ⟨?_, by omega⟩
    have key : ∀ (r pre : List Tsk), checkFrom pre r = 0 → ∀ x ∈ r, ¬ x.bad := by
      intro r
      induction r with
      | nil => intro _ _ x hx; simp at hx
      | cons y r ih =>
        intro pre h x hx
        rw [checkFrom] at h
        by_cases hb : y.bad
        · rw [if_pos hb] at h; simp at h
        · rw [if_neg hb] at h
          by_cases hp : hasPrio y.q pre = true
          · rw [if_pos hp] at h; simp at h
          · rw [if_neg hp] at h
            rcases List.mem_cons.1 hx with rfl | hx
            · exact hb
            · exact ih _ h x hx
    exact key l [] h

def times (x : Tsk) (n : Int) : Int := (n + x.p - 1) / x.p

theorem times_nonneg (x : Tsk) (n : Int) (hp : 1 ≤ x.p) (hn : 0 ≤ n) : 0 ≤ times x n := by
  unfold times
  exact Int.ediv_nonneg (by omega) (by omega)

theorem times_mono (x : Tsk) (n m : Int) (hp : 1 ≤ x.p) (h : n ≤ m) : times x n ≤ times x m := by
  unfold times
  exact Int.ediv_le_ediv (by omega) (by omega)

theorem times_le (x : Tsk) (n : Int) (hp : 1 ≤ x.p) (hn : 1 ≤ n) : times x n ≤ n := by
  unfold times
  refine Int.le_of_lt_add_one (Int.ediv_lt_of_lt_mul (by omega) ?_)
  have h1 : 0 ≤ (n - 1) * (x.p - 1) := Int.mul_nonneg (by omega) (by omega)
  have h2 : (n - 1) * (x.p - 1) = n * x.p - n - x.p + 1 := by rw [Int.sub_mul, Int.mul_sub, Int.mul_sub]; omega
  have h3 : (n + 1) * x.p = n * x.p + x.p := by rw [Int.add_mul]; omega
  omega

theorem times_pos (x : Tsk) (n : Int) (hp : 1 ≤ x.p) (hn : 1 ≤ n) : 1 ≤ times x n := by
  unfold times
  exact (Int.le_ediv_iff_mul_le (by omega)).2 (by omega)

theorem times_mul (x : Tsk) (n : Int) (hb : ¬ x.bad) (hn : 1 ≤ n) (hn2 : n ≤ 65536) : 0 ≤ times x n * x.c ∧ times x n * x.c ≤ 268435456 := by
  simp only [Tsk.bad, not_or, Int.not_lt] at hb
  have h0 := times_nonneg x n (by omega) (by omega)
  have h1 := times_le x n (by omega) hn
  refine ⟨Int.mul_nonneg h0 (by omega), ?_⟩
  have : times x n * x.c ≤ 65536 * 4096 := Int.mul_le_mul (by omega) (by omega) (by omega) (by omega)
  omega

def sumLow (q r : Int) : List Tsk → Int
  | [] => 0
  | x :: l => (if x.q < q then times x r * x.c else 0) + sumLow q r l

theorem sumLow_append (q r : Int) : ∀ (a b : List Tsk), sumLow q r (a ++ b) = sumLow q r a + sumLow q r b
  | [], b => by simp [sumLow]
  | x :: a, b => by simp only [List.cons_append, sumLow, sumLow_append q r a b]; omega

theorem sumLow_step (q r : Int) (l : List Tsk) (j : Nat) (x : Tsk) (h : l[j]? = some x) :
    sumLow q r (l.take (j + 1)) = sumLow q r (l.take j) + if x.q < q then times x r * x.c else 0 := by
  rw [take_snoc_get l j x h, sumLow_append]
  simp [sumLow]

theorem sumLow_mono (q r s : Int) (hrs : r ≤ s) : ∀ (l : List Tsk), (∀ x ∈ l, ¬ x.bad) → sumLow q r l ≤ sumLow q s l
  | [], _ => by simp [sumLow]
  | x :: l, h => by
    have ih := sumLow_mono q r s hrs l (fun y hy => h y (List.mem_cons_of_mem _ hy))
    have hb := h x (List.mem_cons_self ..)
    simp only [Tsk.bad, not_or, Int.not_lt] at hb
    simp only [sumLow]
    split
    · have := times_mono x r s (by omega) hrs
      have := Int.mul_le_mul_of_nonneg_right this (show 0 ≤ x.c by omega)
      omega
    · omega

theorem sumLow_nonneg (q r : Int) (hr : 1 ≤ r) : ∀ (l : List Tsk), (∀ x ∈ l, ¬ x.bad) → 0 ≤ sumLow q r l
  | [], _ => by simp [sumLow]
  | x :: l, h => by
    have ih := sumLow_nonneg q r hr l (fun y hy => h y (List.mem_cons_of_mem _ hy))
    have hb := h x (List.mem_cons_self ..)
    simp only [Tsk.bad, not_or, Int.not_lt] at hb
    simp only [sumLow]
    split
    · have := Int.mul_nonneg (times_nonneg x r (by omega) (by omega)) (show 0 ≤ x.c by omega)
      omega
    · omega

def resp (l : List Tsk) (x : Tsk) (r : Int) : Int := x.c + sumLow x.q r l

def wUp (l : List Tsk) (x : Tsk) : Nat → Int → Int
  | 0, _ => 0
  | f + 1, r => if resp l x r = r then r else wUp l x f (r + 1)

/-- The worst case of a task, 0 if there is none. -/
def worst (l : List Tsk) (x : Tsk) : Int := wUp l x x.p.toNat 1

theorem wUp_hit (l : List Tsk) (x : Tsk) (r : Int) (hr : resp l x r = r) : ∀ (f : Nat) (s : Int), s ≤ r → r < s + f → (∀ t, s ≤ t → t < r → resp l x t ≠ t) → wUp l x f s = r
  | 0, s, h1, h2, _ => by omega
  | f + 1, s, h1, h2, h3 => by
    rw [wUp]
    by_cases e : s = r
    · subst e; rw [if_pos hr]
    · rw [if_neg (h3 s (Int.le_refl _) (by omega))]
      exact wUp_hit l x r hr f (s + 1) (by omega) (by omega) (fun t a b => h3 t (by omega) b)

theorem wUp_miss (l : List Tsk) (x : Tsk) : ∀ (f : Nat) (s : Int), (∀ t, s ≤ t → t < s + f → resp l x t ≠ t) → wUp l x f s = 0
  | 0, _, _ => rfl
  | f + 1, s, h => by
    rw [wUp, if_neg (h s (Int.le_refl _) (by omega))]
    exact wUp_miss l x f (s + 1) (fun t a b => h t (by omega) (by omega))

theorem worst_hit {l : List Tsk} {x : Tsk} {r : Int} (hr : resp l x r = r) (h1 : 1 ≤ r) (h2 : r ≤ x.p) (h3 : ∀ t, 1 ≤ t → t < r → resp l x t ≠ t) : worst l x = r :=
  wUp_hit l x r hr _ 1 h1 (by omega) h3

theorem worst_miss {l : List Tsk} {x : Tsk} (h : ∀ t, 1 ≤ t → t ≤ x.p → resp l x t ≠ t) : worst l x = 0 :=
  wUp_miss l x _ 1 (fun t a b => h t a (by omega))

theorem resp_mono {l : List Tsk} (x : Tsk) {r s : Int} (hl : ∀ x ∈ l, ¬ x.bad) (hrs : r ≤ s) : resp l x r ≤ resp l x s := by
  unfold resp
  have := sumLow_mono x.q r s hrs l hl
  omega

theorem resp_ge {l : List Tsk} (x : Tsk) {r : Int} (hl : ∀ x ∈ l, ¬ x.bad) (hr : 1 ≤ r) : x.c ≤ resp l x r := by
  unfold resp
  have := sumLow_nonneg x.q r hr l hl
  omega

theorem resp_next {l : List Tsk} (x : Tsk) {r : Int} (hl : ∀ x ∈ l, ¬ x.bad) (h : ∀ t, 1 ≤ t → t < r → resp l x t ≠ t) (_hne : resp l x r ≠ r) :
    ∀ t, 1 ≤ t → t < resp l x r → resp l x t ≠ t := by
  intro t h1 h2 e
  by_cases ht : t < r
  · exact h t h1 ht e
  · have := resp_mono x hl (show r ≤ t by omega)
    omega
end Go.Proofs.Ytcfhnjdaijdoiaa
