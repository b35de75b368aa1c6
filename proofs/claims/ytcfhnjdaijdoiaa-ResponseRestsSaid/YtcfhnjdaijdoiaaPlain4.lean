/-
  The order by deadlines is optimal.
-/
import Derived.Test.YtcfhnjdaijdoiaaPlain3
namespace Go.Proofs.Ytcfhnjdaijdoiaa

/-- What the worst case is, where there is one. -/
theorem worst_spec {l : List Tsk} {x : Tsk} (h : worst l x ≠ 0) : resp l x (worst l x) = worst l x ∧ 1 ≤ worst l x ∧ worst l x ≤ x.p := by
  have key : ∀ (f : Nat) (s : Int), wUp l x f s ≠ 0 → resp l x (wUp l x f s) = wUp l x f s ∧ s ≤ wUp l x f s ∧ wUp l x f s < s + f := by
    intro f
    induction f with
    | zero => intro s h; exact absurd rfl h
    | succ f ih =>
      intro s h
      rw [wUp] at h ⊢
      by_cases e : resp l x s = s
      · rw [if_pos e]; exact ⟨e, by omega, by omega⟩
      · rw [if_neg e] at h ⊢
        have := ih (s + 1) h
        exact ⟨this.1, by omega, by omega⟩
  have := key _ _ h
  unfold worst at *
  omega

/-- A point that is not below its image bounds the worst case. -/
theorem worst_le {l : List Tsk} {x : Tsk} {r : Int} (hl : ∀ x ∈ l, ¬ x.bad) (hx : ¬ x.bad) (h1 : 1 ≤ r) (h2 : r ≤ x.p) (hr : resp l x r ≤ r) : worst l x ≠ 0 ∧ worst l x ≤ r := by
  have main : ∀ (m : Nat) (r : Int), r.toNat = m → 1 ≤ r → r ≤ x.p → resp l x r ≤ r → ∃ s, 1 ≤ s ∧ s ≤ r ∧ resp l x s = s := by
    intro m
    induction m using Nat.strongRecOn with
    | ind m ih =>
      intro r hm h1 h2 hr
      by_cases e : resp l x r = r
      · exact ⟨r, h1, Int.le_refl _, e⟩
      · have hge := resp_ge x hl h1
        simp only [Tsk.bad, not_or, Int.not_lt] at hx
        have hmono := resp_mono x hl hr
        obtain ⟨s, a, b, c⟩ := ih (resp l x r).toNat (by omega) (resp l x r) rfl (by omega) (by omega) hmono
        exact ⟨s, a, by omega, c⟩
  obtain ⟨s, s1, s2, s3⟩ := main _ r rfl h1 h2 hr
  have least : ∀ (m : Nat) (s : Int), s.toNat = m → 1 ≤ s → resp l x s = s → ∃ t, 1 ≤ t ∧ t ≤ s ∧ resp l x t = t ∧ ∀ u, 1 ≤ u → u < t → resp l x u ≠ u := by
    intro m
    induction m using Nat.strongRecOn with
    | ind m ih =>
      intro s hm h1 hs
      by_cases h : ∀ u, 1 ≤ u → u < s → resp l x u ≠ u
      · exact ⟨s, h1, Int.le_refl _, hs, h⟩
      · simp only [Classical.not_forall, Classical.not_not] at h
        obtain ⟨u, u1, u2, u3⟩ := h
        obtain ⟨t, a, b, c, d⟩ := ih u.toNat (by omega) u rfl u1 u3
        exact ⟨t, a, by omega, c, d⟩
  obtain ⟨t, t1, t2, t3, t4⟩ := least _ s rfl s1 s3
  have := worst_hit t3 t1 (by omega) t4
  omega

/-- What a task would add, whatever its priority. -/
def load1 (r : Int) (x : Tsk) : Int := times x r * x.c

def sumAll (r : Int) (f : Tsk → Bool) : List Tsk → Int
  | [] => 0
  | x :: l => (if f x then load1 r x else 0) + sumAll r f l

theorem sumLow_eq (q r : Int) : ∀ l, sumLow q r l = sumAll r (fun x => decide (x.q < q)) l
  | [] => rfl
  | x :: l => by simp [sumLow, sumAll, sumLow_eq q r l, load1]

/-- The places of the tasks that come before task i, or are it, in the order by deadlines. -/
def before (d : Int) (i : Nat) (k : Nat) (y : Tsk) : Bool := decide (y.d < d ∨ (y.d = d ∧ k ≤ i))

/-- Sums over places. -/
def sumAt (r : Int) (f : Nat → Tsk → Bool) : Nat → List Tsk → Int
  | _, [] => 0
  | k, x :: l => (if f k x then load1 r x else 0) + sumAt r f (k + 1) l

theorem sumAt_le (r : Int) (hr : 1 ≤ r) (f g : Nat → Tsk → Bool) : ∀ (l : List Tsk) (k : Nat), (∀ x ∈ l, ¬ x.bad) → (∀ j x, l[j]? = some x → f (k + j) x = true → g (k + j) x = true) → sumAt r f k l ≤ sumAt r g k l
  | [], _, _, _ => by simp [sumAt]
  | x :: l, k, hb, h => by
    have ih := sumAt_le r hr f g l (k + 1) (fun y hy => hb y (List.mem_cons_of_mem _ hy)) (fun j y hy e => by
      have := h (j + 1) y (by simpa using hy)
      rw [show k + 1 + j = k + (j + 1) by omega] at e ⊢
      exact this e)
    have h0 := h 0 x rfl
    simp only [Nat.add_zero] at h0
    have hx := hb x (List.mem_cons_self ..)
    simp only [Tsk.bad, not_or, Int.not_lt] at hx
    have : 0 ≤ load1 r x := Int.mul_nonneg (times_nonneg x r (by omega) (by omega)) (by omega)
    simp only [sumAt]
    cases hf : f k x
    · simp only [Bool.false_eq_true, if_false]
      split <;> omega
    · rw [h0 hf]
      simp only [if_true]
      omega

/-- Taking one place out. -/
theorem sumAt_erase (r : Int) (f : Nat → Tsk → Bool) : ∀ (l : List Tsk) (k i : Nat) (x : Tsk), k ≤ i → l[i - k]? = some x → f i x = true →
    sumAt r f k l = load1 r x + sumAt r (fun j y => f j y && decide (j ≠ i)) k l
  | [], k, i, x, _, h, _ => by simp at h
  | y :: l, k, i, x, hk, h, hf => by
    by_cases e : k = i
    · subst e
      simp at h
      subst h
      have tail : ∀ (l : List Tsk) (m : Nat), k < m → sumAt r f m l = sumAt r (fun j z => f j z && decide (j ≠ k)) m l := by
        intro l
        induction l with
        | nil => intro m _; rfl
        | cons z l ih =>
          intro m hm
          simp only [sumAt]
          rw [ih (m + 1) (by omega)]
          have : decide (m ≠ k) = true := by simp; omega
          simp [this]
      simp only [sumAt]
      rw [tail l (k + 1) (by omega)]
      simp [hf]
    · have h1 : i - k = (i - (k + 1)) + 1 := by omega
      rw [h1] at h
      have ih := sumAt_erase r f l (k + 1) i x (by omega) (by simpa using h) hf
      simp only [sumAt]
      rw [ih]
      have : decide (k ≠ i) = true := by simp; omega
      simp only [this, Bool.and_true]
      omega

theorem sumAll_at (r : Int) (f : Tsk → Bool) : ∀ (l : List Tsk) (k : Nat), sumAll r f l = sumAt r (fun _ x => f x) k l
  | [], _ => rfl
  | x :: l, k => by simp only [sumAll, sumAt, sumAll_at r f l (k + 1)]

/-- The interference in the order by deadlines, as a sum over places. -/
theorem sumLow_assign (l : List Tsk) (i : Nat) (x : Tsk) (_hx : l[i]? = some x) (r : Int) :
    sumLow (rank i x.d 0 l) r (assign l) = sumAt r (fun k y => decide (rank k y.d 0 l < rank i x.d 0 l)) 0 l := by
  rw [sumLow_eq]
  generalize rank i x.d 0 l = q
  unfold assign
  have key : ∀ (m : List Tsk) (k : Nat), sumAll r (fun x => decide (x.q < q)) (m.mapIdx fun j y => assignOne l (k + j) y) = sumAt r (fun k y => decide (rank k y.d 0 l < q)) k m := by
    intro m
    induction m with
    | nil => intro k; rfl
    | cons y m ih =>
      intro k
      have ih := ih (k + 1)
      have e : (List.mapIdx (fun j y => assignOne l (k + j) y) (y :: m)) = assignOne l k y :: m.mapIdx (fun j y => assignOne l (k + 1 + j) y) := by
        rw [List.mapIdx_cons]
        congr 1
        congr 1
        funext j y
        rw [show k + (j + 1) = k + 1 + j by omega]
      rw [e]
      simp only [sumAll, sumAt, ih]
      rfl
  have := key l 0
  simp only [Nat.zero_add] at this
  exact this

theorem rank_lt_iff (l : List Tsk) {i k : Nat} {x y : Tsk} (_hx : l[i]? = some x) (hy : l[k]? = some y) :
    rank k y.d 0 l < rank i x.d 0 l ↔ (y.d < x.d ∨ (y.d = x.d ∧ k < i)) := by
  constructor
  · intro h
    by_cases e : y.d < x.d ∨ (y.d = x.d ∧ k < i)
    · exact e
    · have := rank_le i k x.d y.d (by omega) l 0
      omega
  · intro h
    exact rank_lt k i y.d x.d h l 0 y (Nat.zero_le _) (by simpa using hy) rfl

/-- The place in S of the least urgent task. -/
theorem exists_last (l : List Tsk) (S : Nat → Tsk → Bool) (i : Nat) (x : Tsk) (hx : l[i]? = some x) (hs : S i x = true) :
    ∃ k y, l[k]? = some y ∧ S k y = true ∧ ∀ j z, l[j]? = some z → S j z = true → z.q ≤ y.q := by
  have main : ∀ n, (∃ j z, j < n ∧ l[j]? = some z ∧ S j z = true) → ∃ k y, l[k]? = some y ∧ S k y = true ∧ ∀ j z, j < n → l[j]? = some z → S j z = true → z.q ≤ y.q := by
    intro n
    induction n with
    | zero => rintro ⟨j, z, h, _⟩; omega
    | succ n ih =>
      rintro ⟨j, z, hj, hz, hsz⟩
      by_cases hex : ∃ j z, j < n ∧ l[j]? = some z ∧ S j z = true
      · obtain ⟨k, y, hy, hsy, hmax⟩ := ih hex
        by_cases hn : ∃ z, l[n]? = some z ∧ S n z = true ∧ y.q < z.q
        · obtain ⟨z', hz', hsz', hlt⟩ := hn
          refine ⟨n, z', hz', hsz', fun j w hj hw hsw => ?_⟩
          by_cases e : j = n
          · subst e
            rw [hz'] at hw
            cases hw
            exact Int.le_refl _
          · have := hmax j w (by omega) hw hsw
            omega
        · refine ⟨k, y, hy, hsy, fun j w hj hw hsw => ?_⟩
          by_cases e : j = n
          · subst e
            by_cases hlt : y.q < w.q
            · exact absurd ⟨w, hw, hsw, hlt⟩ hn
            · omega
          · exact hmax j w (by omega) hw hsw
      · have : j = n := by
          by_cases e : j < n
          · exact absurd ⟨j, z, e, hz, hsz⟩ hex
          · omega
        subst this
        refine ⟨j, z, hz, hsz, fun j' w hj' hw hsw => ?_⟩
        by_cases e : j' = j
        · subst e
          rw [hz] at hw
          cases hw
          exact Int.le_refl _
        · exact absurd ⟨j', w, by omega, hw, hsw⟩ hex
  obtain ⟨k, y, hy, hsy, hmax⟩ := main l.length ⟨i, x, (List.getElem?_eq_some_iff.1 hx).1, hx, hs⟩
  exact ⟨k, y, hy, hsy, fun j z hz hsz => hmax j z (List.getElem?_eq_some_iff.1 hz).1 hz hsz⟩

theorem optimal {l : List Tsk} (hc : check l = 0) (hm : meets l = true) : meets (assign l) = true := by
  obtain ⟨h8, hb, hd⟩ := (check_zero_iff l).1 hc
  rw [meets_iff] at hm ⊢
  intro x' hx'
  obtain ⟨i, hi⟩ := List.mem_iff_getElem?.1 hx'
  rw [assign_get] at hi
  obtain ⟨x, hx, rfl⟩ := Option.map_eq_some_iff.1 hi
  have hbx := hb x (List.mem_of_getElem? hx)
  obtain ⟨k, y, hy, hsy, hmax⟩ := exists_last l (before x.d i) i x hx (by simp [before])
  have hby := hb y (List.mem_of_getElem? hy)
  obtain ⟨w1, w2⟩ := hm y (List.mem_of_getElem? hy)
  obtain ⟨s1, s2, s3⟩ := worst_spec w1
  generalize worst l y = r at *
  simp only [before, decide_eq_true_eq] at hsy
  have hbx' := hbx
  have hby' := hby
  simp only [Tsk.bad, not_or, Int.not_lt] at hbx' hby'
  have hry : load1 r y = y.c := by
    have : times y r = 1 := by
      have h1 := times_pos y r (by omega) s2
      have h2 : times y r ≤ 1 := by
        unfold times
        refine Int.le_of_lt_add_one (Int.ediv_lt_of_lt_mul (by omega) ?_)
        omega
      omega
    simp [load1, this]
  -- all of the tasks that come before, or are it, fit into r
  have all : sumAt r (before x.d i) 0 l ≤ r := by
    have e1 := sumAt_erase r (before x.d i) l 0 k y (Nat.zero_le _) (by simpa using hy) (by simpa [before] using hsy)
    have e2 : sumAt r (fun j z => before x.d i j z && decide (j ≠ k)) 0 l ≤ sumAt r (fun _ z => decide (z.q < y.q)) 0 l := by
      refine sumAt_le r s2 _ _ l 0 hb (fun j z hz h => ?_)
      simp only [Nat.zero_add, Bool.and_eq_true, decide_eq_true_eq] at h ⊢
      have h1 := hmax j z hz h.1
      by_cases e : z.q = y.q
      · exact absurd (hd.inj hz hy e) h.2
      · omega
    rw [← sumAll_at, ← sumLow_eq] at e2
    have e3 : y.c + sumLow y.q r l = r := s1
    omega
  have hxin := sumAt_erase r (before x.d i) l 0 i x (Nat.zero_le _) (by simpa using hx) (by simp [before])
  have hxc : x.c ≤ load1 r x := by
    have h1 := times_pos x r (by omega) s2
    have := Int.mul_le_mul_of_nonneg_right h1 (show 0 ≤ x.c by omega)
    simp only [load1]
    omega
  have hlow : sumLow (rank i x.d 0 l) r (assign l) ≤ sumAt r (fun j z => before x.d i j z && decide (j ≠ i)) 0 l := by
    rw [sumLow_assign l i x hx]
    refine sumAt_le r s2 _ _ l 0 hb (fun j z hz h => ?_)
    simp only [Nat.zero_add, decide_eq_true_eq] at h
    rw [rank_lt_iff l hx hz] at h
    simp only [before, Nat.zero_add, Bool.and_eq_true, decide_eq_true_eq]
    have hji : j ≠ i := by
      rintro rfl
      rw [hx] at hz
      cases hz
      omega
    omega
  have hresp : resp (assign l) (assignOne l i x) r ≤ r := by
    show x.c + sumLow (rank i x.d 0 l) r (assign l) ≤ r
    omega
  have hrd : r ≤ x.d := by omega
  have := worst_le (x := assignOne l i x) (fun z hz => ((check_zero_iff _).1 (assign_check hc)).2.1 z hz) hbx s2 (by show r ≤ x.p; omega) hresp
  refine ⟨this.1, ?_⟩
  show _ ≤ x.d
  omega
end Go.Proofs.Ytcfhnjdaijdoiaa
