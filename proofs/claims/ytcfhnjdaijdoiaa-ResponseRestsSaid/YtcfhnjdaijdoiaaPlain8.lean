/-
  The hyper period, the load, the longest busy time.
-/
import Derived.Test.YtcfhnjdaijdoiaaPlain7
namespace Go.Proofs.Ytcfhnjdaijdoiaa

theorem gcd_step (p q : Nat) : Nat.gcd q (p % q) = Nat.gcd p q := by
  rw [Nat.gcd_comm q (p % q), ← Nat.gcd_rec, Nat.gcd_comm]

theorem mul_div_gcd (a b : Nat) (_hb : 1 ≤ b) : a * (b / Nat.gcd a b) = Nat.lcm a b := by
  unfold Nat.lcm
  rw [Nat.mul_div_assoc _ (Nat.gcd_dvd_right a b)]

theorem div_gcd_mul (a b : Nat) : a / Nat.gcd a b * b = Nat.lcm a b := by
  unfold Nat.lcm
  rw [Nat.mul_comm, ← Nat.mul_div_assoc _ (Nat.gcd_dvd_left a b), Nat.mul_comm]

/-- The least common multiple of n and the periods, none where it passes the limit. -/
def hyperFrom (n : Nat) : List Tsk → Option Nat
  | [] => some n
  | x :: r => if 65536 < Nat.lcm n x.p.toNat then none else hyperFrom (Nat.lcm n x.p.toNat) r

def hyper (l : List Tsk) : Option Nat := hyperFrom 1 l

theorem hyperFrom_step (n : Nat) (l : List Tsk) (k : Nat) (x : Tsk) (h : l[k]? = some x) :
    hyperFrom n (l.drop k) = if 65536 < Nat.lcm n x.p.toNat then none else hyperFrom (Nat.lcm n x.p.toNat) (l.drop (k + 1)) := by
  rw [drop_cons_get l k x h, hyperFrom]

theorem hyperFrom_spec : ∀ (l : List Tsk) (n H : Nat), (∀ x ∈ l, ¬ x.bad) → 1 ≤ n → n ≤ 65536 → hyperFrom n l = some H → n ∣ H ∧ (∀ x ∈ l, x.p.toNat ∣ H) ∧ 1 ≤ H ∧ H ≤ 65536
  | [], n, H, _, h1, h2, h => by
    simp only [hyperFrom, Option.some.injEq] at h
    subst h
    exact ⟨Nat.dvd_refl _, fun x hx => by simp at hx, h1, h2⟩
  | x :: r, n, H, hb, h1, h2, h => by
    rw [hyperFrom] at h
    split at h
    · simp at h
    · have hx := hb x (List.mem_cons_self ..)
      simp only [Tsk.bad, not_or, Int.not_lt] at hx
      obtain ⟨a, b, c, d⟩ := hyperFrom_spec r _ H (fun y hy => hb y (List.mem_cons_of_mem _ hy)) (Nat.lcm_pos (by omega) (by omega)) (by omega) h
      refine ⟨Nat.dvd_trans (Nat.dvd_lcm_left ..) a, fun y hy => ?_, c, d⟩
      rcases List.mem_cons.1 hy with rfl | hy
      · exact Nat.dvd_trans (Nat.dvd_lcm_right ..) a
      · exact b y hy

/-- The work of H units. -/
def loadOf (H : Nat) : List Tsk → Int
  | [] => 0
  | x :: r => x.c * ((H : Int) / x.p) + loadOf H r

theorem loadOf_append (H : Nat) : ∀ (a b : List Tsk), loadOf H (a ++ b) = loadOf H a + loadOf H b
  | [], b => by simp [loadOf]
  | x :: a, b => by simp only [List.cons_append, loadOf, loadOf_append H a b]; omega

theorem loadOf_step (H : Nat) (l : List Tsk) (j : Nat) (x : Tsk) (h : l[j]? = some x) :
    loadOf H (l.take (j + 1)) = loadOf H (l.take j) + x.c * ((H : Int) / x.p) := by
  rw [take_snoc_get l j x h, loadOf_append]
  simp [loadOf]

theorem load_one (x : Tsk) (H : Nat) (hb : ¬ x.bad) (hH : H ≤ 65536) : 0 ≤ x.c * ((H : Int) / x.p) ∧ x.c * ((H : Int) / x.p) ≤ 268435456 ∧ 0 ≤ (H : Int) / x.p ∧ (H : Int) / x.p ≤ 65536 := by
  simp only [Tsk.bad, not_or, Int.not_lt] at hb
  have h0 : 0 ≤ (H : Int) / x.p := Int.ediv_nonneg (by omega) (by omega)
  have h1 : (H : Int) / x.p ≤ H := Int.ediv_le_self _ (by omega)
  have : x.c * ((H : Int) / x.p) ≤ 4096 * 65536 := Int.mul_le_mul (by omega) (by omega) h0 (by omega)
  exact ⟨Int.mul_nonneg (by omega) h0, by omega, h0, by omega⟩

theorem mul_div_load (x : Tsk) (H : Nat) (hb : ¬ x.bad) (hd : x.p.toNat ∣ H) : (x.c * (H : Int)) / x.p = x.c * ((H : Int) / x.p) := by
  simp only [Tsk.bad, not_or, Int.not_lt] at hb
  have : x.p ∣ (H : Int) := by
    obtain ⟨k, rfl⟩ := hd
    refine ⟨k, ?_⟩
    rw [Int.natCast_mul]
    congr 1
    omega
  exact Int.mul_ediv_assoc _ this

/-- What all of these tasks ask for within n units, at the most. -/
def sumT (n : Int) : List Tsk → Int
  | [] => 0
  | x :: l => times x n * x.c + sumT n l

theorem sumT_append (n : Int) : ∀ (a b : List Tsk), sumT n (a ++ b) = sumT n a + sumT n b
  | [], b => by simp [sumT]
  | x :: a, b => by simp only [List.cons_append, sumT, sumT_append n a b]; omega

theorem sumT_step (n : Int) (l : List Tsk) (j : Nat) (x : Tsk) (h : l[j]? = some x) : sumT n (l.take (j + 1)) = sumT n (l.take j) + times x n * x.c := by
  rw [take_snoc_get l j x h, sumT_append]
  simp [sumT]

theorem sumT_mono (r s : Int) (hrs : r ≤ s) : ∀ (l : List Tsk), (∀ x ∈ l, ¬ x.bad) → sumT r l ≤ sumT s l
  | [], _ => by simp [sumT]
  | x :: l, h => by
    have ih := sumT_mono r s hrs l (fun y hy => h y (List.mem_cons_of_mem _ hy))
    have hb := h x (List.mem_cons_self ..)
    simp only [Tsk.bad, not_or, Int.not_lt] at hb
    have := Int.mul_le_mul_of_nonneg_right (times_mono x r s (by omega) hrs) (show 0 ≤ x.c by omega)
    simp only [sumT]
    omega

theorem sumT_pos (r : Int) (hr : 1 ≤ r) : ∀ (l : List Tsk), (∀ x ∈ l, ¬ x.bad) → l ≠ [] → 1 ≤ sumT r l
  | [], _, h => absurd rfl h
  | x :: l, h, _ => by
    have hb := h x (List.mem_cons_self ..)
    simp only [Tsk.bad, not_or, Int.not_lt] at hb
    have h1 := Int.mul_le_mul_of_nonneg_right (times_pos x r (by omega) hr) (show 0 ≤ x.c by omega)
    have h2 : 0 ≤ sumT r l := by
      cases l with
      | nil => simp [sumT]
      | cons y l =>
        have := sumT_pos r hr (y :: l) (fun z hz => h z (List.mem_cons_of_mem _ hz)) (by simp)
        omega
    simp only [sumT]
    omega

theorem sumT_hyper (H : Nat) : ∀ (l : List Tsk), (∀ x ∈ l, ¬ x.bad) → (∀ x ∈ l, x.p.toNat ∣ H) → sumT H l = loadOf H l
  | [], _, _ => rfl
  | x :: l, hb, hd => by
    have ih := sumT_hyper H l (fun y hy => hb y (List.mem_cons_of_mem _ hy)) (fun y hy => hd y (List.mem_cons_of_mem _ hy))
    have hx := hb x (List.mem_cons_self ..)
    simp only [Tsk.bad, not_or, Int.not_lt] at hx
    have ht : times x H = (H : Int) / x.p := by
      obtain ⟨k, hk⟩ := hd x (List.mem_cons_self ..)
      have e : (H : Int) = x.p * k := by
        rw [hk, Int.natCast_mul]
        congr 1
        omega
      unfold times
      rw [e, Int.mul_ediv_cancel_left _ (by omega), show x.p * (k : Int) + x.p - 1 = (x.p - 1) + x.p * k by omega, Int.add_mul_ediv_left _ _ (by omega), Int.ediv_eq_zero_of_lt (by omega) (by omega)]
      omega
    simp only [sumT, loadOf, ih, ht]
    rw [Int.mul_comm]

/-- The least point from s on, within f steps, that is its own image; 0: there is none. -/
def fixUp (F : Int → Int) : Nat → Int → Int
  | 0, _ => 0
  | f + 1, s => if F s = s then s else fixUp F f (s + 1)

theorem fixUp_hit (F : Int → Int) (r : Int) (hr : F r = r) : ∀ (f : Nat) (s : Int), s ≤ r → r < s + f → (∀ t, s ≤ t → t < r → F t ≠ t) → fixUp F f s = r
  | 0, s, h1, h2, _ => by omega
  | f + 1, s, h1, h2, h3 => by
    rw [fixUp]
    by_cases e : s = r
    · subst e; rw [if_pos hr]
    · rw [if_neg (h3 s (Int.le_refl _) (by omega))]
      exact fixUp_hit F r hr f (s + 1) (by omega) (by omega) (fun t a b => h3 t (by omega) b)

/-- A monotone function that is above 0, and below at H, has a least point that is its own image, up to H. -/
theorem least_fix (F : Int → Int) (H : Int) (hm : ∀ r s, 1 ≤ r → r ≤ s → F r ≤ F s) (hp : ∀ r, 1 ≤ r → 1 ≤ F r) (h1 : 1 ≤ H) (hH : F H ≤ H) :
    ∃ r, 1 ≤ r ∧ r ≤ H ∧ F r = r ∧ ∀ t, 1 ≤ t → t < r → F t ≠ t := by
  have main : ∀ (m : Nat) (r : Int), r.toNat = m → 1 ≤ r → F r ≤ r → ∃ s, 1 ≤ s ∧ s ≤ r ∧ F s = s := by
    intro m
    induction m using Nat.strongRecOn with
    | ind m ih =>
      intro r hrm h1 hr
      by_cases e : F r = r
      · exact ⟨r, h1, Int.le_refl _, e⟩
      · have hge := hp r h1
        have hmono := hm _ _ hge hr
        obtain ⟨s, a, b, c⟩ := ih (F r).toNat (by omega) (F r) rfl (by omega) hmono
        exact ⟨s, a, by omega, c⟩
  obtain ⟨s, s1, s2, s3⟩ := main _ H rfl h1 hH
  have least : ∀ (m : Nat) (s : Int), s.toNat = m → 1 ≤ s → F s = s → ∃ t, 1 ≤ t ∧ t ≤ s ∧ F t = t ∧ ∀ u, 1 ≤ u → u < t → F u ≠ u := by
    intro m
    induction m using Nat.strongRecOn with
    | ind m ih =>
      intro s hm h1 hs
      by_cases h : ∀ u, 1 ≤ u → u < s → F u ≠ u
      · exact ⟨s, h1, Int.le_refl _, hs, h⟩
      · simp only [Classical.not_forall, Classical.not_not] at h
        obtain ⟨u, u1, u2, u3⟩ := h
        obtain ⟨t, a, b, c, d⟩ := ih u.toNat (by omega) u rfl u1 u3
        exact ⟨t, a, by omega, c, d⟩
  obtain ⟨t, t1, t2, t3, t4⟩ := least _ s rfl s1 s3
  exact ⟨t, t1, by omega, t3, t4⟩

/-- The tasks of this priority or a more urgent one. -/
def upTo (q : Int) (l : List Tsk) : List Tsk := l.filter fun x => decide (x.q ≤ q)

theorem upTo_step (q : Int) (l : List Tsk) (k : Nat) (x : Tsk) (h : l[k]? = some x) : upTo q (l.take (k + 1)) = upTo q (l.take k) ++ if x.q ≤ q then [x] else [] := by
  rw [take_snoc_get l k x h]
  unfold upTo
  rw [List.filter_append]
  congr 1
  by_cases e : x.q ≤ q <;> simp [e]

theorem sublist_check {l m : List Tsk} (h : check l = 0) (hs : m.Sublist l) : check m = 0 := by
  rw [check_zero_iff] at h ⊢
  obtain ⟨h1, h2, h3⟩ := h
  refine ⟨Nat.le_trans hs.length_le h1, fun x hx => h2 x (hs.subset hx), ?_⟩
  have hp : l.Pairwise (fun x y : Tsk => x.q ≠ y.q) := by
    rw [List.pairwise_iff_getElem]
    intro i j hi hj hij
    exact h3 i j _ _ hij (List.getElem?_eq_getElem hi) (List.getElem?_eq_getElem hj)
  have hp2 := hp.sublist hs
  rw [List.pairwise_iff_getElem] at hp2
  intro i j x y hij hi hj
  obtain ⟨hi', rfl⟩ := List.getElem?_eq_some_iff.1 hi
  obtain ⟨hj', rfl⟩ := List.getElem?_eq_some_iff.1 hj
  exact hp2 i j hi' hj' hij

theorem upTo_check {l : List Tsk} (h : check l = 0) (q : Int) : check (upTo q l) = 0 := sublist_check h List.filter_sublist

/-- n is the longest busy time of these tasks. -/
def BusyIs (m : List Tsk) (n : Int) : Prop := 1 ≤ n ∧ n ≤ 65536 ∧ sumT n m = n ∧ ∀ t, 1 ≤ t → t < n → sumT t m ≠ t

theorem BusyIs.unique {m : List Tsk} {n n' : Int} (h : BusyIs m n) (h' : BusyIs m n') : n = n' := by
  obtain ⟨a, _, b, c⟩ := h
  obtain ⟨a', _, b', c'⟩ := h'
  rcases Int.lt_trichotomy n n' with e | e | e
  · exact absurd b (c' n a e)
  · exact e
  · exact absurd b' (c n' a' e)

theorem busy_exists {m : List Tsk} {H : Nat} (hc : check m = 0) (hne : m ≠ []) (hH : hyper m = some H) (hl : loadOf H m ≤ H) : ∃ n, BusyIs m n ∧ n ≤ H := by
  obtain ⟨_, hb, _⟩ := (check_zero_iff m).1 hc
  obtain ⟨_, hd, h1, h2⟩ := hyperFrom_spec m 1 H hb (Nat.le_refl _) (by omega) hH
  obtain ⟨r, r1, r2, r3, r4⟩ := least_fix (fun n => sumT n m) H (fun r s _ hrs => sumT_mono r s hrs m hb) (fun r hr => sumT_pos r hr m hb hne) (by omega) (by rw [sumT_hyper H m hb hd]; exact hl)
  exact ⟨r, ⟨r1, by omega, r3, r4⟩, r2⟩
end Go.Proofs.Ytcfhnjdaijdoiaa
