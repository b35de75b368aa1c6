/-
  No job takes longer than the worst case of its task.
-/
import Derived.Test.YtcfhnjdaijdoiaaPlain21
import Derived.Test.YtcfhnjdaijdoiaaPlain4
namespace Go.Proofs.Ytcfhnjdaijdoiaa

theorem sumTo_zero : ∀ n, sumTo (fun _ => 0) n = 0
  | 0 => rfl
  | n + 1 => by rw [sumTo, sumTo_zero n]

theorem sumTo_congr {f g : Nat → Nat} : ∀ n, (∀ k, k < n → f k = g k) → sumTo f n = sumTo g n
  | 0, _ => rfl
  | n + 1, h => by rw [sumTo, sumTo, sumTo_congr n (fun k hk => h k (by omega)), h n (by omega)]

/-- Where a task runs in each of r units, the tasks' units add up to r. -/
theorem range_sum {n : Nat} {out : List Int} {s : Nat} : ∀ r, s + r ≤ out.length → (∀ v, s ≤ v → v < s + r → ∃ k : Nat, out[v]? = some (k : Int) ∧ k < n) →
    r = sumTo (fun k => exN out k (s + r) - exN out k s) n
  | 0, _, _ => by
    have : (fun k => exN out k (s + 0) - exN out k s) = fun _ => 0 := by funext k; simp
    rw [this, sumTo_zero]
  | r + 1, hl, h => by
    have ih := range_sum (n := n) (out := out) (s := s) r (by omega) (fun v h1 h2 => h v h1 (by omega))
    obtain ⟨k0, hk0, hkn⟩ := h (s + r) (by omega) (by omega)
    have e : (fun k => exN out k (s + (r + 1)) - exN out k s) = fun k => (exN out k (s + r) - exN out k s) + if (k0 : Int) = (k : Int) then 1 else 0 := by
      funext k
      rw [← Nat.add_assoc, exN_succ k hk0]
      have := exN_mono out k s (s + r) (by omega)
      omega
    rw [e, sumTo_add, ← ih, sumTo_one, if_pos (by omega)]

theorem total_le (n : Nat) (out : List Int) : ∀ t, t ≤ out.length → sumTo (fun k => exN out k t) n ≤ t
  | 0, _ => by
    have : (fun k => exN out k 0) = fun _ => 0 := by funext k; simp [exN]
    rw [this, sumTo_zero]; exact Nat.le_refl _
  | t + 1, ht => by
    have ih := total_le n out t (by omega)
    obtain ⟨r, hr⟩ : ∃ r, out[t]? = some r := ⟨out[t], List.getElem?_eq_getElem (by omega)⟩
    have e : (fun k => exN out k (t + 1)) = fun k : Nat => exN out k t + if r = (k : Int) then 1 else 0 := by
      funext k
      exact exN_succ k hr
    rw [e, sumTo_add, sumTo_one]
    split <;> omega

theorem exN_const {out : List Int} {k s : Nat} : ∀ r, s + r ≤ out.length → (∀ v, s ≤ v → v < s + r → out[v]? ≠ some (k : Int)) → exN out k (s + r) = exN out k s
  | 0, _, _ => rfl
  | r + 1, hl, h => by
    have ih := exN_const (out := out) (k := k) (s := s) r (by omega) (fun v h1 h2 => h v h1 (by omega))
    obtain ⟨u, hu⟩ : ∃ u, out[s + r]? = some u := ⟨out[s + r], List.getElem?_eq_getElem (by omega)⟩
    have hne := h (s + r) (by omega) (by omega)
    rw [hu] at hne
    rw [← Nat.add_assoc, exN_succ k hu, if_neg (fun e => hne (by rw [e])), ih]; rfl

theorem sum_low {l : List Tsk} {q r e : Int} {i0 : Nat} {f : Nat → Nat} (h : ∀ (k : Nat) (x : Tsk), l[k]? = some x → (f k : Int) ≤ (if x.q < q then times x r * x.c else 0) + (if k = i0 then e else 0)) :
    ∀ k, k ≤ l.length → (sumTo f k : Int) ≤ sumLow q r (l.take k) + (if i0 < k then e else 0)
  | 0, _ => by simp [sumTo, sumLow]
  | k + 1, hk => by
    have ih := sum_low h k (by omega)
    obtain ⟨x, hx⟩ : ∃ x, l[k]? = some x := ⟨l[k], List.getElem?_eq_getElem (by omega)⟩
    have h1 := h k x hx
    rw [sumLow_step q r l k x hx, sumTo, Int.natCast_add]
    by_cases e1 : k = i0
    · subst e1
      rw [if_pos rfl] at h1
      rw [if_neg (show ¬ k < k by omega)] at ih
      rw [if_pos (show k < k + 1 by omega)]
      omega
    · rw [if_neg e1] at h1
      by_cases e2 : i0 < k
      · rw [if_pos e2] at ih
        rw [if_pos (show i0 < k + 1 by omega)]
        omega
      · rw [if_neg e2] at ih
        rw [if_neg (show ¬ i0 < k + 1 by omega)]
        omega

theorem greatest {P : Nat → Prop} (h0 : ¬ P 0) : ∀ a, ∃ s, s ≤ a ∧ ¬ P s ∧ ∀ v, s < v → v ≤ a → P v
  | 0 => ⟨0, Nat.le_refl _, h0, fun v h1 h2 => by omega⟩
  | a + 1 => by
    by_cases h : P (a + 1)
    · obtain ⟨s, h1, h2, h3⟩ := greatest h0 a
      refine ⟨s, by omega, h2, fun v g1 g2 => ?_⟩
      by_cases e : v = a + 1
      · subst e; exact h
      · exact h3 v g1 (by omega)
    · exact ⟨a + 1, Nat.le_refl _, h, fun v g1 g2 => by omega⟩

theorem times_mul_ge (y : Tsk) (r : Int) (hp : 1 ≤ y.p) : r ≤ times y r * y.p := by
  unfold times
  have h1 := Int.mul_ediv_add_emod (r + y.p - 1) y.p
  have h2 := Int.emod_lt_of_pos (r + y.p - 1) (show 0 < y.p by omega)
  rw [Int.mul_comm] at h1
  omega

theorem relN_diff {y : Tsk} (hb : ¬ y.bad) {s r : Nat} (hr : 1 ≤ r) : (relN y (s + r) : Int) - relN y s ≤ times y r := by
  have h1 := (relN_spec hb s).1
  have h2 := (relN_spec hb (s + r)).2
  simp only [Tsk.bad, not_or, Int.not_lt] at hb
  have h3 := times_mul_ge y r hb.1
  have h4 := times_pos y r hb.1 (by omega)
  generalize relN y (s + r) = N2 at *
  generalize relN y s = N1 at *
  generalize times y r = k at *
  by_cases h : 1 ≤ N2
  · have h5 := h2 h
    by_cases hle : (N2 : Int) - N1 ≤ k
    · exact hle
    · have h6 : k * y.p + (N1 : Int) * y.p ≤ ((N2 : Int) - 1) * y.p := by
        rw [← Int.add_mul]
        exact Int.mul_le_mul_of_nonneg_right (by omega) (by omega)
      omega
  · omega

theorem bound_core {l : List Tsk} (hc : check l = 0) {out : List Int} (hs : Sched l out) {i m a r : Nat} {x : Tsk} (hx : l[i]? = some x) (ha : (a : Int) = x.o + m * x.p) (hr : worst l x = r) (hr0 : r ≠ 0) (haT : a + r ≤ out.length)
    (hprev : exN out i a = m * x.c.toNat) : (m + 1) * x.c.toNat ≤ exN out i (a + r) := by
  obtain ⟨hl, h8⟩ := good_of_check hc
  obtain ⟨_, _, hdis⟩ := (check_zero_iff l).1 hc
  have hbx := hl x (List.mem_of_getElem? hx)
  have hbx' := hbx
  simp only [Tsk.bad, not_or, Int.not_lt] at hbx
  have hw := worst_spec (l := l) (x := x) (by rw [hr]; omega)
  rw [hr] at hw
  obtain ⟨hw1, hw2, hw3⟩ := hw
  refine Classical.byContradiction fun hneg => ?_
  have hneg : exN out i (a + r) < (m + 1) * x.c.toNat := by omega
  obtain ⟨s, hsa, hns, hps⟩ := greatest (P := fun t => ∃ (j : Nat) (y : Tsk), l[j]? = some y ∧ y.q < x.q ∧ exN out j t < y.c.toNat * relN y t) (by
    rintro ⟨j, y, _, _, h⟩
    simp [relN] at h) a
  have hmc : (m + 1) * x.c.toNat = m * x.c.toNat + x.c.toNat := by rw [Nat.add_mul, Nat.one_mul]
  -- who runs
  have hrun : ∀ v, s ≤ v → v < s + r → ∃ (k : Nat) (y : Tsk), out[v]? = some (k : Int) ∧ l[k]? = some y ∧ (y.q < x.q ∨ (a ≤ v ∧ k = i)) := by
    intro v h1 h2
    obtain ⟨u, hu⟩ : ∃ u, out[v]? = some u := ⟨out[v]'(by omega), List.getElem?_eq_getElem (by omega)⟩
    by_cases hva : v < a
    · obtain ⟨j, y, hj, hq, hp⟩ := hps (v + 1) (by omega) (by omega)
      have hpend : pend l out v j := ⟨y, hj, by have := exN_mono out j v (v + 1) (by omega); omega⟩
      rcases hs v u hu with ⟨_, h⟩ | ⟨k, e, h3, h4⟩
      · exact absurd hpend (h j)
      · obtain ⟨z, hz, _⟩ := h3
        refine ⟨k, z, by rw [hu, e], hz, .inl ?_⟩
        by_cases e2 : j = k
        · subst e2
          rw [hj] at hz
          cases hz
          exact hq
        · have := h4 j hpend e2 z y hz hj
          omega
    · have hrel : m + 1 ≤ relN x (v + 1) := by
        have h3 := (relN_spec hbx' (v + 1)).1
        by_cases h4 : m + 1 ≤ relN x (v + 1)
        · exact h4
        · have : (relN x (v + 1) : Int) * x.p ≤ m * x.p := Int.mul_le_mul_of_nonneg_right (by omega) (by omega)
          omega
      have hpend : pend l out v i := by
        refine ⟨x, hx, ?_⟩
        have h3 := exN_mono out i v (a + r) (by omega)
        have h4 : x.c.toNat * (m + 1) ≤ x.c.toNat * relN x (v + 1) := Nat.mul_le_mul_left _ hrel
        rw [Nat.mul_comm] at h4
        omega
      rcases hs v u hu with ⟨_, h⟩ | ⟨k, e, h3, h4⟩
      · exact absurd hpend (h i)
      · obtain ⟨z, hz, _⟩ := h3
        refine ⟨k, z, by rw [hu, e], hz, ?_⟩
        by_cases e2 : i = k
        · exact .inr ⟨by omega, e2.symm⟩
        · exact .inl (h4 i hpend e2 z x hz hx)
  have hsum := range_sum (n := l.length) (out := out) (s := s) r (by omega) (fun v h1 h2 => by
    obtain ⟨k, y, g1, g2, _⟩ := hrun v h1 h2
    exact ⟨k, g1, (List.getElem?_eq_some_iff.1 g2).1⟩)
  have hle := sum_low (l := l) (q := x.q) (r := r) (e := x.c - 1) (i0 := i) (f := fun k => exN out k (s + r) - exN out k s) (fun k y hy => by
    have hby := hl y (List.mem_of_getElem? hy)
    by_cases hq : y.q < x.q
    · rw [if_pos hq]
      have e1 : exN out k s = y.c.toNat * relN y s := by
        have h1 := sched_le hs hy s (by omega)
        have h2 : ¬ exN out k s < y.c.toNat * relN y s := fun h => hns ⟨k, y, hy, hq, h⟩
        omega
      have h2 := sched_le hs hy (s + r) (by omega)
      have h3 := relN_diff hby (s := s) (r := r) (by omega)
      have h5 := relN_mono y s (s + r) (by omega)
      simp only [Tsk.bad, not_or, Int.not_lt] at hby
      obtain ⟨c, hcc⟩ : ∃ c : Nat, y.c = c := ⟨y.c.toNat, by omega⟩
      have hcn : y.c.toNat = c := by omega
      rw [hcn] at e1 h2
      have h4 : ((relN y (s + r) : Int) - relN y s) * c ≤ times y r * c := Int.mul_le_mul_of_nonneg_right h3 (by omega)
      rw [Int.sub_mul] at h4
      have h6 : ((exN out k (s + r) : Nat) : Int) ≤ (relN y (s + r) : Int) * c := by
        have : exN out k (s + r) ≤ relN y (s + r) * c := by rw [Nat.mul_comm]; exact h2
        exact_mod_cast this
      have h7 : ((exN out k s : Nat) : Int) = (relN y s : Int) * c := by
        have : exN out k s = relN y s * c := by rw [Nat.mul_comm]; exact e1
        exact_mod_cast this
      have h8 := exN_mono out k s (s + r) (by omega)
      rw [hcc]
      split <;> omega
    · rw [if_neg hq]
      by_cases e : k = i
      · subst e
        rw [if_pos rfl]
        by_cases hsr : s + r ≤ a
        · have := exN_const (out := out) (k := k) (s := s) r (by omega) (fun v h1 h2 e => by
            obtain ⟨k', y', g1, g2, g3⟩ := hrun v h1 h2
            rw [e] at g1
            obtain rfl : k = k' := by have := Option.some.inj g1; omega
            rw [hy] at g2
            cases g2
            omega)
          omega
        · have h1 := exN_const (out := out) (k := k) (s := s) (a - s) (by omega) (fun v h1 h2 e => by
            obtain ⟨k', y', g1, g2, g3⟩ := hrun v h1 (by omega)
            rw [e] at g1
            obtain rfl : k = k' := by have := Option.some.inj g1; omega
            rw [hy] at g2
            cases g2
            omega)
          rw [show s + (a - s) = a by omega, hprev] at h1
          have h2 := exN_mono out k (s + r) (a + r) (by omega)
          omega
      · rw [if_neg e]
        have := exN_const (out := out) (k := k) (s := s) r (by omega) (fun v h1 h2 e' => by
          obtain ⟨k', y', g1, g2, g3⟩ := hrun v h1 h2
          rw [e'] at g1
          obtain rfl : k = k' := by have := Option.some.inj g1; omega
          rw [hy] at g2
          cases g2
          rcases g3 with g3 | g3
          · exact hq g3
          · exact e g3.2)
        omega) l.length (Nat.le_refl _)
  rw [List.take_length, if_pos (List.getElem?_eq_some_iff.1 hx).1, ← hsum] at hle
  unfold resp at hw1
  omega

theorem bound_all {l : List Tsk} (hc : check l = 0) {out : List Int} (hs : Sched l out) {i r : Nat} {x : Tsk} (hx : l[i]? = some x) (hr : worst l x = r) (hr0 : r ≠ 0) :
    ∀ (m a : Nat), (a : Int) = x.o + m * x.p → a + r ≤ out.length → (m + 1) * x.c.toNat ≤ exN out i (a + r)
  | 0, a, ha, haT => by
    have hb := (good_of_check hc).1 x (List.mem_of_getElem? hx)
    refine bound_core hc hs hx ha hr hr0 haT ?_
    have h1 := sched_le hs hx a (by omega)
    have h2 := (relN_spec hb a).2
    simp only [Tsk.bad, not_or, Int.not_lt] at hb
    have h3 : relN x a = 0 := by
      by_cases h : 1 ≤ relN x a
      · have := h2 h
        have h4 : 0 ≤ ((relN x a : Int) - 1) * x.p := Int.mul_nonneg (by omega) (by omega)
        omega
      · omega
    rw [h3] at h1
    omega
  | m + 1, a, ha, haT => by
    have hb := (good_of_check hc).1 x (List.mem_of_getElem? hx)
    have hw := worst_spec (l := l) (x := x) (by rw [hr]; omega)
    rw [hr] at hw
    have hb' := hb
    simp only [Tsk.bad, not_or, Int.not_lt] at hb
    have e1 : ((m + 1 : Nat) : Int) * x.p = m * x.p + x.p := by rw [Int.natCast_add, Int.add_mul]; simp
    have hmp : 0 ≤ (m : Int) * x.p := Int.mul_nonneg (by omega) (by omega)
    have ih := bound_all hc hs hx hr hr0 m (a - x.p.toNat) (by omega) (by omega)
    refine bound_core hc hs hx ha hr hr0 haT ?_
    have h1 := exN_mono out i (a - x.p.toNat + r) a (by omega)
    have h2 := sched_le hs hx a (by omega)
    have h3 := (relN_spec hb' a).2
    have h4 : relN x a ≤ m + 1 := by
      by_cases h : relN x a ≤ m + 1
      · exact h
      · have h5 := h3 (by omega)
        have h6 : ((m + 1 : Nat) : Int) * x.p ≤ ((relN x a : Int) - 1) * x.p := Int.mul_le_mul_of_nonneg_right (by omega) (by omega)
        omega
    have h7 : x.c.toNat * relN x a ≤ x.c.toNat * (m + 1) := Nat.mul_le_mul_left _ h4
    rw [Nat.mul_comm _ (m + 1)] at h7
    omega

/-- No job takes longer than the worst case of its task. -/
theorem bound_job {l : List Tsk} (hc : check l = 0) {T : Nat} {out : List Int} {jobs : List Jb} (h : SimSpec l T out jobs) {jb : Jb} (hj : jb ∈ jobs) {i : Nat} {x : Tsk} (hk : jb.k = i) (hx : l[i]? = some x) (hw : worst l x ≠ 0) :
    jb.fin ≤ jb.rel + worst l x ∧ (jb.fin < 0 → (T : Int) < jb.rel + worst l x) := by
  have hsp := worst_spec hw
  obtain ⟨r, hr⟩ : ∃ r : Nat, worst l x = r := ⟨(worst l x).toNat, by omega⟩
  rw [hr] at hsp ⊢
  have hb := (good_of_check hc).1 x (List.mem_of_getElem? hx)
  simp only [Tsk.bad, not_or, Int.not_lt] at hb
  obtain ⟨i', x', m, g1, g2, g3, _, _, g6⟩ := h.job jb hj
  obtain rfl : i' = i := by omega
  rw [hx] at g1
  cases g1
  have hmp : 0 ≤ (m : Int) * x.p := Int.mul_nonneg (by omega) (by omega)
  obtain ⟨a, ha⟩ : ∃ a : Nat, (a : Int) = x.o + m * x.p := ⟨(x.o + m * x.p).toNat, by omega⟩
  rw [← ha] at g3
  by_cases hT : a + r ≤ T
  · have hbd := bound_all hc h.sched hx hr (by omega) m a ha (by rw [h.len]; exact hT)
    rcases g6 with ⟨e, q⟩ | ⟨s, e, q1, q2⟩
    · have := exN_mono out i' (a + r) out.length (by rw [h.len]; exact hT)
      omega
    · refine ⟨?_, fun _ => by omega⟩
      by_cases hle : s + 1 ≤ a + r
      · omega
      · have h1 := exN_mono out i' (a + r) s (by omega)
        rw [exN_succ i' q1, if_pos rfl] at q2
        omega
  · rcases g6 with ⟨e, q⟩ | ⟨s, e, q1, q2⟩
    · exact ⟨by omega, fun _ => by omega⟩
    · have hs := (List.getElem?_eq_some_iff.1 q1).1
      rw [h.len] at hs
      exact ⟨by omega, fun _ => by omega⟩
end Go.Proofs.Ytcfhnjdaijdoiaa
