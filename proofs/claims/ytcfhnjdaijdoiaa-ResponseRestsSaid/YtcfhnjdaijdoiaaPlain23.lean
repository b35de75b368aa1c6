/-
  If all offsets are 0 the first job of each task takes its worst case, and behind its longest busy time all is done.
-/
import Derived.Test.YtcfhnjdaijdoiaaPlain22
import Derived.Test.YtcfhnjdaijdoiaaPlain17
namespace Go.Proofs.Ytcfhnjdaijdoiaa

theorem relN_times {y : Tsk} (hb : ¬ y.bad) (ho : y.o = 0) (t : Nat) : (relN y t : Int) = times y t := by
  have h := relN_spec hb t
  simp only [Tsk.bad, not_or, Int.not_lt] at hb
  rw [ho] at h
  generalize relN y t = N at *
  unfold times
  have e : (t : Int) + y.p - 1 = ((t : Int) + y.p - 1 - N * y.p) + N * y.p := by omega
  have h1 : 0 ≤ (t : Int) + y.p - 1 - N * y.p := by
    by_cases h0 : 1 ≤ N
    · have h2 := h.2 h0
      rw [Int.sub_mul] at h2
      omega
    · obtain rfl : N = 0 := by omega
      omega
  rw [e, Int.add_mul_ediv_right _ _ (by omega), Int.ediv_eq_zero_of_lt h1 (by omega), Int.zero_add]

theorem sum_low_ge {l : List Tsk} {q r e : Int} {i0 : Nat} {f : Nat → Nat} (h : ∀ (k : Nat) (x : Tsk), l[k]? = some x → (if x.q < q then times x r * x.c else 0) + (if k = i0 then e else 0) ≤ (f k : Int)) :
    ∀ k, k ≤ l.length → sumLow q r (l.take k) + (if i0 < k then e else 0) ≤ (sumTo f k : Int)
  | 0, _ => by simp [sumTo, sumLow]
  | k + 1, hk => by
    have ih := sum_low_ge h k (by omega)
    obtain ⟨x, hx⟩ : ∃ x, l[k]? = some x := ⟨l[k], List.getElem?_eq_getElem (by omega)⟩
    have h1 := h k x hx
    rw [sumLow_step q r l k x hx, sumTo, Int.natCast_add]
    by_cases e1 : k = i0
    · subst e1
      rw [if_pos rfl] at h1
      rw [if_neg (show ¬ k < k by omega)] at ih
      rw [if_pos (show k < k + 1 by omega)]
      omega
    · rw [if_neg e1] at h1
      by_cases e2 : i0 < k
      · rw [if_pos e2] at ih
        rw [if_pos (show i0 < k + 1 by omega)]
        omega
      · rw [if_neg e2] at ih
        rw [if_neg (show ¬ i0 < k + 1 by omega)]
        omega

theorem sum_all {l : List Tsk} {r e : Int} {i0 : Nat} {f : Nat → Nat} (h : ∀ (k : Nat) (x : Tsk), l[k]? = some x → (f k : Int) ≤ times x r * x.c + (if k = i0 then e else 0)) :
    ∀ k, k ≤ l.length → (sumTo f k : Int) ≤ sumT r (l.take k) + (if i0 < k then e else 0)
  | 0, _ => by simp [sumTo, sumT]
  | k + 1, hk => by
    have ih := sum_all h k (by omega)
    obtain ⟨x, hx⟩ : ∃ x, l[k]? = some x := ⟨l[k], List.getElem?_eq_getElem (by omega)⟩
    have h1 := h k x hx
    rw [sumT_step r l k x hx, sumTo, Int.natCast_add]
    by_cases e1 : k = i0
    · subst e1
      rw [if_pos rfl] at h1
      rw [if_neg (show ¬ k < k by omega)] at ih
      rw [if_pos (show k < k + 1 by omega)]
      omega
    · rw [if_neg e1] at h1
      by_cases e2 : i0 < k
      · rw [if_pos e2] at ih
        rw [if_pos (show i0 < k + 1 by omega)]
        omega
      · rw [if_neg e2] at ih
        rw [if_neg (show ¬ i0 < k + 1 by omega)]
        omega

theorem sum_all_ge {l : List Tsk} {r : Int} {f : Nat → Nat} (h : ∀ (k : Nat) (x : Tsk), l[k]? = some x → times x r * x.c ≤ (f k : Int)) :
    ∀ k, k ≤ l.length → sumT r (l.take k) ≤ (sumTo f k : Int)
  | 0, _ => by simp [sumTo, sumT]
  | k + 1, hk => by
    have ih := sum_all_ge h k (by omega)
    obtain ⟨x, hx⟩ : ∃ x, l[k]? = some x := ⟨l[k], List.getElem?_eq_getElem (by omega)⟩
    have h1 := h k x hx
    rw [sumT_step r l k x hx, sumTo, Int.natCast_add]
    omega

theorem work_int {x : Tsk} (hb : ¬ x.bad) (ho : x.o = 0) (t : Nat) : ((x.c.toNat * relN x t : Nat) : Int) = times x t * x.c := by
  have h := relN_times hb ho t
  simp only [Tsk.bad, not_or, Int.not_lt] at hb
  rw [Int.natCast_mul, h, Int.mul_comm]
  congr 1
  omega

/-- When the first job of a task is finished, all that is more urgent is done. -/
theorem first_core {l : List Tsk} (hc : check l = 0) (ho : ∀ x ∈ l, x.o = 0) {T : Nat} {out : List Int} {jobs : List Jb} (h : SimSpec l T out jobs) {jb : Jb} (hj : jb ∈ jobs) {i : Nat} {x : Tsk} (hk : jb.k = i) (hx : l[i]? = some x)
    (hr : jb.rel = 0) (hf : 0 ≤ jb.fin) : resp l x jb.fin ≤ jb.fin ∧ 1 ≤ jb.fin := by
  obtain ⟨hl, _⟩ := good_of_check hc
  have hb := hl x (List.mem_of_getElem? hx)
  simp only [Tsk.bad, not_or, Int.not_lt] at hb
  obtain ⟨i', x', m, g1, g2, g3, _, _, g6⟩ := h.job jb hj
  obtain rfl : i' = i := by omega
  rw [hx] at g1
  cases g1
  rw [hr, ho x (List.mem_of_getElem? hx)] at g3
  have hm : m = 0 := by
    by_cases h0 : m = 0
    · exact h0
    · have : 1 * x.p ≤ (m : Int) * x.p := Int.mul_le_mul_of_nonneg_right (by omega) (by omega)
      omega
  subst hm
  rcases g6 with ⟨e, _⟩ | ⟨s, e, q1, q2⟩
  · omega
  · have hs := (List.getElem?_eq_some_iff.1 q1).1
    have hge := sum_low_ge (l := l) (q := x.q) (r := ((s + 1 : Nat) : Int)) (e := x.c) (i0 := i') (f := fun k => exN out k (s + 1)) (fun k y hy => by
      have hby := hl y (List.mem_of_getElem? hy)
      have hw := work_int hby (ho y (List.mem_of_getElem? hy)) (s + 1)
      by_cases hq : y.q < x.q
      · rw [if_pos hq]
        have hki : k ≠ i' := by
          rintro rfl
          rw [hx] at hy
          cases hy
          omega
        rw [if_neg hki]
        have hnp : ¬ pend l out s k := by
          intro hp
          rcases h.sched s i' q1 with ⟨e', _⟩ | ⟨j, e', _, h2⟩
          · omega
          · obtain rfl : i' = j := by omega
            have := h2 k hp hki x y hx hy
            omega
        have h1 : y.c.toNat * relN y (s + 1) ≤ exN out k s := by
          by_cases h1 : y.c.toNat * relN y (s + 1) ≤ exN out k s
          · exact h1
          · exact absurd ⟨y, hy, by omega⟩ hnp
        have h2 := exN_mono out k s (s + 1) (by omega)
        omega
      · rw [if_neg hq]
        split
        · rename_i e'
          subst e'
          rw [q2]
          omega
        · omega) l.length (Nat.le_refl _)
    rw [List.take_length, if_pos (List.getElem?_eq_some_iff.1 hx).1] at hge
    have htot := total_le l.length out (s + 1) (by omega)
    have e2 : jb.fin = ((s + 1 : Nat) : Int) := by omega
    rw [e2]
    unfold resp
    exact ⟨by omega, by omega⟩

theorem pos_first {l : List Tsk} (hl : ∀ x ∈ l, ¬ x.bad) (ho : ∀ x ∈ l, x.o = 0) : ∀ i, i ≤ l.length → pos l 0 i = i
  | 0, _ => rfl
  | i + 1, hi => by
    obtain ⟨x, hx⟩ : ∃ x, l[i]? = some x := ⟨l[i], List.getElem?_eq_getElem (by omega)⟩
    rw [pos_due hx ⟨by rw [ho x (List.mem_of_getElem? hx)]; simp, by rw [ho x (List.mem_of_getElem? hx)]; simp⟩, pos_first hl ho i (by omega)]

/-- If all offsets are 0, the first job of each task takes exactly its worst case. -/
theorem first_job {l : List Tsk} (hc : check l = 0) (ho : ∀ x ∈ l, x.o = 0) {T : Nat} {out : List Int} {jobs : List Jb} (h : SimSpec l T out jobs) {i : Nat} {x : Tsk} (hx : l[i]? = some x) (hp : x.p ≤ T) :
    ∃ jb, jobs[i]? = some jb ∧ jb.k = i ∧ jb.rel = 0 ∧ (worst l x ≠ 0 → jb.fin = worst l x) ∧ (worst l x = 0 → ¬ (0 ≤ jb.fin ∧ jb.fin ≤ x.p)) := by
  obtain ⟨hl, _⟩ := good_of_check hc
  have hm := List.mem_of_getElem? hx
  have hb := hl x hm
  have hb' := hb
  simp only [Tsk.bad, not_or, Int.not_lt] at hb
  obtain ⟨jb, h1, h2, h3⟩ := job_at h.keys hx (t := 0) ⟨by rw [ho x hm]; simp, by rw [ho x hm]; simp⟩ (by omega)
  rw [pos_first hl ho i (Nat.le_of_lt (List.getElem?_eq_some_iff.1 hx).1)] at h1
  have hmem := List.mem_of_getElem? h1
  have h3 : jb.rel = 0 := h3
  have hf := first_core hc ho h hmem h2 hx h3
  refine ⟨jb, h1, h2, h3, fun hw => ?_, fun hw hh => ?_⟩
  · have hbd := bound_job hc h hmem h2 hx hw
    have hsp := worst_spec hw
    have hf0 : 0 ≤ jb.fin := by
      by_cases h0 : 0 ≤ jb.fin
      · exact h0
      · have := hbd.2 (by omega)
        omega
    obtain ⟨f1, f2⟩ := hf hf0
    have := worst_le hl hb' f2 (by omega) f1
    omega
  · obtain ⟨f1, f2⟩ := hf hh.1
    exact (worst_le hl hb' f2 hh.2 f1).1 hw

/-! ### Rests -/
theorem busy_ge {m : List Tsk} {n : Int} (hl : ∀ x ∈ m, ¬ x.bad) (h : BusyIs m n) : ∀ t : Nat, (t : Int) < n → ((t + 1 : Nat) : Int) ≤ sumT ((t + 1 : Nat) : Int) m
  | 0, _ => by
    obtain ⟨h1, _, h3, _⟩ := h
    have hne : m ≠ [] := by
      rintro rfl
      simp [sumT] at h3
      omega
    exact sumT_pos 1 (Int.le_refl _) m hl hne
  | t + 1, ht => by
    have ih := busy_ge hl h t (by omega)
    have h4 := h.2.2.2 ((t + 1 : Nat) : Int) (by omega) ht
    have := sumT_mono ((t + 1 : Nat) : Int) ((t + 1 + 1 : Nat) : Int) (by omega) m hl
    omega

theorem rests_busy {l : List Tsk} (hc : check l = 0) (ho : ∀ x ∈ l, x.o = 0) {n : Nat} {out : List Int} {jobs : List Jb} (h : SimSpec l n out jobs) (hb : BusyIs l n) {t : Nat} {r : Int} (ht : out[t]? = some r) : 0 ≤ r := by
  obtain ⟨hl, _⟩ := good_of_check hc
  have htl := (List.getElem?_eq_some_iff.1 ht).1
  rw [h.len] at htl
  rcases h.sched t r ht with ⟨e, h1⟩ | ⟨i, e, _⟩
  · have hge := sum_all_ge (l := l) (r := ((t + 1 : Nat) : Int)) (f := fun k => exN out k t) (fun k y hy => by
      have hw := work_int (hl y (List.mem_of_getElem? hy)) (ho y (List.mem_of_getElem? hy)) (t + 1)
      have h2 : y.c.toNat * relN y (t + 1) ≤ exN out k t := by
        by_cases h2 : y.c.toNat * relN y (t + 1) ≤ exN out k t
        · exact h2
        · exact absurd ⟨y, hy, by omega⟩ (h1 k)
      omega) l.length (Nat.le_refl _)
    rw [List.take_length] at hge
    have htot := total_le l.length out t (by rw [h.len]; omega)
    have := busy_ge hl hb t (by omega)
    omega
  · omega

theorem rests_done {l : List Tsk} (hc : check l = 0) (ho : ∀ x ∈ l, x.o = 0) {n : Nat} {out : List Int} {jobs : List Jb} (h : SimSpec l n out jobs) (hb : BusyIs l n) {jb : Jb} (hj : jb ∈ jobs) : 0 ≤ jb.fin := by
  obtain ⟨hl, _⟩ := good_of_check hc
  obtain ⟨i, x, m, g1, g2, g3, g4, _, g6⟩ := h.job jb hj
  rcases g6 with ⟨e, q⟩ | ⟨s, e, _⟩
  · exfalso
    rw [nAt_some g1, if_neg (by omega)] at g4
    have hsum := range_sum (n := l.length) (out := out) (s := 0) n (by rw [h.len]; omega) (fun v _ hv => by
      obtain ⟨r, hr⟩ : ∃ r, out[v]? = some r := ⟨out[v]'(by rw [h.len]; omega), List.getElem?_eq_getElem _⟩
      rcases h.sched v r hr with ⟨e', _⟩ | ⟨k, e', ⟨y, hy, _⟩, _⟩
      · have := rests_busy hc ho h hb hr
        omega
      · exact ⟨k, by rw [hr, e'], (List.getElem?_eq_some_iff.1 hy).1⟩)
    have hle := sum_all (l := l) (r := (n : Int)) (e := -1) (i0 := i) (f := fun k => exN out k (0 + n) - exN out k 0) (fun k y hy => by
      have hw := work_int (hl y (List.mem_of_getElem? hy)) (ho y (List.mem_of_getElem? hy)) n
      have h1 := sched_le h.sched hy n (by rw [h.len]; exact Nat.le_refl _)
      rw [Nat.zero_add, exN_zero, Nat.sub_zero]
      by_cases e' : k = i
      · subst e'
        rw [g1] at hy
        cases hy
        rw [if_pos rfl]
        rw [h.len] at q
        have h2 : (m + 1) * x.c.toNat ≤ relN x n * x.c.toNat := Nat.mul_le_mul_right _ g4
        rw [Nat.mul_comm (relN x n)] at h2
        omega
      · rw [if_neg e']
        omega) l.length (Nat.le_refl _)
    rw [List.take_length, if_pos (List.getElem?_eq_some_iff.1 g1).1, ← hsum] at hle
    have := hb.2.2.1
    omega
  · omega

/-! ### Tasks whose offsets are 0 -/
def zeroO (_ : Nat) (x : Tsk) : Tsk := { x with o := 0 }
def still (l : List Tsk) : List Tsk := l.map (zeroO 0)

theorem still_get (l : List Tsk) (i : Nat) : (still l)[i]? = (l[i]?).map (zeroO 0) := by simp [still]

theorem still_check {l : List Tsk} (hc : check l = 0) : check (still l) = 0 := by
  obtain ⟨h8, hl, hd⟩ := (check_zero_iff l).1 hc
  refine (check_zero_iff _).2 ⟨by simpa [still] using h8, ?_, ?_⟩
  · intro y hy
    obtain ⟨x, hx, rfl⟩ := List.mem_map.1 hy
    have := hl x hx
    simp only [Tsk.bad, not_or, Int.not_lt, zeroO] at this ⊢
    omega
  · intro i j x y hij hi hj
    rw [still_get, Option.map_eq_some_iff] at hi hj
    obtain ⟨x', hx', rfl⟩ := hi
    obtain ⟨y', hy', rfl⟩ := hj
    exact hd i j x' y' hij hx' hy'

theorem still_zero (l : List Tsk) : ∀ x ∈ still l, x.o = 0 := by
  intro y hy
  obtain ⟨x, _, rfl⟩ := List.mem_map.1 hy
  rfl

theorem sumT_still (r : Int) : ∀ l, sumT r (still l) = sumT r l
  | [] => rfl
  | x :: l => by
    have ih := sumT_still r l
    simp only [still, List.map_cons, sumT] at ih ⊢
    rw [ih]
    rfl

theorem busy_still {m : List Tsk} {n : Int} (h : BusyIs m n) : BusyIs (still m) n := by
  obtain ⟨h1, h2, h3, h4⟩ := h
  exact ⟨h1, h2, by rw [sumT_still]; exact h3, fun t a b => by rw [sumT_still]; exact h4 t a b⟩
end Go.Proofs.Ytcfhnjdaijdoiaa
