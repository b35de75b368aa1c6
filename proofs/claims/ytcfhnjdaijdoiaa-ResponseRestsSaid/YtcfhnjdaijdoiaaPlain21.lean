/-
  If no job is late within the hyper period, the second one is like the first.
-/
import Derived.Test.YtcfhnjdaijdoiaaPlain18
import Derived.Test.YtcfhnjdaijdoiaaPlain8
namespace Go.Proofs.Ytcfhnjdaijdoiaa

theorem sched_le {l : List Tsk} {out : List Int} (hs : Sched l out) {i : Nat} {x : Tsk} (hx : l[i]? = some x) : ∀ t, t ≤ out.length → exN out i t ≤ x.c.toNat * relN x t
  | 0, _ => by simp [exN]
  | t + 1, ht => by
    have ih := sched_le hs hx t (by omega)
    obtain ⟨r, hr⟩ : ∃ r, out[t]? = some r := ⟨out[t], List.getElem?_eq_getElem (by omega)⟩
    rw [exN_succ i hr]
    have hmono : x.c.toNat * relN x t ≤ x.c.toNat * relN x (t + 1) := Nat.mul_le_mul_left _ (relN_mono x t (t + 1) (by omega))
    split
    · rename_i e
      subst e
      rcases hs t i hr with ⟨e, _⟩ | ⟨j, e, h1, _⟩
      · omega
      · obtain rfl : i = j := by omega
        obtain ⟨y, hy, h⟩ := h1
        rw [hx] at hy
        cases hy
        exact h
    · omega

theorem due_shift {x : Tsk} (ho : x.o = 0) {H : Nat} (hd : x.p.toNat ∣ H) (hb : ¬ x.bad) (t : Nat) : due ((H + t : Nat) : Int) x ↔ due (t : Nat) x := by
  simp only [Tsk.bad, not_or, Int.not_lt] at hb
  obtain ⟨k, rfl⟩ := hd
  have hp : ((x.p.toNat : Nat) : Int) = x.p := by omega
  unfold due
  rw [ho]
  have : (((x.p.toNat * k + t : Nat) : Int) - 0) % x.p = ((t : Int) - 0) % x.p := by
    rw [Int.sub_zero, Int.sub_zero, Int.natCast_add, Int.natCast_mul, hp]
    exact Int.mul_add_emod_self_left ..
  rw [this]
  constructor
  · rintro ⟨_, h⟩; exact ⟨by omega, h⟩
  · rintro ⟨_, h⟩; exact ⟨by omega, h⟩

theorem relN_shift {x : Tsk} (ho : x.o = 0) {H : Nat} (hd : x.p.toNat ∣ H) (hb : ¬ x.bad) : ∀ t, relN x (H + t) = relN x H + relN x t
  | 0 => by simp [relN]
  | t + 1 => by
    have ih := relN_shift ho hd hb t
    have h := due_shift ho hd hb t
    rw [← Nat.add_assoc, relN, relN, ih]
    by_cases hdue : due (t : Nat) x
    · rw [if_pos hdue, if_pos (h.2 hdue)]; omega
    · rw [if_neg hdue, if_neg (fun h' => hdue (h.1 h'))]; omega

theorem relN_full {x : Tsk} (ho : x.o = 0) {H : Nat} (hd : x.p.toNat ∣ H) (hb : ¬ x.bad) : (relN x H : Int) * x.p = H := by
  have hs := relN_spec hb H
  simp only [Tsk.bad, not_or, Int.not_lt] at hb
  rw [ho] at hs
  obtain ⟨k, hk⟩ := hd
  have hp : ((x.p.toNat : Nat) : Int) = x.p := by omega
  have hH : (H : Int) = x.p * k := by rw [hk, Int.natCast_mul, hp]
  generalize relN x H = N at *
  have h1 : k ≤ N := by
    by_cases h : k ≤ N
    · exact h
    · have : x.p * ((N : Int) + 1) ≤ x.p * k := Int.mul_le_mul_of_nonneg_left (by omega) (by omega)
      rw [Int.mul_add, Int.mul_comm x.p N] at this
      omega
  have h2 : N ≤ k := by
    by_cases h0 : N = 0
    · omega
    · have h3 := hs.2 (by omega)
      by_cases h : N ≤ k
      · exact h
      · have : x.p * (k : Int) ≤ x.p * ((N : Int) - 1) := Int.mul_le_mul_of_nonneg_left (by omega) (by omega)
        rw [Int.mul_comm x.p ((N : Int) - 1)] at this
        omega
  have : N = k := by omega
  rw [this, hH, Int.mul_comm]

/-- No job is late: all work is done at the end of the hyper period. -/
theorem all_done {l : List Tsk} (hl : ∀ x ∈ l, ¬ x.bad) {H : Nat} {out : List Int} {jobs : List Jb} (h : SimSpec l H out jobs) (ho : ∀ x ∈ l, x.o = 0) (hd : ∀ x ∈ l, x.p.toNat ∣ H) (hlate : lateOf l H jobs = [])
    {i : Nat} {x : Tsk} (hx : l[i]? = some x) : exN out i H = x.c.toNat * relN x H := by
  have hm := List.mem_of_getElem? hx
  have hb := hl x hm
  have hfull := relN_full (ho x hm) (hd x hm) hb
  have hle := sched_le h.sched hx H (by rw [h.len]; exact Nat.le_refl _)
  simp only [Tsk.bad, not_or, Int.not_lt] at hb
  by_cases h0 : relN x H = 0
  · rw [h0] at hle ⊢
    omega
  · obtain ⟨J, jb, hJ, hk, hr⟩ := job_of hl h.keys hx (show relN x H - 1 < relN x H by omega)
    obtain ⟨i', x', m, g1, g2, g3, _, _, g6⟩ := h.job jb (List.mem_of_getElem? hJ)
    obtain rfl : i' = i := by omega
    rw [hx] at g1
    cases g1
    have h7 : (m : Int) * x.p = ((relN x H - 1 : Nat) : Int) * x.p := by omega
    have h8 := Int.mul_eq_mul_right_iff (show x.p ≠ 0 by omega) |>.1 h7
    have hm1 : m + 1 = relN x H := by omega
    rw [hm1] at g6
    have hnl : lateJ l H jb = false := by
      have : jb ∉ lateOf l H jobs := by rw [hlate]; simp
      unfold lateOf at this
      rw [List.mem_filter] at this
      have hmem := List.mem_of_getElem? hJ
      cases e : lateJ l H jb with
      | false => rfl
      | true => exact absurd ⟨hmem, e⟩ this
    rw [lateJ_some (x := x) (by rw [hk, Int.toNat_natCast]; exact hx)] at hnl
    have e1 : (relN x H : Int) * x.p = ((relN x H - 1 : Nat) : Int) * x.p + x.p := by
      have : (relN x H : Int) = ((relN x H - 1 : Nat) : Int) + 1 := by omega
      rw [this, Int.add_mul, Int.one_mul]
    have hox := ho x hm
    rcases g6 with ⟨e, _⟩ | ⟨s, e, q1, q2⟩
    · simp only [Bool.or_eq_false_iff, Bool.and_eq_false_iff, decide_eq_false_iff_not] at hnl
      omega
    · have hs := (List.getElem?_eq_some_iff.1 q1).1
      have := exN_mono out i' (s + 1) H (by have := h.len; omega)
      rw [q2, Nat.mul_comm] at this
      omega

/-- Behind the hyper period all is as at the start. -/
theorem repeats {l : List Tsk} (hc : check l = 0) {H : Nat} (ho : ∀ x ∈ l, x.o = 0) (hd : ∀ x ∈ l, x.p.toNat ∣ H) (hlate : lateOf l H (simTo l H).2.1 = []) {T : Nat} (hT : T = 2 * H) {t : Nat} (ht : t < H) :
    (simTo l T).2.2[t]? = (simTo l T).2.2[t + H]? := by
  obtain ⟨hl, _⟩ := good_of_check hc
  have hlen : (simTo l T).2.2.length = T := sim_out_length l T
  have hsch := (sim_spec hc T).sched
  have hH := sim_spec hc H
  have hpre : (simTo l H).2.2 = (simTo l T).2.2.take H := hH.sched.unique (hsch.take H) (by rw [hH.len, List.length_take, hlen]; omega)
  have hdone : ∀ i x, l[i]? = some x → exN (simTo l T).2.2 i H = x.c.toNat * relN x H := by
    intro i x hx
    have := all_done hl hH ho hd hlate hx
    rw [hpre, exN_take _ _ _ _ (Nat.le_refl _)] at this
    exact this
  generalize (simTo l T).2.2 = out at *
  have hex : ∀ i t, exN out i (H + t) = exN out i H + exN (out.drop H) i t := by
    intro i t
    unfold exN
    rw [List.take_add, List.count_append]
  have hsd : Sched l (out.drop H) := by
    intro t r hr
    rw [List.getElem?_drop] at hr
    have hp : ∀ i, pend l (out.drop H) t i ↔ pend l out (H + t) i := by
      intro i
      unfold pend
      constructor
      · rintro ⟨x, hx, h⟩
        have hm := List.mem_of_getElem? hx
        refine ⟨x, hx, ?_⟩
        rw [hex, hdone i x hx, Nat.add_assoc, relN_shift (ho x hm) (hd x hm) (hl x hm), Nat.mul_add]
        omega
      · rintro ⟨x, hx, h⟩
        have hm := List.mem_of_getElem? hx
        refine ⟨x, hx, ?_⟩
        rw [hex, hdone i x hx, Nat.add_assoc, relN_shift (ho x hm) (hd x hm) (hl x hm), Nat.mul_add] at h
        omega
    rcases hsch (H + t) r hr with ⟨e, h1⟩ | ⟨i, e, h1, h2⟩
    · exact .inl ⟨e, fun i hi => h1 i ((hp i).1 hi)⟩
    · exact .inr ⟨i, e, (hp i).2 h1, fun j hj => h2 j ((hp j).1 hj)⟩
  have he := hsd.unique (hsch.take H) (by rw [List.length_drop, List.length_take, hlen]; omega)
  have := congrArg (·[t]?) he
  simp only [List.getElem?_drop, List.getElem?_take] at this
  rw [if_pos ht] at this
  rw [← this, Nat.add_comm]

/-! ### The units in which something runs -/
def busyTo (out : List Int) (t : Nat) : Nat := (out.take t).countP fun r => decide (0 ≤ r)

theorem busyTo_step {out : List Int} {t : Nat} {r : Int} (h : out[t]? = some r) : busyTo out (t + 1) = busyTo out t + if 0 ≤ r then 1 else 0 := by
  unfold busyTo
  rw [List.take_add_one, h, List.countP_append]
  simp [List.countP_cons]

def sumTo (f : Nat → Nat) : Nat → Nat
  | 0 => 0
  | n + 1 => sumTo f n + f n

theorem sumTo_add (f g : Nat → Nat) : ∀ n, sumTo (fun i => f i + g i) n = sumTo f n + sumTo g n
  | 0 => rfl
  | n + 1 => by simp only [sumTo, sumTo_add f g n]; omega

theorem sumTo_one (r : Int) : ∀ n : Nat, sumTo (fun i => if r = (i : Int) then 1 else 0) n = if 0 ≤ r ∧ r < n then 1 else 0
  | 0 => by rw [if_neg (by omega)]; rfl
  | n + 1 => by
    rw [sumTo, sumTo_one r n]
    split <;> split <;> split <;> omega

theorem count_sum (n : Nat) : ∀ (o : List Int), (∀ r ∈ o, r < n) → o.countP (fun r => decide (0 ≤ r)) = sumTo (fun i => o.count (i : Int)) n
  | [], _ => by
    have : ∀ n, sumTo (fun i => List.count (i : Int) []) n = 0 := by
      intro n
      induction n with
      | zero => rfl
      | succ n ih => rw [sumTo, ih]; rfl
    rw [this]; rfl
  | r :: o, h => by
    have ih := count_sum n o (fun r h' => h r (List.mem_cons_of_mem _ h'))
    have h1 := h r List.mem_cons_self
    have e : (fun i : Nat => List.count (i : Int) (r :: o)) = fun i : Nat => o.count (i : Int) + if r = (i : Int) then 1 else 0 := by
      funext i
      rw [List.count_cons]
      simp
    rw [e, sumTo_add, sumTo_one, List.countP_cons, ih]
    simp only [decide_eq_true_eq]
    split <;> split <;> omega

theorem busy_load {l : List Tsk} (hc : check l = 0) {H : Nat} (ho : ∀ x ∈ l, x.o = 0) (hd : ∀ x ∈ l, x.p.toNat ∣ H) (hlate : lateOf l H (simTo l H).2.1 = []) : (busyTo (simTo l H).2.2 H : Int) = loadOf H l := by
  obtain ⟨hl, _⟩ := good_of_check hc
  have hlen : (simTo l H).2.2.length = H := sim_out_length l H
  have hrg := sim_run_range l H
  have hdone := fun i x (hx : l[i]? = some x) => all_done hl (sim_spec hc H) ho hd hlate hx
  unfold busyTo
  rw [count_sum l.length _ (fun r h => (hrg r (List.mem_of_mem_take h)).2)]
  have key : ∀ k, k ≤ l.length → (sumTo (fun i => ((simTo l H).2.2.take H).count (i : Int)) k : Int) = loadOf H (l.take k) := by
    intro k
    induction k with
    | zero => intro _; simp [sumTo, loadOf]
    | succ k ih =>
      intro hk
      obtain ⟨x, hx⟩ : ∃ x, l[k]? = some x := ⟨l[k], List.getElem?_eq_getElem (by omega)⟩
      have hm := List.mem_of_getElem? hx
      have hb := hl x hm
      rw [sumTo, Int.natCast_add, ih (by omega), loadOf_step H l k x hx]
      have e1 := hdone k x hx
      unfold exN at e1
      rw [e1]
      have e2 := relN_full (ho x hm) (hd x hm) hb
      simp only [Tsk.bad, not_or, Int.not_lt] at hb
      have e3 : (H : Int) / x.p = relN x H := by
        rw [← e2]
        exact Int.mul_ediv_cancel _ (by omega)
      rw [e3, Int.natCast_mul]
      have e4 : ((x.c.toNat : Nat) : Int) = x.c := by omega
      rw [e4]
  have := key l.length (Nat.le_refl _)
  rw [List.take_length] at this
  exact this
end Go.Proofs.Ytcfhnjdaijdoiaa
