/-
  What each job did between its start and its finish.
-/
import Derived.Test.YtcfhnjdaijdoiaaPlain18
namespace Go.Proofs.Ytcfhnjdaijdoiaa

/-- When the last one of the first k jobs of each task was finished; -1: it was not; 0: there is none. -/
def endsTo (n : Nat) (js : List Jb) : Nat → List Int
  | 0 => List.replicate n 0
  | k + 1 => match js[k]? with
    | none => endsTo n js k
    | some j => (endsTo n js k).set j.k.toNat j.fin

theorem endsTo_length (n : Nat) (js : List Jb) : ∀ k, (endsTo n js k).length = n
  | 0 => by simp [endsTo]
  | k + 1 => by
    rw [endsTo]
    split
    · exact endsTo_length n js k
    · rw [List.length_set]; exact endsTo_length n js k

theorem endsTo_step {n : Nat} {js : List Jb} {k : Nat} {j : Jb} (h : js[k]? = some j) : endsTo n js (k + 1) = (endsTo n js k).set j.k.toNat j.fin := by
  rw [endsTo, h]

theorem endsTo_none {n : Nat} {js : List Jb} (hk : ∀ j ∈ js, 0 ≤ j.k) {i : Nat} (hi : i < n) : ∀ k, (∀ (J : Nat) (j : Jb), J < k → js[J]? = some j → j.k ≠ i) → (endsTo n js k)[i]? = some 0
  | 0, _ => by rw [endsTo, List.getElem?_replicate, if_pos hi]
  | k + 1, h => by
    have ih := endsTo_none hk hi k (fun J j hJ hj => h J j (by omega) hj)
    rw [endsTo]
    split
    · exact ih
    · rename_i j e
      have h1 := h k j (by omega) e
      have h2 := hk j (List.mem_of_getElem? e)
      rw [List.getElem?_set, if_neg (by omega)]
      exact ih

theorem endsTo_last {n : Nat} {js : List Jb} (hk : ∀ j ∈ js, 0 ≤ j.k) {i : Nat} (hi : i < n) {J : Nat} {j : Jb} (hJ : js[J]? = some j) (hji : j.k = i) :
    ∀ k, J < k → (∀ (J' : Nat) (j' : Jb), J < J' → J' < k → js[J']? = some j' → j'.k ≠ i) → (endsTo n js k)[i]? = some j.fin
  | 0, h, _ => by omega
  | k + 1, h, hn => by
    by_cases e : J = k
    · subst e
      rw [endsTo_step hJ, List.getElem?_set, if_pos (by omega), if_pos (by rw [endsTo_length]; omega)]
    · have ih := endsTo_last hk hi hJ hji k (by omega) (fun J' j' h1 h2 h3 => hn J' j' h1 (by omega) h3)
      rw [endsTo]
      split
      · exact ih
      · rename_i j' e'
        have h1 := hn k j' (by omega) (by omega) e'
        have h2 := hk j' (List.mem_of_getElem? e')
        rw [List.getElem?_set, if_neg (by omega)]
        exact ih

/-- The end of what a job ran. -/
def endOf (T : Nat) (jb : Jb) : Int := if jb.fin < 0 then (T : Int) else jb.fin

structure Worked (l : List Tsk) (T : Nat) (os : List Int) (jb : Jb) (i : Nat) (x : Tsk) (v : Int) (s e : Nat) : Prop where
  st_ : jb.st = s
  end_ : endOf T jb = e
  v0 : 0 ≤ v
  rel : jb.rel ≤ s
  vs : v ≤ s
  lt : s < e
  le : e ≤ T
  first : os[s]? = some (i : Int)
  done : 0 ≤ jb.fin → (exN os i e : Int) = exN os i s + x.c ∧ os[e - 1]? = some (i : Int)
  not : jb.fin < 0 → (exN os i e : Int) < exN os i s + x.c

theorem sched_rel {l : List Tsk} (hl : ∀ x ∈ l, ¬ x.bad) {os : List Int} (hs : Sched l os) {s i m : Nat} {x : Tsk} (hx : l[i]? = some x) (ho : os[s]? = some (i : Int)) (he : exN os i s = m * x.c.toNat) : x.o + m * x.p ≤ s := by
  have hb := hl x (List.mem_of_getElem? hx)
  have hspec := relN_spec hb (s + 1)
  simp only [Tsk.bad, not_or, Int.not_lt] at hb
  rcases hs s i ho with ⟨e, _⟩ | ⟨j, e, h1, _⟩
  · omega
  · obtain rfl : i = j := by omega
    obtain ⟨y, hy, h⟩ := h1
    rw [hx] at hy
    cases hy
    rw [he, Nat.mul_comm] at h
    have hm : m < relN x (s + 1) := Nat.lt_of_mul_lt_mul_left h
    have := hspec.2 (by omega)
    have h2 : (m : Int) * x.p ≤ ((relN x (s + 1) : Int) - 1) * x.p := Int.mul_le_mul_of_nonneg_right (by omega) (by omega)
    omega

theorem work_facts {l : List Tsk} (hl : ∀ x ∈ l, ¬ x.bad) {T : Nat} {os : List Int} {js : List Jb} (h : SimSpec l T os js) {k : Nat} {jb : Jb} (hk : js[k]? = some jb) :
    ∃ (i : Nat) (x : Tsk) (v : Int), jb.k = i ∧ l[i]? = some x ∧ (endsTo l.length js k)[i]? = some v ∧ (jb.st < 0 → jb.fin = -1) ∧ (0 ≤ jb.st → ∃ s e : Nat, Worked l T os jb i x v s e) := by
  have hsorted : (js.map Jb.key).Pairwise keyLt := by
    have := relSeq_sorted l T 0
    rw [relAt, List.append_nil] at this
    rw [h.keys]; exact this
  have hk0 : ∀ j ∈ js, 0 ≤ j.k := by
    intro j hj
    obtain ⟨i, _, _, _, e, _⟩ := h.job j hj
    omega
  obtain ⟨i, x, m, hx, hki, hr, hm, hst, hfin⟩ := h.job jb (List.mem_of_getElem? hk)
  have hb := hl x (List.mem_of_getElem? hx)
  have hb' := hb
  simp only [Tsk.bad, not_or, Int.not_lt] at hb
  obtain ⟨c, hc⟩ : ∃ c : Nat, x.c = c := ⟨x.c.toNat, by omega⟩
  have hcn : x.c.toNat = c := by omega
  rw [hcn] at hst hfin
  have hil := (List.getElem?_eq_some_iff.1 hx).1
  rw [nAt_some hx, if_neg (by omega)] at hm
  -- the order of the jobs of this task
  have ord : ∀ (J : Nat) (j : Jb) (m' : Nat), js[J]? = some j → j.k = i → j.rel = x.o + m' * x.p → J < k → m' < m := by
    intro J j m' hJ hji hjr hlt
    have := sorted_get hsorted hlt hJ hk
    unfold keyLt Jb.key at this
    simp only at this
    rw [hji, hki, hjr, hr] at this
    by_cases h1 : m' < m
    · exact h1
    · have : (m : Int) * x.p ≤ m' * x.p := Int.mul_le_mul_of_nonneg_right (by omega) (by omega)
      omega
  have ordOf : ∀ (j : Jb), j ∈ js → j.k = i → ∃ m' : Nat, j.rel = x.o + m' * x.p ∧ FinOk os i ((m' + 1) * c) j.fin := by
    intro j hj hji
    obtain ⟨i', x', m', g1, g2, g3, _, _, g6⟩ := h.job j hj
    obtain rfl : i' = i := by omega
    rw [hx] at g1
    cases g1
    rw [hcn] at g6
    exact ⟨m', g3, g6⟩
  have hv : ∃ v, (endsTo l.length js k)[i]? = some v ∧ ((m = 0 ∧ v = 0) ∨ (0 < m ∧ FinOk os i (m * c) v)) := by
    by_cases hm0 : m = 0
    · refine ⟨0, endsTo_none hk0 hil k ?_, .inl ⟨hm0, rfl⟩⟩
      intro J j hJ hj hji
      obtain ⟨m', h1, _⟩ := ordOf j (List.mem_of_getElem? hj) hji
      have := ord J j m' hj hji h1 hJ
      omega
    · obtain ⟨J, j, hJ, hji, hjr⟩ := job_of hl h.keys hx (show m - 1 < relN x T by omega)
      have hJk : J < k := by
        rcases Nat.lt_trichotomy J k with g | g | g
        · exact g
        · subst g
          rw [hk] at hJ
          cases hJ
          have h1 : (m : Int) * x.p = ((m - 1 : Nat) : Int) * x.p := by omega
          have := Int.mul_eq_mul_right_iff (show x.p ≠ 0 by omega) |>.1 h1
          omega
        · have := sorted_get hsorted g hk hJ
          unfold keyLt Jb.key at this
          simp only at this
          rw [hji, hki, hjr, hr] at this
          have : ((m - 1 : Nat) : Int) * x.p ≤ m * x.p := Int.mul_le_mul_of_nonneg_right (by omega) (by omega)
          omega
      refine ⟨j.fin, endsTo_last hk0 hil hJ hji k hJk ?_, .inr ⟨by omega, ?_⟩⟩
      · intro J' j' h1 h2 hj' hji'
        obtain ⟨m', g1, _⟩ := ordOf j' (List.mem_of_getElem? hj') hji'
        have a1 := ord J' j' m' hj' hji' g1 h2
        have a2 := sorted_get hsorted h1 hJ hj'
        unfold keyLt Jb.key at a2
        simp only at a2
        rw [hji, hji', hjr, g1] at a2
        have : (m' : Int) * x.p ≤ ((m - 1 : Nat) : Int) * x.p := Int.mul_le_mul_of_nonneg_right (by omega) (by omega)
        omega
      · obtain ⟨m', g1, g2⟩ := ordOf j (List.mem_of_getElem? hJ) hji
        have h1 : (m' : Int) * x.p = ((m - 1 : Nat) : Int) * x.p := by omega
        have := Int.mul_eq_mul_right_iff (show x.p ≠ 0 by omega) |>.1 h1
        have h2 : m' + 1 = m := by omega
        rw [h2] at g2
        exact g2
  obtain ⟨v, hv1, hv2⟩ := hv
  have hmc : (m + 1) * c = m * c + c := by rw [Nat.add_mul, Nat.one_mul]
  refine ⟨i, x, v, hki, hx, hv1, ?_, ?_⟩
  · intro hs0
    rcases hst with ⟨e, h1⟩ | ⟨s, e, _⟩
    · rcases hfin with ⟨e', _⟩ | ⟨s, _, h2, h3⟩
      · exact e'
      · have := exN_mono os i (s + 1) os.length (by have := (List.getElem?_eq_some_iff.1 h2).1; omega)
        omega
    · omega
  · intro hs0
    rcases hst with ⟨e, h1⟩ | ⟨s, e, h1, h2⟩
    · omega
    · have hsl := (List.getElem?_eq_some_iff.1 h1).1
      have hsT : s < T := by rw [← h.len]; exact hsl
      have hmono := exN_mono os i (s + 1) os.length (by omega)
      rw [exN_succ i h1, if_pos rfl] at hmono
      have hvv : 0 ≤ v ∧ v ≤ s := by
        rcases hv2 with ⟨_, rfl⟩ | ⟨hm0, ⟨_, g⟩ | ⟨s', e', g1, g2⟩⟩
        · omega
        · omega
        · refine ⟨by omega, ?_⟩
          by_cases hle : s' + 1 ≤ s
          · omega
          · have := exN_mono os i s s' (by omega)
            rw [exN_succ i g1, if_pos rfl] at g2
            omega
      have hrel := sched_rel hl h.sched hx h1 (by rw [h2, hcn])
      rcases hfin with ⟨e', g⟩ | ⟨s', e', g1, g2⟩
      · refine ⟨s, T, ⟨e, by unfold endOf; rw [if_pos (by omega)], hvv.1, by omega, hvv.2, hsT, Nat.le_refl _, h1, fun _ => by omega, fun _ => ?_⟩⟩
        rw [h.len] at g
        rw [hc]; omega
      · have hs'l := (List.getElem?_eq_some_iff.1 g1).1
        have hs'T : s' < T := by rw [← h.len]; exact hs'l
        refine ⟨s, s' + 1, ⟨e, by unfold endOf; rw [if_neg (by omega)]; omega, hvv.1, by omega, hvv.2, ?_, by omega, h1, fun _ => ⟨by rw [hc]; omega, by simpa using g1⟩, fun _ => by omega⟩⟩
        by_cases hle : s < s' + 1
        · exact hle
        · have := exN_mono os i (s' + 1) s (by omega)
          omega
end Go.Proofs.Ytcfhnjdaijdoiaa
