/-
  The reference's simulation is the schedule (whole), and equals the program's.
-/
import Derived.Test.YtcfhnjdaijdoiaaPlain14
namespace Go.Proofs.Ytcfhnjdaijdoiaa

theorem left_here {m c e : Nat} (hm : m = e / c) (hc : 0 < c) : min c ((m + 1) * c - e) = c - e % c := by
  have h1 := Nat.div_add_mod e c
  have h2 := Nat.mod_lt e hc
  have h3 : (m + 1) * c = c * (e / c) + c := by rw [hm, Nat.add_mul, Nat.mul_comm, Nat.one_mul]
  rw [h3]; omega

theorem RInv.exec {l : List Tsk} {out : List Int} {N : Nat → Nat} {jobs : List Jb} {left : List Int} (h : RInv l out N jobs left) (hl : ∀ x ∈ l, ¬ x.bad) (hs : (jobs.map Jb.key).Pairwise keyLt)
    {J i c e : Nat} {jb : Jb} {x : Tsk} {f : Int} (hJ : jobs[J]? = some jb) (hf : left[J]? = some f) (hx : l[i]? = some x) (hk : jb.k = i) (hc : x.c = c) (he : exN out i out.length = e) (hr : jb.rel = x.o + ((e / c : Nat) : Int) * x.p) :
    RInv l (out ++ [(i : Int)]) N (jobs.set J { jb with st := if jb.st < 0 then (out.length : Int) else jb.st, fin := if f - 1 = 0 then (out.length : Int) + 1 else jb.fin }) (left.set J (f - 1)) := by
  have hb := hl _ (List.mem_of_getElem? hx)
  simp only [Tsk.bad, not_or, Int.not_lt] at hb
  have hcn : x.c.toNat = c := by omega
  have hc0 : 0 < c := by omega
  have hmod := Nat.mod_lt e hc0
  have hdm := Nat.div_add_mod e c
  have mEq : ∀ m : Nat, jb.rel = x.o + m * x.p → m = e / c := by
    intro m h3
    have h7 : (m : Int) * x.p = ((e / c : Nat) : Int) * x.p := by omega
    have := Int.mul_eq_mul_right_iff (show x.p ≠ 0 by omega) |>.1 h7
    exact_mod_cast this
  have hfv : f = ((c - e % c : Nat) : Int) := by
    obtain ⟨i', x', m, h1, h2, h3, h4⟩ := h.left J jb f hJ hf
    obtain rfl : i' = i := by omega
    rw [hx] at h1
    cases h1
    rw [hcn, he, left_here (mEq m h3) hc0] at h4
    exact h4
  have hcond : (f - 1 = 0) = (e % c + 1 = c) := propext (by omega)
  have elen : (out ++ [(i : Int)]).length = out.length + 1 := by simp
  have ek : exN (out ++ [(i : Int)]) i (out ++ [(i : Int)]).length = e + 1 := by rw [elen, exN_next, if_pos rfl, he]
  have eo : ∀ i' : Nat, i' ≠ i → exN (out ++ [(i : Int)]) i' (out ++ [(i : Int)]).length = exN out i' out.length := by
    intro i' hi
    rw [elen, exN_next, if_neg (by omega), Nat.add_zero]
  refine ⟨by simp [h.len], ?_, ?_, ?_⟩
  · intro i' y hy
    by_cases e1 : i' = i
    · subst e1
      rw [hx] at hy
      cases hy
      rw [ek, hcn]
      obtain ⟨i2, x2, m, h1, h2, h3, h4, _⟩ := h.job jb (List.mem_of_getElem? hJ)
      obtain rfl : i2 = i' := by omega
      rw [hx] at h1
      cases h1
      rw [mEq m h3] at h4
      have : c * (e / c + 1) ≤ c * N i2 := Nat.mul_le_mul_left _ h4
      rw [Nat.mul_add] at this
      omega
    · rw [eo i' e1]; exact h.le i' y hy
  · refine job_exec h.job hl hs hJ hx hk hc he hr _ ?_
    simp only [hcond]
  · intro J' jb' f' hJ' hf'
    rw [List.getElem?_set] at hJ' hf'
    by_cases e1 : J = J'
    · subst e1
      rw [if_pos rfl, if_pos (List.getElem?_eq_some_iff.1 hJ).1] at hJ'
      rw [if_pos rfl, if_pos (List.getElem?_eq_some_iff.1 hf).1] at hf'
      cases hJ'
      cases hf'
      refine ⟨i, x, e / c, hx, hk, hr, ?_⟩
      rw [hcn, ek, hfv, Nat.add_mul, Nat.one_mul, Nat.mul_comm]
      omega
    · rw [if_neg e1] at hJ' hf'
      obtain ⟨i', x', m', g1, g2, g3, g4⟩ := h.left J' jb' f' hJ' hf'
      refine ⟨i', x', m', g1, g2, g3, ?_⟩
      by_cases e2 : i' = i
      · subst e2
        rw [hx] at g1
        cases g1
        rw [hcn, he] at g4
        rw [hcn, ek, g4]
        have hne : m' ≠ e / c := by
          intro e3
          exact e1 (sorted_inj hs hJ hJ' (by unfold Jb.key; rw [g2, hk, g3, hr, e3]))
        rcases Nat.lt_or_ge m' (e / c) with h8 | h8
        · have h9 : (m' + 1) * c ≤ (e / c) * c := Nat.mul_le_mul_right _ h8
          rw [Nat.mul_comm (e / c)] at h9
          omega
        · have h9 : (e / c + 2) * c ≤ (m' + 1) * c := Nat.mul_le_mul_right _ (by omega)
          rw [Nat.add_mul, Nat.mul_comm (e / c)] at h9
          omega
      · rw [eo i' e2]; exact g4

theorem left_pos {l : List Tsk} {out : List Int} {N : Nat → Nat} {jobs : List Jb} {left : List Int} {T : Nat} (h : RInv l out N jobs left) (hl : ∀ x ∈ l, ¬ x.bad) (hkeys : jobs.map Jb.key = relSeq l (T + 1)) (hT : out.length = T)
    {i : Nat} {x : Tsk} (hx : l[i]? = some x) (hp : exN out i T < x.c.toNat * relN x (T + 1)) :
    ∃ (J : Nat) (jb : Jb) (f : Int), jobs[J]? = some jb ∧ left[J]? = some f ∧ 0 < f ∧ jb.k = i ∧ jb.rel = x.o + ((exN out i T / x.c.toNat : Nat) : Int) * x.p := by
  have hb := hl _ (List.mem_of_getElem? hx)
  simp only [Tsk.bad, not_or, Int.not_lt] at hb
  have hc0 : 0 < x.c.toNat := by omega
  have hm : exN out i T / x.c.toNat < relN x (T + 1) := (Nat.div_lt_iff_lt_mul hc0).2 (by rw [Nat.mul_comm]; exact hp)
  obtain ⟨J, jb, hJ, hk, hr⟩ := job_of hl hkeys hx hm
  obtain ⟨f, hf⟩ : ∃ f, left[J]? = some f := ⟨left[J]'(by rw [h.len]; exact (List.getElem?_eq_some_iff.1 hJ).1), List.getElem?_eq_getElem _⟩
  refine ⟨J, jb, f, hJ, hf, ?_, hk, hr⟩
  obtain ⟨i', x', m', g1, g2, g3, g4⟩ := h.left J jb f hJ hf
  obtain rfl : i' = i := by omega
  rw [hx] at g1
  cases g1
  have h7 : (m' : Int) * x.p = ((exN out i' T / x.c.toNat : Nat) : Int) * x.p := by omega
  have h8 := Int.mul_eq_mul_right_iff (show x.p ≠ 0 by omega) |>.1 h7
  have h9 : m' = exN out i' T / x.c.toNat := by exact_mod_cast h8
  rw [hT, left_here h9 hc0] at g4
  have := Nat.mod_lt (exN out i' T) hc0
  omega

theorem ref_inv {l : List Tsk} (hc : check l = 0) : ∀ T, RInv l (refTo l T).2.2 (nAt l T 0) (refTo l T).1 (refTo l T).2.1 ∧ SimSpec l T (refTo l T).2.2 (refTo l T).1
  | 0 => by
    refine ⟨⟨rfl, ?_, by simp [refTo], by simp [refTo]⟩, rfl, rfl, by simp [refTo], by intro t r h; simp [refTo] at h⟩
    intro i x _
    simp [refTo, exN]
  | T + 1 => by
    obtain ⟨hl, h8⟩ := good_of_check hc
    obtain ⟨_, _, hdis⟩ := (check_zero_iff l).1 hc
    obtain ⟨hinv, hspec⟩ := ref_inv hc T
    obtain ⟨hi2, hk2⟩ := inv_rrel hl hinv hspec.keys l.length
    have hlo := hspec.len
    have hi3 : RInv l (refTo l T).2.2 (nAt l (T + 1) 0) (rrel l T ((refTo l T).1, (refTo l T).2.1) l.length).1 (rrel l T ((refTo l T).1, (refTo l T).2.1) l.length).2 := by
      refine hi2.congr fun i x hx => ?_
      rw [nAt_some hx, nAt_some hx, if_pos (List.getElem?_eq_some_iff.1 hx).1, if_neg (by omega)]
    have hkeys : (rrel l T ((refTo l T).1, (refTo l T).2.1) l.length).1.map Jb.key = relSeq l (T + 1) := hk2
    have hsorted : ((rrel l T ((refTo l T).1, (refTo l T).2.1) l.length).1.map Jb.key).Pairwise keyLt := by
      rw [hk2]; exact relSeq_sorted l T l.length
    have hsch := hspec.sched
    simp only [refTo, rstep]
    generalize rrel l T ((refTo l T).1, (refTo l T).2.1) l.length = rp at *
    generalize (refTo l T).2.2 = out at *
    obtain ⟨jobs, left⟩ := rp
    simp only at *
    have hpick := rpick_spec l jobs left jobs.length (Nat.le_refl _) (by rw [hi3.len]; exact Nat.le_refl _)
    have has : ∀ i, pend l out T i → ∃ (x : Tsk) (J : Nat) (jb : Jb) (f : Int), l[i]? = some x ∧ jobs[J]? = some jb ∧ left[J]? = some f ∧ 0 < f ∧ jb.k = i ∧ jb.rel = x.o + ((exN out i T / x.c.toNat : Nat) : Int) * x.p := by
      rintro i ⟨x, hx, hp⟩
      obtain ⟨J, jb, f, h1, h2, h3, h4, h5⟩ := left_pos hi3 hl hkeys hlo hx hp
      exact ⟨x, J, jb, f, hx, h1, h2, h3, h4, h5⟩
    rcases hpick with ⟨h1, h2⟩ | ⟨J, jb, f, h1, h2, h3, h4, h5, h6⟩
    · rw [h1, if_pos (by omega)]
      have hidle := hi3.idle (r := -1) (by omega)
      refine ⟨hidle, ?_, hkeys, hidle.job, hsch.snoc ?_⟩
      · simp [hlo]
      · refine .inl ⟨rfl, fun i hi => ?_⟩
        rw [hlo] at hi
        obtain ⟨x, J, jb, f, g1, g2, g3, g4, _⟩ := has i hi
        have := h2 J f (List.getElem?_eq_some_iff.1 g2).1 g3
        omega
    · rw [h2, if_neg (by omega), Int.toNat_natCast, h3, h4]
      simp only
      obtain ⟨i, x, m, g1, g2, g3, g4⟩ := hi3.left J jb f h3 h4
      have hb := hl _ (List.mem_of_getElem? g1)
      simp only [Tsk.bad, not_or, Int.not_lt] at hb
      have hc0 : 0 < x.c.toNat := by omega
      obtain ⟨i2, _, m2, k1, k2, k3, k4, _⟩ := hi3.job jb (List.mem_of_getElem? h3)
      obtain rfl : i = i2 := by omega
      rw [g1] at k1
      cases k1
      have h7 : (m2 : Int) * x.p = (m : Int) * x.p := by omega
      have h8 := Int.mul_eq_mul_right_iff (show x.p ≠ 0 by omega) |>.1 h7
      have h9 : m2 = m := by exact_mod_cast h8
      subst h9
      rw [nAt_some g1, if_neg (by omega)] at k4
      rw [hlo] at g4
      have hlt : exN out i T < (m2 + 1) * x.c.toNat := by
        generalize (m2 + 1) * x.c.toNat = a at *
        omega
      have hpend : exN out i T < x.c.toNat * relN x (T + 1) := by
        have : (m2 + 1) * x.c.toNat ≤ relN x (T + 1) * x.c.toNat := Nat.mul_le_mul_right _ k4
        rw [Nat.mul_comm (relN x (T + 1))] at this
        omega
      have hm : m2 = exN out i T / x.c.toNat := by
        by_cases hge : m2 * x.c.toNat ≤ exN out i T
        · exact (Nat.div_eq_of_lt_le hge hlt).symm
        · exfalso
          obtain ⟨J', jb', f', j1, j2, j3, j4, j5⟩ := left_pos hi3 hl hkeys hlo g1 hpend
          have hdl : exN out i T / x.c.toNat < m2 := (Nat.div_lt_iff_lt_mul hc0).2 (by omega)
          have hne : J' ≠ J := by
            rintro rfl
            rw [h3] at j1
            cases j1
            have h7 : (m2 : Int) * x.p = ((exN out i T / x.c.toNat : Nat) : Int) * x.p := by omega
            have h8 := Int.mul_eq_mul_right_iff (show x.p ≠ 0 by omega) |>.1 h7
            have h9 : m2 = exN out i T / x.c.toNat := by exact_mod_cast h8
            omega
          have hpp : prio l jb = prio l jb' := by rw [prio_at g2 g1, prio_at j4 g1]
          rcases h6 J' jb' f' (List.getElem?_eq_some_iff.1 j1).1 hne j1 j2 j3 with h | ⟨_, h⟩
          · omega
          · have := sorted_get hsorted h h3 j1
            unfold keyLt Jb.key at this
            simp only at this
            rw [g2, j4, g3, j5] at this
            have h10 : ((exN out i T / x.c.toNat : Nat) : Int) * x.p ≤ (m2 : Int) * x.p := Int.mul_le_mul_of_nonneg_right (by omega) (by omega)
            omega
      have hex := hi3.exec hl hsorted (c := x.c.toNat) (e := exN out i T) h3 h4 g1 g2 (by omega) (by rw [hlo]) (by rw [g3, hm])
      rw [hlo, ← g2] at hex
      refine ⟨hex, ?_, ?_, hex.job, hsch.snoc ?_⟩
      · simp [hlo]
      · rw [List.map_set, ← hkeys]
        apply list_set_same
        rw [List.getElem?_map, h3]; rfl
      · rw [hlo]
        refine .inr ⟨i, g2, ⟨x, g1, hpend⟩, fun j hj hne y z hy hz => ?_⟩
        rw [g1] at hy
        cases hy
        obtain ⟨z', J', jb', f', j0, j1, j2, j3, j4, j5⟩ := has j hj
        rw [hz] at j0
        cases j0
        have hneJ : J' ≠ J := by
          rintro rfl
          rw [h3] at j1
          cases j1
          omega
        have hp := h6 J' jb' f' (List.getElem?_eq_some_iff.1 j1).1 hneJ j1 j2 j3
        rw [prio_at g2 g1, prio_at j4 hz] at hp
        rcases hp with h | ⟨h, _⟩
        · exact h
        · exact absurd (hdis.inj g1 hz h) (Ne.symm hne)

theorem ref_eq {l : List Tsk} (hc : check l = 0) (T : Nat) : (refTo l T).2.2 = (simTo l T).2.2 ∧ (refTo l T).1 = (simTo l T).2.1 :=
  SimSpec.unique (good_of_check hc).1 (ref_inv hc T).2 (sim_spec hc T)
end Go.Proofs.Ytcfhnjdaijdoiaa
