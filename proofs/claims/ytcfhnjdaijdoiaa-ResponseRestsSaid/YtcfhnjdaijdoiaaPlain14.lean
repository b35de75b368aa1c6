/-
  The reference's simulation is the schedule, too.
-/
import Derived.Test.YtcfhnjdaijdoiaaPlain13
namespace Go.Proofs.Ytcfhnjdaijdoiaa

theorem relAt_has (l : List Tsk) (t i : Nat) (x : Tsk) (hx : l[i]? = some x) (hd : due t x) : ∀ k, i < k → ((i : Int), (t : Int)) ∈ relAt l t k
  | 0, h => by omega
  | k + 1, h => by
    rw [relAt, List.mem_append]
    by_cases e : i = k
    · subst e; rw [hx]; simp [hd]
    · exact .inl (relAt_has l t i x hx hd k (by omega))

theorem relSeq_has {l : List Tsk} (hl : ∀ x ∈ l, ¬ x.bad) {i : Nat} {x : Tsk} (hx : l[i]? = some x) (m : Nat) : ∀ T, m < relN x T → ((i : Int), x.o + m * x.p) ∈ relSeq l T
  | 0, h => by simp [relN] at h
  | T + 1, h => by
    rw [relSeq, List.mem_append]
    by_cases h1 : m < relN x T
    · exact .inl (relSeq_has hl hx m T h1)
    · rw [relN] at h
      by_cases hd : due T x
      · rw [if_pos hd] at h
        obtain rfl : m = relN x T := by omega
        have := (relN_due (hl _ (List.mem_of_getElem? hx)) T).1 hd
        rw [← this]
        exact .inr (relAt_has l T i x hx hd l.length (List.getElem?_eq_some_iff.1 hx).1)
      · rw [if_neg hd] at h; omega

/-- The reference: the first k tasks release their jobs of time t; each job has what it still needs. -/
def rrel (l : List Tsk) (t : Int) (s : List Jb × List Int) : Nat → List Jb × List Int
  | 0 => s
  | k + 1 => match l[k]? with
    | none => rrel l t s k
    | some x => if due t x then ((rrel l t s k).1 ++ [⟨k, t, -1, -1⟩], (rrel l t s k).2 ++ [x.c]) else rrel l t s k

def prio (l : List Tsk) (j : Jb) : Int := match l[j.k.toNat]? with
  | none => 0
  | some x => x.q

theorem prio_at {l : List Tsk} {j : Jb} {i : Nat} {x : Tsk} (hk : j.k = i) (hx : l[i]? = some x) : prio l j = x.q := by
  unfold prio; rw [hk, Int.toNat_natCast, hx]

def rpick (l : List Tsk) (jobs : List Jb) (left : List Int) : Nat → Int
  | 0 => -1
  | k + 1 => match jobs[k]?, left[k]? with
    | some j, some f => if 0 < f ∧ (rpick l jobs left k < 0 ∨ ∀ y, jobs[(rpick l jobs left k).toNat]? = some y → prio l j < prio l y) then (k : Int) else rpick l jobs left k
    | _, _ => rpick l jobs left k

def rstep (l : List Tsk) (t : Int) (s : List Jb × List Int × List Int) : List Jb × List Int × List Int :=
  let r := rrel l t (s.1, s.2.1) l.length
  let a := rpick l r.1 r.2 r.1.length
  if a < 0 then (r.1, r.2, s.2.2 ++ [-1]) else match r.1[a.toNat]?, r.2[a.toNat]? with
    | some j, some f => (r.1.set a.toNat { j with st := if j.st < 0 then t else j.st, fin := if f - 1 = 0 then t + 1 else j.fin }, r.2.set a.toNat (f - 1), s.2.2 ++ [j.k])
    | _, _ => (r.1, r.2, s.2.2 ++ [-1])

def refTo (l : List Tsk) : Nat → List Jb × List Int × List Int
  | 0 => ([], [], [])
  | T + 1 => rstep l T (refTo l T)

theorem rpick_spec (l : List Tsk) (jobs : List Jb) (left : List Int) : ∀ k, k ≤ jobs.length → k ≤ left.length →
    (rpick l jobs left k = -1 ∧ ∀ (J : Nat) (f : Int), J < k → left[J]? = some f → f ≤ 0) ∨
    ∃ (J : Nat) (jb : Jb) (f : Int), J < k ∧ rpick l jobs left k = J ∧ jobs[J]? = some jb ∧ left[J]? = some f ∧ 0 < f ∧
      ∀ (J' : Nat) (jb' : Jb) (f' : Int), J' < k → J' ≠ J → jobs[J']? = some jb' → left[J']? = some f' → 0 < f' → prio l jb < prio l jb' ∨ (prio l jb = prio l jb' ∧ J < J')
  | 0, _, _ => .inl ⟨rfl, fun J f h => by omega⟩
  | k + 1, h1, h2 => by
    have ih := rpick_spec l jobs left k (by omega) (by omega)
    obtain ⟨jk, hjk⟩ : ∃ j, jobs[k]? = some j := ⟨jobs[k], List.getElem?_eq_getElem (by omega)⟩
    obtain ⟨fk, hfk⟩ : ∃ f, left[k]? = some f := ⟨left[k], List.getElem?_eq_getElem (by omega)⟩
    rw [rpick, hjk, hfk]
    simp only
    rcases ih with ⟨e, g⟩ | ⟨J, jb, f, g1, g2, g3, g4, g5, g6⟩
    · by_cases hf : 0 < fk
      · rw [if_pos ⟨hf, .inl (by omega)⟩]
        refine .inr ⟨k, jk, fk, by omega, rfl, hjk, hfk, hf, fun J' jb' f' hlt hne _ hf' hpos => ?_⟩
        have := g J' f' (by omega) hf'
        omega
      · rw [if_neg (fun h => hf h.1)]
        refine .inl ⟨e, fun J f hlt hJ => ?_⟩
        by_cases h3 : J = k
        · subst h3; rw [hfk] at hJ; cases hJ; omega
        · exact g J f (by omega) hJ
    · have hi : (rpick l jobs left k).toNat = J := by omega
      by_cases hcond : 0 < fk ∧ (rpick l jobs left k < 0 ∨ ∀ y, jobs[(rpick l jobs left k).toNat]? = some y → prio l jk < prio l y)
      · rw [if_pos hcond]
        obtain ⟨hf, hlt⟩ := hcond
        have hlt : prio l jk < prio l jb := by
          rcases hlt with h | h
          · omega
          · exact h jb (by rw [hi]; exact g3)
        refine .inr ⟨k, jk, fk, by omega, rfl, hjk, hfk, hf, fun J' jb' f' hlt' hne hJ' hf' hpos => ?_⟩
        by_cases h6 : J' = J
        · subst h6
          rw [g3] at hJ'
          cases hJ'
          exact .inl hlt
        · have := g6 J' jb' f' (by omega) h6 hJ' hf' hpos
          omega
      · rw [if_neg hcond]
        refine .inr ⟨J, jb, f, by omega, g2, g3, g4, g5, fun J' jb' f' hlt' hne hJ' hf' hpos => ?_⟩
        by_cases h6 : J' = k
        · subst h6
          rw [hjk] at hJ'
          rw [hfk] at hf'
          cases hJ'
          cases hf'
          have h7 : ¬ prio l jk < prio l jb := by
            intro h7
            refine hcond ⟨hpos, .inr fun y hy => ?_⟩
            rw [hi, g3] at hy
            cases hy
            exact h7
          omega
        · exact g6 J' jb' f' (by omega) hne hJ' hf' hpos

/-- What a job still needs. -/
def LeftAt (l : List Tsk) (out : List Int) (jb : Jb) (f : Int) : Prop :=
  ∃ (i : Nat) (x : Tsk) (m : Nat), l[i]? = some x ∧ jb.k = i ∧ jb.rel = x.o + m * x.p ∧ f = ((min x.c.toNat ((m + 1) * x.c.toNat - exN out i out.length) : Nat) : Int)

structure RInv (l : List Tsk) (out : List Int) (N : Nat → Nat) (jobs : List Jb) (left : List Int) : Prop where
  len : left.length = jobs.length
  le : ∀ (i : Nat) (x : Tsk), l[i]? = some x → exN out i out.length ≤ x.c.toNat * N i
  job : ∀ jb ∈ jobs, JobAt l out N jb
  left : ∀ (J : Nat) (jb : Jb) (f : Int), jobs[J]? = some jb → left[J]? = some f → LeftAt l out jb f

theorem RInv.congr {l : List Tsk} {out : List Int} {N N' : Nat → Nat} {jobs : List Jb} {left : List Int} (h : RInv l out N jobs left) (e : ∀ i x, l[i]? = some x → N i = N' i) : RInv l out N' jobs left := by
  refine ⟨h.len, fun i x hx => by rw [← e i x hx]; exact h.le i x hx, fun jb hj => ?_, h.left⟩
  obtain ⟨i, x, m, h1, h2, h3, h4, h5, h6⟩ := h.job jb hj
  exact ⟨i, x, m, h1, h2, h3, by rw [← e i x h1]; exact h4, h5, h6⟩

theorem RInv.release {l : List Tsk} {out : List Int} {N N' : Nat → Nat} {jobs : List Jb} {left : List Int} (h : RInv l out N jobs left) (hl : ∀ x ∈ l, ¬ x.bad) {k T : Nat} {x : Tsk} (hx : l[k]? = some x)
    (hN : ∀ i, N' i = if i = k then N k + 1 else N i) (hT : (T : Int) = x.o + N k * x.p) : RInv l out N' (jobs ++ [⟨k, T, -1, -1⟩]) (left ++ [x.c]) := by
  have hb := hl _ (List.mem_of_getElem? hx)
  simp only [Tsk.bad, not_or, Int.not_lt] at hb
  have hc : 0 < x.c.toNat := by omega
  have hle := h.le k x hx
  refine ⟨by simp [h.len], ?_, ?_, ?_⟩
  · intro i y hy
    rw [hN]
    split
    · rename_i e; subst e
      rw [hx] at hy; cases hy
      rw [Nat.mul_add]; omega
    · exact h.le i y hy
  · intro jb hj
    rw [List.mem_append] at hj
    rcases hj with hj | hj
    · obtain ⟨i, x, m, h1, h2, h3, h4, h5, h6⟩ := h.job jb hj
      refine ⟨i, x, m, h1, h2, h3, ?_, h5, h6⟩
      rw [hN]
      split
      · rename_i e; subst e; omega
      · exact h4
    · simp at hj
      subst hj
      refine ⟨k, x, N k, hx, rfl, hT, by rw [hN, if_pos rfl]; omega, .inl ⟨rfl, ?_⟩, .inl ⟨rfl, ?_⟩⟩
      · rw [Nat.mul_comm]; exact hle
      · rw [Nat.add_mul, Nat.mul_comm (N k)]; omega
  · intro J jb f hJ hf
    by_cases hlt : J < jobs.length
    · rw [List.getElem?_append_left hlt] at hJ
      rw [List.getElem?_append_left (by rw [h.len]; exact hlt)] at hf
      exact h.left J jb f hJ hf
    · have hJ2 := (List.getElem?_eq_some_iff.1 hJ).1
      simp at hJ2
      obtain rfl : J = jobs.length := by omega
      rw [← h.len] at hf
      simp at hJ hf
      subst hJ
      subst hf
      refine ⟨k, x, N k, hx, rfl, hT, ?_⟩
      rw [Nat.add_mul, Nat.mul_comm (N k)]; omega

theorem inv_rrel {l : List Tsk} {out : List Int} {jobs : List Jb} {left : List Int} {T : Nat} (hl : ∀ x ∈ l, ¬ x.bad) (h : RInv l out (nAt l T 0) jobs left) (hkeys : jobs.map Jb.key = relSeq l T) :
    ∀ k, RInv l out (nAt l T k) (rrel l T (jobs, left) k).1 (rrel l T (jobs, left) k).2 ∧ (rrel l T (jobs, left) k).1.map Jb.key = relSeq l T ++ relAt l T k
  | 0 => ⟨h, by simp [rrel, relAt, hkeys]⟩
  | k + 1 => by
    obtain ⟨ih, ik⟩ := inv_rrel hl h hkeys k
    rw [rrel, relAt]
    cases e : l[k]? with
    | none =>
      refine ⟨ih.congr (fun i x hi => ?_), by simp only; rw [ik]; simp⟩
      rw [nAt_other]
      rintro rfl
      rw [e] at hi
      cases hi
    | some x =>
      have hb := hl _ (List.mem_of_getElem? e)
      have hd := relN_due hb T
      have n0 : nAt l T k k = relN x T := by rw [nAt_some e, if_neg (by omega)]
      have n1 : nAt l T (k + 1) k = relN x (T + 1) := by rw [nAt_some e, if_pos (by omega)]
      simp only
      by_cases hdue : due T x
      · rw [if_pos hdue, if_pos hdue]
        refine ⟨ih.release hl e ?_ ?_, ?_⟩
        · intro i
          split
          · rename_i e3; subst e3
            rw [n1, n0, relN, if_pos hdue]
          · exact nAt_other (by assumption)
        · rw [n0]; exact hd.1 hdue
        · rw [List.map_append, ik]
          simp [Jb.key]
      · rw [if_neg hdue, if_neg hdue]
        refine ⟨ih.congr (fun i y hi => ?_), by rw [ik]; simp⟩
        by_cases e3 : i = k
        · subst e3
          rw [n1, n0, relN, if_neg hdue]; rfl
        · exact (nAt_other e3).symm

theorem RInv.idle {l : List Tsk} {out : List Int} {N : Nat → Nat} {jobs : List Jb} {left : List Int} (h : RInv l out N jobs left) {r : Int} (hr : r < 0) : RInv l (out ++ [r]) N jobs left := by
  have e : ∀ i : Nat, exN (out ++ [r]) i (out ++ [r]).length = exN out i out.length := by
    intro i
    rw [List.length_append, List.length_cons, List.length_nil, exN_next, if_neg (by omega), Nat.add_zero]
  refine ⟨h.len, fun i x hx => by rw [e]; exact h.le i x hx, fun jb hj => ?_, fun J jb f hJ hf => ?_⟩
  · obtain ⟨i, x, m, h1, h2, h3, h4, h5, h6⟩ := h.job jb hj
    exact ⟨i, x, m, h1, h2, h3, h4, h5.ext (by omega), h6.ext (by omega)⟩
  · obtain ⟨i, x, m, h1, h2, h3, h4⟩ := h.left J jb f hJ hf
    exact ⟨i, x, m, h1, h2, h3, by rw [e]; exact h4⟩

/-- The job that runs, and all others, behind a unit. -/
theorem job_exec {l : List Tsk} {out : List Int} {N : Nat → Nat} {jobs : List Jb} (h : ∀ jb ∈ jobs, JobAt l out N jb) (hl : ∀ x ∈ l, ¬ x.bad) (hs : (jobs.map Jb.key).Pairwise keyLt)
    {J i c e : Nat} {jb : Jb} {x : Tsk} (hJ : jobs[J]? = some jb) (hx : l[i]? = some x) (hk : jb.k = i) (hc : x.c = c) (he : exN out i out.length = e) (hr : jb.rel = x.o + ((e / c : Nat) : Int) * x.p) (fin : Int)
    (hfin : fin = if e % c + 1 = c then (out.length : Int) + 1 else jb.fin) :
    ∀ jb' ∈ jobs.set J { jb with st := if jb.st < 0 then (out.length : Int) else jb.st, fin := fin }, JobAt l (out ++ [(i : Int)]) N jb' := by
  have hb := hl _ (List.mem_of_getElem? hx)
  simp only [Tsk.bad, not_or, Int.not_lt] at hb
  have hcn : x.c.toNat = c := by omega
  have hc0 : 0 < c := by omega
  have hmod := Nat.mod_lt e hc0
  have hdm := Nat.div_add_mod e c
  obtain ⟨i', x', m, h1, h2, h3, h4, h5, h6⟩ := h jb (List.mem_of_getElem? hJ)
  obtain rfl : i' = i := by omega
  rw [hx] at h1
  cases h1
  have hm : m = e / c := by
    have h7 : (m : Int) * x.p = ((e / c : Nat) : Int) * x.p := by omega
    have := Int.mul_eq_mul_right_iff (show x.p ≠ 0 by omega) |>.1 h7
    exact_mod_cast this
  rw [hcn] at h5 h6
  have hlo : (out ++ [(i' : Int)])[out.length]? = some (i' : Int) := by simp
  intro jb' hjb'
  obtain ⟨J', hJ'⟩ := List.mem_iff_getElem?.1 hjb'
  rw [List.getElem?_set] at hJ'
  by_cases e1 : J = J'
  · subst e1
    rw [if_pos rfl, if_pos (List.getElem?_eq_some_iff.1 hJ).1] at hJ'
    cases hJ'
    refine ⟨i', x, m, hx, h2, h3, h4, ?_, ?_⟩
    · rw [hcn]
      simp only
      split
      · refine .inr ⟨out.length, rfl, hlo, ?_⟩
        rw [exN_append _ _ _ _ (Nat.le_refl _), he]
        rcases h5 with ⟨_, h5⟩ | ⟨s, h5, _⟩
        · rw [he] at h5
          rw [hm, Nat.mul_comm] at h5 ⊢
          omega
        · omega
      · rcases h5 with ⟨h5, _⟩ | h5
        · omega
        · exact StOk.ext (.inr h5) (fun _ _ _ => by omega)
    · rw [hcn]
      simp only
      rw [hfin]
      have hfin : jb.fin = -1 ∧ e < (m + 1) * c := by
        rcases h6 with ⟨h6, h7⟩ | ⟨s, _, h6, h7⟩
        · rw [he] at h7; exact ⟨h6, h7⟩
        · have hs2 := (List.getElem?_eq_some_iff.1 h6).1
          have := exN_mono out i' (s + 1) out.length (by omega)
          rw [he, h7, hm, Nat.add_mul, Nat.mul_comm] at this
          omega
      split
      · refine .inr ⟨out.length, rfl, hlo, ?_⟩
        rw [exN_next, if_pos rfl, he, hm, Nat.add_mul, Nat.mul_comm]
        omega
      · refine .inl ⟨hfin.1, ?_⟩
        rw [List.length_append, List.length_cons, List.length_nil, exN_next, if_pos rfl, he, hm, Nat.add_mul, Nat.mul_comm]
        omega
  · rw [if_neg e1] at hJ'
    obtain ⟨i2, x2, m2, g1, g2, g3, g4, g5, g6⟩ := h jb' (List.mem_of_getElem? hJ')
    refine ⟨i2, x2, m2, g1, g2, g3, g4, ?_, ?_⟩
    · refine g5.ext ?_
      intro f1 f2 _
      obtain rfl : i' = i2 := by omega
      rw [hx] at g1
      cases g1
      rw [he, hcn] at f2
      have : m2 = e / c := by rw [f2, Nat.mul_div_cancel _ hc0]
      exact e1 (sorted_inj hs hJ hJ' (by unfold Jb.key; rw [g2, h2, g3, h3, this, hm]))
    · refine g6.ext ?_
      intro f1 f2 _
      obtain rfl : i' = i2 := by omega
      rw [hx] at g1
      cases g1
      rw [he, hcn, Nat.add_mul, Nat.one_mul] at f2
      have : m2 = e / c := (Nat.div_eq_of_lt_le (by omega) (by rw [Nat.add_mul]; omega)).symm
      exact e1 (sorted_inj hs hJ hJ' (by unfold Jb.key; rw [g2, h2, g3, h3, this, hm]))

/-- The job of a number. -/
theorem job_of {l : List Tsk} (hl : ∀ x ∈ l, ¬ x.bad) {jobs : List Jb} {T i m : Nat} {x : Tsk} (hkeys : jobs.map Jb.key = relSeq l T) (hx : l[i]? = some x) (hm : m < relN x T) :
    ∃ (J : Nat) (jb : Jb), jobs[J]? = some jb ∧ jb.k = i ∧ jb.rel = x.o + m * x.p := by
  have := relSeq_has hl hx m T hm
  rw [← hkeys] at this
  obtain ⟨jb, h1, h2⟩ := List.mem_map.1 this
  obtain ⟨J, hJ⟩ := List.mem_iff_getElem?.1 h1
  unfold Jb.key at h2
  simp only [Prod.mk.injEq] at h2
  exact ⟨J, jb, hJ, h2.1, h2.2⟩
end Go.Proofs.Ytcfhnjdaijdoiaa
