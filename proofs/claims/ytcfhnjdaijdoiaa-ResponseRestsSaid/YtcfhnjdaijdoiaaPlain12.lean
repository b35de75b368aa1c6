/-
  The program's simulation is a schedule.
-/
import Derived.Test.YtcfhnjdaijdoiaaPlain11
import Derived.Test.YtcfhnjdaijdoiaaPlain3
namespace Go.Proofs.Ytcfhnjdaijdoiaa

theorem list_set_same {α : Type} (l : List α) (k : Nat) (x : α) (h : l[k]? = some x) : l.set k x = l := by
  obtain ⟨hl, rfl⟩ := List.getElem?_eq_some_iff.1 h
  exact List.set_getElem_self hl

/-- A task's line: n jobs are released, and the queue has those that are not finished. -/
structure LineAt (out : List Int) (n : Nat) (jobs : List Jb) (i : Nat) (ln : Ln) : Prop where
  len : ln.q.length + exN out i out.length / ln.x.c.toNat = n
  le : exN out i out.length ≤ ln.x.c.toNat * n
  q : ∀ (s : Nat) (j : Int), ln.q[s]? = some j → ∃ (J : Nat) (jb : Jb), j = J ∧ jobs[J]? = some jb ∧ jb.k = i ∧ jb.rel = ln.x.o + ((exN out i out.length / ln.x.c.toNat + s : Nat) : Int) * ln.x.p
  left : ln.q ≠ [] → ln.left = ln.x.c - ((exN out i out.length % ln.x.c.toNat : Nat) : Int)

structure SInv (l : List Tsk) (out : List Int) (N : Nat → Nat) (ls : List Ln) (jobs : List Jb) : Prop where
  tasks : ls.map (·.x) = l
  line : ∀ (i : Nat) (ln : Ln), ls[i]? = some ln → LineAt out (N i) jobs i ln
  job : ∀ jb ∈ jobs, JobAt l out N jb

theorem SInv.at_ln {l : List Tsk} {out : List Int} {N : Nat → Nat} {ls : List Ln} {jobs : List Jb} (h : SInv l out N ls jobs) {i : Nat} {ln : Ln} (hi : ls[i]? = some ln) : l[i]? = some ln.x := by
  rw [← h.tasks, List.getElem?_map, hi]; rfl

theorem SInv.congr {l : List Tsk} {out : List Int} {N N' : Nat → Nat} {ls : List Ln} {jobs : List Jb} (h : SInv l out N ls jobs) (e : ∀ i x, l[i]? = some x → N i = N' i) : SInv l out N' ls jobs := by
  refine ⟨h.tasks, fun i ln hi => ?_, fun jb hj => ?_⟩
  · rw [← e i _ (h.at_ln hi)]; exact h.line i ln hi
  · obtain ⟨i, x, m, h1, h2, h3, h4, h5, h6⟩ := h.job jb hj
    exact ⟨i, x, m, h1, h2, h3, by rw [← e i x h1]; exact h4, h5, h6⟩

/-- A task releases a job. -/
theorem SInv.release {l : List Tsk} {out : List Int} {N N' : Nat → Nat} {ls : List Ln} {jobs : List Jb} (h : SInv l out N ls jobs) (hl : ∀ x ∈ l, ¬ x.bad) {k T : Nat} {ln : Ln} (hk : ls[k]? = some ln)
    (hN : ∀ i, N' i = if i = k then N k + 1 else N i) (hT : (T : Int) = ln.x.o + N k * ln.x.p) : SInv l out N' (ls.set k (relOne jobs.length ln)) (jobs ++ [⟨k, T, -1, -1⟩]) := by
  have hlk := h.line k ln hk
  have hx := h.at_ln hk
  have hb := hl _ (List.mem_of_getElem? hx)
  simp only [Tsk.bad, not_or, Int.not_lt] at hb
  have hc : 0 < ln.x.c.toNat := by omega
  refine ⟨?_, ?_, ?_⟩
  · rw [← h.tasks]; exact set_map_x _ k ln _ hk rfl
  · intro i ln' hi
    rw [List.getElem?_set] at hi
    by_cases e : k = i
    · subst e
      rw [if_pos rfl, if_pos (List.getElem?_eq_some_iff.1 hk).1] at hi
      cases hi
      rw [hN, if_pos rfl]
      refine ⟨?_, ?_, ?_, ?_⟩
      · have := hlk.len
        simp only [relOne, List.length_append, List.length_cons, List.length_nil]; omega
      · have := hlk.le
        simp only [relOne]; rw [Nat.mul_add]; omega
      · intro s j hs
        simp only [relOne] at hs ⊢
        by_cases hlt : s < ln.q.length
        · rw [List.getElem?_append_left hlt] at hs
          obtain ⟨J, jb, e1, e2, e3, e4⟩ := hlk.q s j hs
          exact ⟨J, jb, e1, by rw [List.getElem?_append_left (List.getElem?_eq_some_iff.1 e2).1]; exact e2, e3, e4⟩
        · have hs2 := (List.getElem?_eq_some_iff.1 hs).1
          simp at hs2
          obtain rfl : s = ln.q.length := by omega
          simp at hs
          subst hs
          refine ⟨jobs.length, ⟨k, T, -1, -1⟩, rfl, by simp, rfl, ?_⟩
          have := hlk.len
          rw [show exN out k out.length / ln.x.c.toNat + ln.q.length = N k by omega]
          exact hT
      · intro _
        simp only [relOne]
        by_cases hq : ln.q = []
        · rw [if_pos hq]
          have h1 := hlk.len
          rw [hq] at h1
          simp only [List.length_nil, Nat.zero_add] at h1
          have h2 := Nat.div_add_mod (exN out k out.length) ln.x.c.toNat
          have h3 := hlk.le
          rw [h1] at h2
          omega
        · rw [if_neg hq]
          exact hlk.left hq
    · rw [if_neg e] at hi
      rw [hN, if_neg (Ne.symm e)]
      have := h.line i ln' hi
      refine ⟨this.len, this.le, ?_, this.left⟩
      intro s j hs
      obtain ⟨J, jb, e1, e2, e3, e4⟩ := this.q s j hs
      exact ⟨J, jb, e1, by rw [List.getElem?_append_left (List.getElem?_eq_some_iff.1 e2).1]; exact e2, e3, e4⟩
  · intro jb hj
    rw [List.mem_append] at hj
    rcases hj with hj | hj
    · obtain ⟨i, x, m, h1, h2, h3, h4, h5, h6⟩ := h.job jb hj
      refine ⟨i, x, m, h1, h2, h3, ?_, h5, h6⟩
      rw [hN]
      split
      · rename_i e; subst e; omega
      · exact h4
    · simp at hj
      subst hj
      refine ⟨k, ln.x, N k, hx, rfl, hT, by rw [hN, if_pos rfl]; omega, .inl ⟨rfl, ?_⟩, .inl ⟨rfl, ?_⟩⟩
      · rw [Nat.mul_comm]; exact hlk.le
      · have := hlk.le
        rw [Nat.add_mul, Nat.mul_comm (N k)]; omega

/-- How many jobs of task i are released when the first k tasks have released those of time T. -/
def nAt (l : List Tsk) (T k i : Nat) : Nat := match l[i]? with
  | none => 0
  | some x => relN x (if i < k then T + 1 else T)

theorem nAt_some {l : List Tsk} {T k i : Nat} {x : Tsk} (h : l[i]? = some x) : nAt l T k i = relN x (if i < k then T + 1 else T) := by simp only [nAt, h]

theorem nAt_other {l : List Tsk} {T k i : Nat} (h : i ≠ k) : nAt l T (k + 1) i = nAt l T k i := by
  unfold nAt
  split
  · rfl
  · by_cases h2 : i < k
    · rw [if_pos h2, if_pos (by omega)]
    · rw [if_neg h2, if_neg (by omega)]

theorem inv_relTo {l : List Tsk} {out : List Int} {ls : List Ln} {jobs : List Jb} {T : Nat} (hl : ∀ x ∈ l, ¬ x.bad) (h : SInv l out (nAt l T 0) ls jobs) (hkeys : jobs.map Jb.key = relSeq l T) :
    ∀ k, SInv l out (nAt l T k) (relTo T ls jobs k).1 (relTo T ls jobs k).2 ∧ (relTo T ls jobs k).2.map Jb.key = relSeq l T ++ relAt l T k
  | 0 => ⟨h, by simp [relTo, relAt, hkeys]⟩
  | k + 1 => by
    obtain ⟨ih, ik⟩ := inv_relTo hl h hkeys k
    cases e : ls[k]? with
    | none =>
      have e2 := relTo_later T ls jobs k k (Nat.le_refl _)
      rw [e] at e2
      have es : relTo T ls jobs (k + 1) = relTo T ls jobs k := by simp only [relTo, e2]
      have el : l[k]? = none := by rw [← h.tasks, List.getElem?_map, e]; rfl
      rw [es]
      refine ⟨ih.congr (fun i x hi => ?_), by rw [ik, relAt, el]; simp⟩
      rw [nAt_other]
      rintro rfl
      rw [el] at hi
      cases hi
    | some ln =>
      have e2 := relTo_later T ls jobs k k (Nat.le_refl _)
      rw [e] at e2
      have el := h.at_ln e
      have hb := hl _ (List.mem_of_getElem? el)
      have hd := relN_due hb T
      rw [relTo_step T ls jobs k ln e]
      have n0 : nAt l T k k = relN ln.x T := by rw [nAt_some el, if_neg (by omega)]
      have n1 : nAt l T (k + 1) k = relN ln.x (T + 1) := by rw [nAt_some el, if_pos (by omega)]
      by_cases hdue : due T ln.x
      · rw [if_pos hdue]
        refine ⟨ih.release hl e2 ?_ ?_, ?_⟩
        · intro i
          split
          · rename_i e3; subst e3
            rw [n1, n0, relN, if_pos hdue]
          · exact nAt_other (by assumption)
        · rw [n0]; exact hd.1 hdue
        · rw [List.map_append, ik, relAt, el]
          simp [if_pos hdue, Jb.key]
      · rw [if_neg hdue]
        refine ⟨ih.congr (fun i x hi => ?_), by rw [ik, relAt, el]; simp [if_neg hdue]⟩
        by_cases e3 : i = k
        · subst e3
          rw [n1, n0, relN, if_neg hdue]; rfl
        · exact (nAt_other e3).symm

/-- Nothing runs in a unit. -/
theorem SInv.idle {l : List Tsk} {out : List Int} {N : Nat → Nat} {ls : List Ln} {jobs : List Jb} (h : SInv l out N ls jobs) {r : Int} (hr : r < 0) : SInv l (out ++ [r]) N ls jobs := by
  have e : ∀ i : Nat, exN (out ++ [r]) i (out ++ [r]).length = exN out i out.length := by
    intro i
    rw [List.length_append, List.length_cons, List.length_nil, exN_next, if_neg (by omega), Nat.add_zero]
  refine ⟨h.tasks, fun i ln hi => ?_, fun jb hj => ?_⟩
  · have := h.line i ln hi
    refine ⟨by rw [e]; exact this.len, by rw [e]; exact this.le, ?_, by rw [e]; exact this.left⟩
    rw [e]; exact this.q
  · obtain ⟨i, x, m, h1, h2, h3, h4, h5, h6⟩ := h.job jb hj
    exact ⟨i, x, m, h1, h2, h3, h4, h5.ext (by omega), h6.ext (by omega)⟩

/-- A task runs for a unit. -/
theorem SInv.exec {l : List Tsk} {out : List Int} {N : Nat → Nat} {ls : List Ln} {jobs : List Jb} (h : SInv l out N ls jobs) (hl : ∀ x ∈ l, ¬ x.bad) (hs : (jobs.map Jb.key).Pairwise keyLt) {k : Nat} {ln : Ln} (hk : ls[k]? = some ln) (hq : ln.q ≠ []) :
    SInv l (out ++ [(k : Int)]) N (execAt out.length ls jobs k).1 (execAt out.length ls jobs k).2 ∧ (execAt out.length ls jobs k).2.map Jb.key = jobs.map Jb.key := by
  have hlk := h.line k ln hk
  have hx := h.at_ln hk
  have hb := hl _ (List.mem_of_getElem? hx)
  simp only [Tsk.bad, not_or, Int.not_lt] at hb
  obtain ⟨j, q, hjq⟩ : ∃ j q, ln.q = j :: q := by
    cases e : ln.q with
    | nil => exact absurd e hq
    | cons j q => exact ⟨j, q, rfl⟩
  obtain ⟨J, jb, rfl, hJ, hjk, hjr⟩ := hlk.q 0 j (by rw [hjq]; rfl)
  have hlen := hlk.len
  have hleft := hlk.left hq
  rw [hjq, List.length_cons] at hlen
  obtain ⟨c, hc⟩ : ∃ c : Nat, ln.x.c = c := ⟨ln.x.c.toNat, by omega⟩
  have hcn : ln.x.c.toNat = c := by omega
  have hc0 : 0 < c := by omega
  rw [hcn] at hlen hleft hjr
  have hle := hlk.le
  rw [hcn] at hle
  rw [Nat.add_zero] at hjr
  obtain ⟨e, he⟩ : ∃ e, exN out k out.length = e := ⟨_, rfl⟩
  have hmod := Nat.mod_lt e hc0
  have hdm := Nat.div_add_mod e c
  rw [he] at hlen hleft hjr hle
  have elen : (out ++ [(k : Int)]).length = out.length + 1 := by simp
  have ek : exN (out ++ [(k : Int)]) k (out ++ [(k : Int)]).length = e + 1 := by
    rw [elen, exN_next, if_pos rfl, he]
  have eo : ∀ i : Nat, i ≠ k → exN (out ++ [(k : Int)]) i (out ++ [(k : Int)]).length = exN out i out.length := by
    intro i hi
    rw [elen, exN_next, if_neg (by omega), Nat.add_zero]
  obtain ⟨i, x, m, h1, h2, h3, h4, h5, h6⟩ := h.job jb (List.mem_of_getElem? hJ)
  obtain rfl : i = k := by omega
  rw [hx] at h1
  cases h1
  have hm : m = e / c := by
    have h7 : (m : Int) * ln.x.p = ((e / c : Nat) : Int) * ln.x.p := by omega
    have := Int.mul_eq_mul_right_iff (show ln.x.p ≠ 0 by omega) |>.1 h7
    exact_mod_cast this
  rw [hcn] at h5 h6
  -- the other jobs
  have hother : ∀ (jb' : Jb) (J' : Nat), jobs[J']? = some jb' → J' ≠ J → JobAt l (out ++ [(i : Int)]) N jb' := by
    intro jb' J' hJ' hne
    obtain ⟨i', x', m', g1, g2, g3, g4, g5, g6⟩ := h.job jb' (List.mem_of_getElem? hJ')
    refine ⟨i', x', m', g1, g2, g3, g4, ?_, ?_⟩
    · refine g5.ext ?_
      intro e1 e2 _
      obtain rfl : i = i' := by omega
      rw [hx] at g1
      cases g1
      rw [he, hcn] at e2
      have : m' = e / c := by rw [e2, Nat.mul_div_cancel _ hc0]
      exact hne (sorted_inj hs hJ' hJ (by unfold Jb.key; rw [g2, h2, g3, h3, this, hm]))
    · refine g6.ext ?_
      intro e1 e2 _
      obtain rfl : i = i' := by omega
      rw [hx] at g1
      cases g1
      rw [he, hcn, Nat.add_mul, Nat.one_mul] at e2
      have : m' = e / c := (Nat.div_eq_of_lt_le (by omega) (by rw [Nat.add_mul]; omega)).symm
      exact hne (sorted_inj hs hJ' hJ (by unfold Jb.key; rw [g2, h2, g3, h3, this, hm]))
  have hlo : (out ++ [(i : Int)])[out.length]? = some (i : Int) := by simp
  have hst : StOk (out ++ [(i : Int)]) i (m * c) (if jb.st < 0 then (out.length : Int) else jb.st) := by
    split
    · refine .inr ⟨out.length, rfl, hlo, ?_⟩
      rw [exN_append _ _ _ _ (Nat.le_refl _), he]
      rcases h5 with ⟨_, h5⟩ | ⟨s, h5, _⟩
      · rw [he] at h5
        rw [hm, Nat.mul_comm] at h5 ⊢
        omega
      · omega
    · rcases h5 with ⟨h5, _⟩ | h5
      · omega
      · exact StOk.ext (.inr h5) (fun _ _ _ => by omega)
  have hfin : jb.fin = -1 ∧ e < (m + 1) * c := by
    rcases h6 with ⟨h6, h7⟩ | ⟨s, _, h6, h7⟩
    · rw [he] at h7; exact ⟨h6, h7⟩
    · have hs2 := (List.getElem?_eq_some_iff.1 h6).1
      have := exN_mono out i (s + 1) out.length (by omega)
      rw [he, h7, hm, Nat.add_mul, Nat.mul_comm] at this
      omega
  rw [execAt_eq out.length ls jobs i J ln q jb hk hjq hJ]
  have set_job : ∀ (nw : Jb), JobAt l (out ++ [(i : Int)]) N nw → ∀ jb' ∈ jobs.set J nw, JobAt l (out ++ [(i : Int)]) N jb' := by
    intro nw hnw jb' hjb'
    obtain ⟨J', hJ'⟩ := List.mem_iff_getElem?.1 hjb'
    rw [List.getElem?_set] at hJ'
    by_cases e1 : J = J'
    · subst e1
      rw [if_pos rfl, if_pos (List.getElem?_eq_some_iff.1 hJ).1] at hJ'
      cases hJ'
      exact hnw
    · rw [if_neg e1] at hJ'
      exact hother jb' J' hJ' (Ne.symm e1)
  have set_key : ∀ (nw : Jb), nw.key = jb.key → (jobs.set J nw).map Jb.key = jobs.map Jb.key := by
    intro nw hnw
    rw [List.map_set, hnw]
    apply list_set_same
    rw [List.getElem?_map, hJ]; rfl
  have set_line : ∀ (nw : Ln) (nwj : Jb), nw.x = ln.x → nwj.k = jb.k → nwj.rel = jb.rel → LineAt (out ++ [(i : Int)]) (N i) (jobs.set J nwj) i nw →
      ∀ i' ln', (ls.set i nw)[i']? = some ln' → LineAt (out ++ [(i : Int)]) (N i') (jobs.set J nwj) i' ln' := by
    intro nw nwj hnx hnk hnr hnw i' ln' hi'
    rw [List.getElem?_set] at hi'
    by_cases e1 : i = i'
    · subst e1
      rw [if_pos rfl, if_pos (List.getElem?_eq_some_iff.1 hk).1] at hi'
      cases hi'
      exact hnw
    · rw [if_neg e1] at hi'
      have := h.line i' ln' hi'
      have e2 := eo i' (Ne.symm e1)
      refine ⟨by rw [e2]; exact this.len, by rw [e2]; exact this.le, ?_, by rw [e2]; exact this.left⟩
      rw [e2]
      intro s j hs'
      obtain ⟨J', jb', f1, f2, f3, f4⟩ := this.q s j hs'
      by_cases e3 : J = J'
      · subst e3
        rw [hJ] at f2
        cases f2
        exact ⟨J, nwj, f1, by rw [List.getElem?_set, if_pos rfl, if_pos (List.getElem?_eq_some_iff.1 hJ).1], by rw [hnk]; exact f3, by rw [hnr]; exact f4⟩
      · exact ⟨J', jb', f1, by rw [List.getElem?_set, if_neg e3]; exact f2, f3, f4⟩
  have upd : ∀ (nwj : Jb), nwj.k = jb.k → nwj.rel = jb.rel → ∀ (J' : Nat) (jb' : Jb), jobs[J']? = some jb' → ∃ jb'' : Jb, (jobs.set J nwj)[J']? = some jb'' ∧ jb''.k = jb'.k ∧ jb''.rel = jb'.rel := by
    intro nwj hnk hnr J' jb' hJ'
    by_cases e3 : J = J'
    · subst e3
      rw [hJ] at hJ'
      cases hJ'
      exact ⟨nwj, by rw [List.getElem?_set, if_pos rfl, if_pos (List.getElem?_eq_some_iff.1 hJ).1], hnk, hnr⟩
    · exact ⟨jb', by rw [List.getElem?_set, if_neg e3]; exact hJ', rfl, rfl⟩
  by_cases hz : ln.left - 1 = 0
  · rw [if_pos hz]
    obtain ⟨d1, d2⟩ := div_full hc0 (show e % c + 1 = c by omega)
    refine ⟨⟨?_, ?_, ?_⟩, set_key _ rfl⟩
    · rw [← h.tasks]; exact set_map_x _ i ln _ hk rfl
    · refine set_line _ _ rfl rfl rfl ⟨?_, ?_, ?_, ?_⟩
      · simp only [hcn]; rw [ek, d1]; omega
      · simp only [hcn]; rw [ek]
        have h8 : c * (e / c + 1) ≤ c * N i := Nat.mul_le_mul_left _ (by omega)
        rw [Nat.mul_add] at h8
        omega
      · intro s j hs'
        simp only at hs'
        obtain ⟨J', jb', f1, f2, f3, f4⟩ := hlk.q (s + 1) j (by rw [hjq]; simpa using hs')
        obtain ⟨jb'', g1, g2, g3⟩ := upd { jb with st := if jb.st < 0 then (out.length : Int) else jb.st, fin := (out.length : Int) + 1 } rfl rfl J' jb' f2
        refine ⟨J', jb'', f1, g1, by rw [g2]; exact f3, ?_⟩
        rw [g3, f4]
        simp only [hcn]
        rw [ek, d1, he, show e / c + 1 + s = e / c + (s + 1) by omega]
      · intro _
        simp only [hcn]
        rw [ek, d2]; simp
    · refine set_job _ ⟨i, ln.x, m, hx, h2, h3, h4, by rw [hcn]; exact hst, ?_⟩
      rw [hcn]
      refine .inr ⟨out.length, rfl, hlo, ?_⟩
      rw [exN_next, if_pos rfl, he, hm, Nat.add_mul, Nat.mul_comm]
      omega
  · rw [if_neg hz]
    obtain ⟨d1, d2⟩ := div_part (show e % c + 1 < c by omega)
    refine ⟨⟨?_, ?_, ?_⟩, set_key _ rfl⟩
    · rw [← h.tasks]; exact set_map_x _ i ln _ hk rfl
    · refine set_line _ _ rfl rfl rfl ⟨?_, ?_, ?_, ?_⟩
      · simp only [hcn]; rw [ek, d1, hjq, List.length_cons]; omega
      · simp only [hcn]; rw [ek]
        have h8 : c * (e / c + 1) ≤ c * N i := Nat.mul_le_mul_left _ (by omega)
        rw [Nat.mul_add] at h8
        omega
      · intro s j hs'
        simp only at hs'
        obtain ⟨J', jb', f1, f2, f3, f4⟩ := hlk.q s j hs'
        obtain ⟨jb'', g1, g2, g3⟩ := upd { jb with st := if jb.st < 0 then (out.length : Int) else jb.st } rfl rfl J' jb' f2
        refine ⟨J', jb'', f1, g1, by rw [g2]; exact f3, ?_⟩
        rw [g3, f4]
        simp only [hcn]
        rw [ek, d1, he]
      · intro _
        simp only [hcn]
        rw [ek, d2]; omega
    · refine set_job _ ⟨i, ln.x, m, hx, h2, h3, h4, by rw [hcn]; exact hst, ?_⟩
      rw [hcn]
      refine .inl ⟨hfin.1, ?_⟩
      rw [ek, hm, Nat.add_mul, Nat.mul_comm]
      omega
end Go.Proofs.Ytcfhnjdaijdoiaa
