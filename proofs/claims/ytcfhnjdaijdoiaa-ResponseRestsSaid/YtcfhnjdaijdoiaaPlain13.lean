/-
  The program's simulation is a schedule (whole), and there is one.
-/
import Derived.Test.YtcfhnjdaijdoiaaPlain12
namespace Go.Proofs.Ytcfhnjdaijdoiaa

theorem pick_spec (ls : List Ln) (hd : ∀ (i j : Nat) (a b : Ln), i ≠ j → ls[i]? = some a → ls[j]? = some b → a.x.q ≠ b.x.q) : ∀ k,
    (pickTo ls k = -1 ∧ ∀ i ln, i < k → ls[i]? = some ln → ln.q = []) ∨
    ∃ (i : Nat) (ln : Ln), i < k ∧ pickTo ls k = i ∧ ls[i]? = some ln ∧ ln.q ≠ [] ∧ ∀ j y, j < k → j ≠ i → ls[j]? = some y → y.q ≠ [] → ln.x.q < y.x.q
  | 0 => .inl ⟨rfl, fun i _ h => by omega⟩
  | k + 1 => by
    have ih := pick_spec ls hd k
    rw [pickTo]
    cases e : ls[k]? with
    | none =>
      have nk : ∀ i ln, i < k + 1 → ls[i]? = some ln → i < k := by
        intro i ln hi h
        by_cases h2 : i = k
        · subst h2; rw [e] at h; cases h
        · omega
      rcases ih with ⟨h1, h2⟩ | ⟨i, ln, h1, h2, h3, h4, h5⟩
      · exact .inl ⟨h1, fun i ln hi h => h2 i ln (nk i ln hi h) h⟩
      · exact .inr ⟨i, ln, by omega, h2, h3, h4, fun j y hj hne hy => h5 j y (nk j y hj hy) hne hy⟩
    | some lk =>
      simp only
      rcases ih with ⟨h1, h2⟩ | ⟨i, ln, h1, h2, h3, h4, h5⟩
      · by_cases hq : lk.q = []
        · rw [if_neg (by simp [hq])]
          refine .inl ⟨h1, fun i ln hi h => ?_⟩
          by_cases h6 : i = k
          · subst h6; rw [e] at h; cases h; exact hq
          · exact h2 i ln (by omega) h
        · rw [if_pos ⟨hq, .inl (by omega)⟩]
          refine .inr ⟨k, lk, by omega, rfl, e, hq, fun j y hj hne hy hyq => ?_⟩
          exact absurd (h2 j y (by omega) hy) hyq
      · have hi : (pickTo ls k).toNat = i := by omega
        by_cases hcond : lk.q ≠ [] ∧ (pickTo ls k < 0 ∨ ∀ y, ls[(pickTo ls k).toNat]? = some y → lk.x.q < y.x.q)
        · rw [if_pos hcond]
          obtain ⟨hq, hlt⟩ := hcond
          have hlt : lk.x.q < ln.x.q := by
            rcases hlt with h | h
            · omega
            · exact h ln (by rw [hi]; exact h3)
          refine .inr ⟨k, lk, by omega, rfl, e, hq, fun j y hj hne hy hyq => ?_⟩
          by_cases h6 : j = i
          · subst h6
            rw [h3] at hy
            cases hy
            exact hlt
          · have := h5 j y (by omega) h6 hy hyq
            omega
        · rw [if_neg hcond]
          refine .inr ⟨i, ln, by omega, h2, h3, h4, fun j y hj hne hy hyq => ?_⟩
          by_cases h6 : j = k
          · subst h6
            rw [e] at hy
            cases hy
            have h7 : ¬ lk.x.q < ln.x.q := by
              intro h7
              refine hcond ⟨hyq, .inr fun y hy => ?_⟩
              rw [hi, h3] at hy
              cases hy
              exact h7
            have := hd i j ln lk (by omega) h3 e
            omega
          · exact h5 j y (by omega) hne hy hyq

structure SimSpec (l : List Tsk) (T : Nat) (out : List Int) (jobs : List Jb) : Prop where
  len : out.length = T
  keys : jobs.map Jb.key = relSeq l T
  job : ∀ jb ∈ jobs, JobAt l out (nAt l T 0) jb
  sched : Sched l out

theorem pend_line {l : List Tsk} {out : List Int} {ls : List Ln} {jobs : List Jb} {T : Nat} (hl : ∀ x ∈ l, ¬ x.bad) (h : SInv l out (nAt l (T + 1) 0) ls jobs) (hT : out.length = T) {i : Nat} {ln : Ln} (hi : ls[i]? = some ln) : pend l out T i ↔ ln.q ≠ [] := by
  have hx := h.at_ln hi
  have hb := hl _ (List.mem_of_getElem? hx)
  simp only [Tsk.bad, not_or, Int.not_lt] at hb
  have hli := h.line i ln hi
  have hlen := hli.len
  rw [nAt_some hx, if_neg (by omega), hT] at hlen
  have hdiv := Nat.div_lt_iff_lt_mul (x := exN out i T) (y := relN ln.x (T + 1)) (k := ln.x.c.toNat) (by omega)
  constructor
  · rintro ⟨x, e, h2⟩
    rw [hx] at e
    cases e
    rw [Nat.mul_comm] at h2
    have := hdiv.2 h2
    intro e
    rw [e] at hlen
    simp at hlen
    omega
  · intro hq
    refine ⟨ln.x, hx, ?_⟩
    have : 0 < ln.q.length := List.length_pos_iff.2 hq
    rw [Nat.mul_comm]
    exact hdiv.1 (by omega)

theorem sim_inv {l : List Tsk} (hc : check l = 0) : ∀ T, SInv l (simTo l T).2.2 (nAt l T 0) (simTo l T).1 (simTo l T).2.1 ∧ SimSpec l T (simTo l T).2.2 (simTo l T).2.1
  | 0 => by
    obtain ⟨hl, _⟩ := good_of_check hc
    refine ⟨⟨(wf_start l).tasks, ?_, by simp [simTo]⟩, rfl, rfl, by simp [simTo], by intro t r h; simp [simTo] at h⟩
    intro i ln hi
    simp only [simTo, start, List.getElem?_map, Option.map_eq_some_iff] at hi
    obtain ⟨x, hx, rfl⟩ := hi
    simp only [simTo]
    rw [nAt_some hx, if_neg (by omega)]
    refine ⟨?_, ?_, ?_, fun h => absurd rfl h⟩
    · simp [exN, relN]
    · simp [exN]
    · intro s j h; simp at h
  | T + 1 => by
    obtain ⟨hl, h8⟩ := good_of_check hc
    obtain ⟨_, _, hdis⟩ := (check_zero_iff l).1 hc
    obtain ⟨hinv, hspec⟩ := sim_inv hc T
    have hlen := sim_length l T
    obtain ⟨hi2, hk2⟩ := inv_relTo hl hinv hspec.keys l.length
    have hlo := hspec.len
    have hrl := relTo_length T (simTo l T).1 (simTo l T).2.1 l.length
    have hi3 : SInv l (simTo l T).2.2 (nAt l (T + 1) 0) (relTo T (simTo l T).1 (simTo l T).2.1 l.length).1 (relTo T (simTo l T).1 (simTo l T).2.1 l.length).2 := by
      refine hi2.congr fun i x hx => ?_
      rw [nAt_some hx, nAt_some hx, if_pos (List.getElem?_eq_some_iff.1 hx).1, if_neg (by omega)]
    have hkeys : (relTo T (simTo l T).1 (simTo l T).2.1 l.length).2.map Jb.key = relSeq l (T + 1) := hk2
    have hsorted : ((relTo T (simTo l T).1 (simTo l T).2.1 l.length).2.map Jb.key).Pairwise keyLt := by
      rw [hk2]; exact relSeq_sorted l T l.length
    have hdl : ∀ (i j : Nat) (a b : Ln), i ≠ j → (relTo T (simTo l T).1 (simTo l T).2.1 l.length).1[i]? = some a → (relTo T (simTo l T).1 (simTo l T).2.1 l.length).1[j]? = some b → a.x.q ≠ b.x.q := by
      intro i j a b hne ha hb e
      exact hne (hdis.inj (hi3.at_ln ha) (hi3.at_ln hb) e)
    have hpick := pick_spec _ hdl l.length
    have hp : ∀ i ln, (relTo T (simTo l T).1 (simTo l T).2.1 l.length).1[i]? = some ln → (pend l (simTo l T).2.2 T i ↔ ln.q ≠ []) := fun i ln hi => pend_line hl hi3 hlo hi
    have hsch := hspec.sched
    simp only [simTo, stepAt, hlen]
    rw [hlen] at hrl
    generalize relTo T (simTo l T).1 (simTo l T).2.1 l.length = rp at *
    generalize (simTo l T).2.2 = out at *
    obtain ⟨ls, jobs⟩ := rp
    simp only at *
    have has : ∀ i, pend l out T i → ∃ ln, ls[i]? = some ln ∧ i < l.length := by
      rintro i ⟨x, hx, _⟩
      have := (List.getElem?_eq_some_iff.1 hx).1
      exact ⟨ls[i], List.getElem?_eq_getElem (by omega), this⟩
    rcases hpick with ⟨h1, h2⟩ | ⟨i, ln, h1, h2, h3, h4, h5⟩
    · rw [h1, if_pos (by omega)]
      have hidle := hi3.idle (r := -1) (by omega)
      refine ⟨hidle, ?_, hkeys, hidle.job, hsch.snoc ?_⟩
      · simp [hlo]
      · refine .inl ⟨rfl, fun i hi => ?_⟩
        rw [hlo] at hi
        obtain ⟨ln, hln, hlt⟩ := has i hi
        exact (hp i ln hln).1 hi (h2 i ln hlt hln)
    · rw [h2, if_neg (by omega), Int.toNat_natCast]
      obtain ⟨he1, he2⟩ := hi3.exec hl hsorted h3 h4
      rw [hlo] at he1 he2
      refine ⟨he1, ?_, by rw [he2]; exact hkeys, he1.job, hsch.snoc ?_⟩
      · simp [hlo]
      · rw [hlo]
        refine .inr ⟨i, rfl, (hp i ln h3).2 h4, fun j hj hne x y hx hy => ?_⟩
        obtain ⟨lj, hlj, hlt⟩ := has j hj
        have := h5 j lj hlt hne hlj ((hp j lj hlj).1 hj)
        have e1 := hi3.at_ln h3
        have e2 := hi3.at_ln hlj
        rw [hx] at e1
        rw [hy] at e2
        cases e1
        cases e2
        exact this

theorem sim_spec {l : List Tsk} (hc : check l = 0) (T : Nat) : SimSpec l T (simTo l T).2.2 (simTo l T).2.1 := (sim_inv hc T).2

/-! ### There is one -/
theorem StOk.unique {out : List Int} {i lo : Nat} {a b : Int} (h : StOk out i lo a) (h' : StOk out i lo b) : a = b := by
  rcases h with ⟨e, h⟩ | ⟨s, e, h1, h2⟩ <;> rcases h' with ⟨e', h'⟩ | ⟨s', e', h1', h2'⟩
  · rw [e, e']
  · have := exN_mono out i (s' + 1) out.length (by have := (List.getElem?_eq_some_iff.1 h1').1; omega)
    rw [exN_succ i h1', if_pos rfl] at this
    omega
  · have := exN_mono out i (s + 1) out.length (by have := (List.getElem?_eq_some_iff.1 h1).1; omega)
    rw [exN_succ i h1, if_pos rfl] at this
    omega
  · rcases Nat.lt_trichotomy s s' with g | g | g
    · have := exN_mono out i (s + 1) s' g
      rw [exN_succ i h1, if_pos rfl] at this
      omega
    · rw [e, e', g]
    · have := exN_mono out i (s' + 1) s g
      rw [exN_succ i h1', if_pos rfl] at this
      omega

theorem FinOk.unique {out : List Int} {i hi : Nat} {a b : Int} (h : FinOk out i hi a) (h' : FinOk out i hi b) : a = b := by
  rcases h with ⟨e, h⟩ | ⟨s, e, h1, h2⟩ <;> rcases h' with ⟨e', h'⟩ | ⟨s', e', h1', h2'⟩
  · rw [e, e']
  · have := exN_mono out i (s' + 1) out.length (by have := (List.getElem?_eq_some_iff.1 h1').1; omega)
    omega
  · have := exN_mono out i (s + 1) out.length (by have := (List.getElem?_eq_some_iff.1 h1).1; omega)
    omega
  · rcases Nat.lt_trichotomy s s' with g | g | g
    · have := exN_mono out i (s + 1) s' g
      rw [exN_succ i h1', if_pos rfl] at h2'
      omega
    · rw [e, e', g]
    · have := exN_mono out i (s' + 1) s g
      rw [exN_succ i h1, if_pos rfl] at h2
      omega

theorem JobAt.unique {l : List Tsk} (hl : ∀ x ∈ l, ¬ x.bad) {out : List Int} {N N' : Nat → Nat} {a b : Jb} (h : JobAt l out N a) (h' : JobAt l out N' b) (e : a.key = b.key) : a = b := by
  obtain ⟨i, x, m, h1, h2, h3, _, h5, h6⟩ := h
  obtain ⟨i', x', m', h1', h2', h3', _, h5', h6'⟩ := h'
  unfold Jb.key at e
  simp only [Prod.mk.injEq] at e
  obtain rfl : i = i' := by omega
  rw [h1] at h1'
  cases h1'
  have hb := hl _ (List.mem_of_getElem? h1)
  simp only [Tsk.bad, not_or, Int.not_lt] at hb
  have hm : m = m' := by
    have h7 : (m : Int) * x.p = (m' : Int) * x.p := by omega
    have := Int.mul_eq_mul_right_iff (show x.p ≠ 0 by omega) |>.1 h7
    exact_mod_cast this
  subst hm
  have e1 := h5.unique h5'
  have e2 := h6.unique h6'
  cases a
  cases b
  simp only at *
  simp [e.1, e.2, e1, e2]

theorem SimSpec.unique {l : List Tsk} (hl : ∀ x ∈ l, ¬ x.bad) {T : Nat} {out out' : List Int} {jobs jobs' : List Jb} (h : SimSpec l T out jobs) (h' : SimSpec l T out' jobs') : out = out' ∧ jobs = jobs' := by
  have e := h.sched.unique h'.sched (by rw [h.len, h'.len])
  subst e
  refine ⟨rfl, ?_⟩
  have hk : jobs.map Jb.key = jobs'.map Jb.key := by rw [h.keys, h'.keys]
  have hlen : jobs.length = jobs'.length := by simpa using congrArg List.length hk
  apply List.ext_getElem?
  intro J
  by_cases hJ : J < jobs.length
  · have e1 := List.getElem?_eq_getElem hJ
    have e2 := List.getElem?_eq_getElem (show J < jobs'.length by omega)
    rw [e1, e2]
    have hkJ := congrArg (·[J]?) hk
    simp only [List.getElem?_map, e1, e2, Option.map_some, Option.some.injEq] at hkJ
    rw [JobAt.unique hl (h.job _ (List.getElem_mem hJ)) (h'.job _ (List.getElem_mem (show J < jobs'.length by omega))) hkJ]
  · rw [List.getElem?_eq_none (by omega), List.getElem?_eq_none (by omega)]
end Go.Proofs.Ytcfhnjdaijdoiaa
