/-
  The reference's simulation in the midst of a unit; its jobs are few.
-/
import Derived.Test.YtcfhnjdaijdoiaaPlain15
namespace Go.Proofs.Ytcfhnjdaijdoiaa

theorem relAt_len (l : List Tsk) (t : Nat) : ∀ k, (relAt l t k).length ≤ k
  | 0 => by simp [relAt]
  | k + 1 => by
    have ih := relAt_len l t k
    rw [relAt, List.length_append]
    split
    · simp; omega
    · split <;> simp <;> omega

theorem relSeq_len (l : List Tsk) (h8 : l.length ≤ 8) : ∀ T, (relSeq l T).length ≤ 8 * T
  | 0 => by simp [relSeq]
  | T + 1 => by
    have ih := relSeq_len l h8 T
    have := relAt_len l T l.length
    rw [relSeq, List.length_append]
    omega

/-- What is known of the reference's state. -/
structure RMid (l : List Tsk) (B : Nat) (jobs : List Jb) (left : List Int) : Prop where
  len : left.length = jobs.length
  few : jobs.length ≤ B
  job : ∀ (J : Nat) (jb : Jb), jobs[J]? = some jb → ∃ (i : Nat) (x : Tsk), jb.k = i ∧ l[i]? = some x
  left : ∀ (J : Nat) (f : Int), left[J]? = some f → 0 ≤ f ∧ f ≤ 4096

theorem RInv.mid {l : List Tsk} {out : List Int} {N : Nat → Nat} {jobs : List Jb} {left : List Int} (h : RInv l out N jobs left) (hl : ∀ x ∈ l, ¬ x.bad) {B : Nat} (hB : jobs.length ≤ B) : RMid l B jobs left := by
  refine ⟨h.len, hB, fun J jb hJ => ?_, fun J f hf => ?_⟩
  · obtain ⟨i, x, m, h1, h2, _⟩ := h.job jb (List.mem_of_getElem? hJ)
    exact ⟨i, x, h2, h1⟩
  · have hlt := (List.getElem?_eq_some_iff.1 hf).1
    rw [h.len] at hlt
    obtain ⟨i, x, m, h1, h2, h3, h4⟩ := h.left J _ f (List.getElem?_eq_getElem hlt) hf
    have hb := hl x (List.mem_of_getElem? h1)
    simp only [Tsk.bad, not_or, Int.not_lt] at hb
    omega

theorem ref_mid {l : List Tsk} (hc : check l = 0) (t k : Nat) (hk : k ≤ l.length) : RMid l (8 * t + 8) (rrel l t ((refTo l t).1, (refTo l t).2.1) k).1 (rrel l t ((refTo l t).1, (refTo l t).2.1) k).2 := by
  obtain ⟨hl, h8⟩ := good_of_check hc
  obtain ⟨hinv, hspec⟩ := ref_inv hc t
  obtain ⟨h1, h2⟩ := inv_rrel hl hinv hspec.keys k
  refine h1.mid hl ?_
  have := congrArg List.length h2
  rw [List.length_map, List.length_append] at this
  have a := relSeq_len l h8 t
  have b := relAt_len l t k
  omega

theorem rrel_step {l : List Tsk} {t : Int} {s : List Jb × List Int} {k : Nat} {x : Tsk} (hx : l[k]? = some x) :
    rrel l t s (k + 1) = if due t x then ((rrel l t s k).1 ++ [⟨k, t, -1, -1⟩], (rrel l t s k).2 ++ [x.c]) else rrel l t s k := by
  rw [rrel, hx]

theorem rpick_step {l : List Tsk} {jobs : List Jb} {left : List Int} {k : Nat} {j : Jb} {f : Int} (hj : jobs[k]? = some j) (hf : left[k]? = some f) :
    rpick l jobs left (k + 1) = if 0 < f ∧ (rpick l jobs left k < 0 ∨ ∀ y, jobs[(rpick l jobs left k).toNat]? = some y → prio l j < prio l y) then (k : Int) else rpick l jobs left k := by
  rw [rpick, hj, hf]

theorem rpick_range (l : List Tsk) (jobs : List Jb) (left : List Int) : ∀ k, -1 ≤ rpick l jobs left k ∧ rpick l jobs left k < k
  | 0 => by simp [rpick]
  | k + 1 => by
    have ih := rpick_range l jobs left k
    rw [rpick]
    split
    · split <;> omega
    · omega

theorem ref_next {l : List Tsk} {t n : Nat} {js ja : List Jb} {lf la : List Int} {os : List Int} {a : Int} (h : refTo l t = (js, lf, os)) (hn : l.length = n) (hr : rrel l t (js, lf) n = (ja, la)) (hp : rpick l ja la ja.length = a) :
    refTo l (t + 1) = if a < 0 then (ja, la, os ++ [-1]) else match ja[a.toNat]?, la[a.toNat]? with
      | some j, some f => (ja.set a.toNat { j with st := if j.st < 0 then (t : Int) else j.st, fin := if f - 1 = 0 then (t : Int) + 1 else j.fin }, la.set a.toNat (f - 1), os ++ [j.k])
      | _, _ => (ja, la, os ++ [-1]) := by
  simp only [refTo, rstep, h, hn, hr, hp]
  split <;> rfl
end Go.Proofs.Ytcfhnjdaijdoiaa
