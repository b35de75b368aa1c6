/-
  An opened store is sound. No program in sight.
-/
import Derived.Test.YtfeceamhlphelaaPlainD
import Derived.Test.YtfeceamhlphelaaW51
namespace Go.Proofs.Ytfeceamhlphelaa
open Go.RowKit
set_option linter.unusedVariables false

theorem legal_vals {sp : List Par} {v : List Int} (hs : ∀ p ∈ sp, p.ok) (hv : ∀ x ∈ v, I64 x) : ∀ x ∈ legal sp v, I64 x := by
  intro x hx
  unfold legal at hx
  rw [List.mem_iff_getElem?] at hx
  obtain ⟨i, hi⟩ := hx
  rw [List.getElem?_zipWith] at hi
  cases hp : sp[i]? with
  | none => rw [hp] at hi; simp at hi
  | some p =>
    cases hx : v[i]? with
    | none => rw [hp, hx] at hi; simp at hi
    | some y =>
      rw [hp, hx] at hi
      simp at hi
      subst hi
      unfold legalP
      split
      · exact hv y (List.mem_of_getElem? hx)
      · exact (hs p (List.mem_of_getElem? hp)).d

/-- What holds all through the search. -/
structure Sch (f : Fl) (fi bl : Nat) (sp : List Par) (s : St) : Prop where
  kp : Kp (initS fi bl sp) s
  sv : s.saved.length = sp.length
  si : ∀ x ∈ s.saved, I64 x
  q1 : 0 ≤ s.seq
  q2 : s.seq ≤ 1099511627776
  b : s.block < bl
  s1 : -1 ≤ s.slot
  s2 : s.slot < ((f.pg / pgs sp.length : Nat) : Int)
  re : s.broken = false ∧ s.pages = [] ∧ s.values = [] ∧ s.dest = 0 ∧ s.toSlot = 0 ∧ s.done = 0 ∧ s.erase = false ∧ s.busy = false

theorem Sch.init {f : Fl} {fi bl : Nat} {sp : List Par} (hs : ∀ p ∈ sp, p.ok) (hb : 1 ≤ bl) : Sch f fi bl sp (initS fi bl sp) :=
  ⟨.refl _, by simp [initS], (by
    intro x hx
    simp only [initS, List.mem_map] at hx
    obtain ⟨p, hp, rfl⟩ := hx
    exact (hs p hp).d), by simp [initS], by simp [initS], by simp only [initS]; omega, by simp [initS], by simp only [initS]; generalize f.pg / pgs sp.length = T; omega, ⟨rfl, rfl, rfl, rfl, rfl, rfl, rfl, rfl⟩⟩
theorem Sch.step {f : Fl} {fi bl : Nat} {sp : List Par} {s : St} (hs : ∀ p ∈ sp, p.ok) (h : Sch f fi bl sp s) {b j : Nat} (hb : b < bl) (hj : j < f.pg / pgs sp.length) : Sch f fi bl sp (openStep f s b j) := by
  have hk := h.kp.trans (openStep_kp f s b j)
  obtain ⟨d, hd⟩ : ∃ d, decP (pagesF f (pageS s f b j) s.k) = d := ⟨_, rfl⟩
  have hsp : s.spec = sp := h.kp.s
  by_cases hc : d.2.2 ≠ 0 ∨ d.2.1.length ≠ s.spec.length ∨ d.1 ≤ s.seq
  · rw [openStep_no hd hc]
    exact h
  · rw [openStep_yes hd hc] at hk ⊢
    have h0 : d.2.2 = 0 := by omega
    have hl : d.2.1.length = s.spec.length := by omega
    have hok := decP_ok (ps := pagesF f (pageS s f b j) s.k) (by rw [hd]; exact h0)
    rw [hd] at hok
    obtain ⟨e1, e2, e3, e4⟩ := encE_zero hok.2.1
    have hv : ∀ x ∈ d.2.1, I64 x := by rw [← hd]; exact decP_vals _
    exact ⟨hk, by simp only; rw [legal_length (by rw [hl]), hsp], legal_vals (by rw [hsp]; exact hs) hv, by simp only; omega, by simp only; omega, hb, by simp only; omega, by simp only; exact Int.ofNat_lt.2 hj, h.re⟩
theorem Sch.row {f : Fl} {fi bl : Nat} {sp : List Par} {s : St} (hs : ∀ p ∈ sp, p.ok) (h : Sch f fi bl sp s) {b n : Nat} (hb : b < bl) (hn : n ≤ f.pg / pgs sp.length) : Sch f fi bl sp (openRow f b s n) := by
  induction n with
  | zero => exact h
  | succ n ih => rw [openRow_succ]; exact (ih (by omega)).step hs hb (by omega)
theorem Sch.all {f : Fl} {fi bl : Nat} {sp : List Par} {s : St} (hs : ∀ p ∈ sp, p.ok) (h : Sch f fi bl sp s) {m : Nat} (hm : m ≤ bl) : Sch f fi bl sp (openAll f (f.pg / pgs sp.length) s m) := by
  induction m with
  | zero => exact h
  | succ m ih => rw [openAll_succ]; exact (ih (by omega)).row hs (by omega) (Nat.le_refl _)
theorem openF_sch {f : Fl} {fi bl : Nat} {sp : List Par} (hs : ∀ p ∈ sp, p.ok) (he : openE f fi bl sp = 0) :
    Sch f fi bl sp (openAll f (f.pg / pgs sp.length) (initS fi bl sp) bl) := by
  obtain ⟨hd, b2, b16, f0, f1, n1, n48, hbad, hkp⟩ := openE_zero he
  exact (Sch.init hs (by omega)).all hs (Nat.le_refl _)
theorem openF_ok {f : Fl} {fi bl : Nat} {sp : List Par} (hs : ∀ p ∈ sp, p.ok) (he : openE f fi bl sp = 0) : StOk f (openF f fi bl sp) := by
  obtain ⟨hd, b2, b16, f0, f1, n1, n48, hbad, hkp⟩ := openE_zero he
  have h := openF_sch hs he
  unfold openF
  simp only
  generalize openAll f (f.pg / pgs sp.length) (initS fi bl sp) bl = s at *
  have hsp : s.spec = sp := h.kp.s
  have hbl : s.blocks = bl := h.kp.b
  have hfi : s.first = fi := h.kp.f
  obtain ⟨r1, r2, r3, r4, r5, r6, r7, r8⟩ := h.re
  have hsl : 1 ≤ f.pg / pgs sp.length := (Nat.le_div_iff_mul_le (pgs_pos n1)).2 (by omega)
  exact ⟨by simp only [hsp]; exact n1, by simp only [hsp]; exact n48, by simp only [hsp]; exact hs, by simp only [hbl]; omega, by simp only [hbl]; omega, by simp only [hbl, hfi]; omega, by unfold St.k; simp only [hsp]; exact hkp,
    by simp only [hsp]; exact h.sv, by simp only [hsp]; exact h.sv, .inr r8, h.si, h.si, by simp only [r3]; simp, h.q1, h.q2, by simp only [hbl]; exact h.b, h.s1, by unfold slotsS St.k; simp only [hsp]; exact h.s2,
    by simp only [r8]; simp, by simp only [r2]; simp, by simp only [r4, hbl]; omega, by unfold slotsS St.k; simp only [r5, hsp]; exact hsl, by simp only [r8]; simp, by simp only [r6]; exact Nat.zero_le _, by simp only [r8]; simp⟩
end Go.Proofs.Ytfeceamhlphelaa
