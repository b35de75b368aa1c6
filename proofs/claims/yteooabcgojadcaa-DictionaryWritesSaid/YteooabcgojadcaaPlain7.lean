/-
  What a write does to each object. No program in sight.
-/
import Derived.Test.YteooabcgojadcaaPlain6
import Derived.Test.YteooabcgojadcaaPlain4
namespace Go.Proofs.Yteooabcgojadcaa

theorem writeO_out (l : List Ob) (i s : Int) (b : List Int) (en : Bool) : ((writeO l i s b en).2 ≠ 0 ∧ (writeO l i s b en).1 = l) ∨
    ∃ p x z, locO l i s = some p ∧ l[p]? = some x ∧ x.a ≠ 0 ∧ (x.hd && en) = false ∧ numO x.t b = (z, 0) ∧ writeO l i s b en = (l.set p (x.with z), 0) := by
  unfold writeO
  cases e : locO l i s with
  | none => exact .inl ⟨ferr_ne' l i, rfl⟩
  | some p =>
    obtain ⟨x, hx, _⟩ := locO_some e
    simp only [getD_of hx]
    split
    · exact .inl ⟨by simp, rfl⟩
    · rename_i ha
      split
      · exact .inl ⟨by simp, rfl⟩
      · rename_i hh
        split
        · rename_i hq
          exact .inl ⟨hq, rfl⟩
        · rename_i hq
          simp only [ne_eq, Decidable.not_not] at hq
          unfold setO
          rw [e]
          simp only [getD_of hx]
          split
          · exact .inl ⟨by simp, rfl⟩
          · exact .inr ⟨p, x, (numO x.t b).1, rfl, hx, ha, by simpa using hh, Prod.ext rfl hq, rfl⟩
where ferr_ne' (l : List Ob) (i : Int) : ferr l i ≠ 0 := by unfold ferr; split <;> omega

theorem write_each {l l' : List Ob} (hl : Fine l) {i s : Int} {b : List Int} {en : Bool} {code : Int} (hr : ∀ x ∈ b, 0 ≤ x ∧ x < 256) (h : writeO l i s b en = (l', code)) {j : Nat} {y : Ob} (hy : l[j]? = some y) :
    (code ≠ 0 ∧ l' = l) ∨ (code = 0 ∧ ¬ (y.i = i ∧ y.s = s) ∧ l'[j]? = some y) ∨
    (code = 0 ∧ y.i = i ∧ y.s = s ∧ ∃ z, l'[j]? = some (y.with z) ∧ numO y.t b = (z, 0) ∧ getO l' i s = (z, 0) ∧ y.a ≠ 0 ∧ (y.hd && en) = false ∧ (y.a = 2 → readO l' i s = ([], 21)) ∧ (y.a ≠ 2 → readO l' i s = (b, 0))) := by
  rcases writeO_out l i s b en with ⟨h1, h2⟩ | ⟨p, x, z, hp, hx, ha, hh, hn, hw⟩
  · rw [h] at h1 h2
    exact .inl ⟨h1, h2⟩
  · rw [h] at hw
    simp only [Prod.mk.injEq] at hw
    obtain ⟨rfl, rfl⟩ := hw
    right
    obtain ⟨x', hx', k1, k2⟩ := locO_some hp
    rw [hx] at hx'
    have hxx : x = x' := by simpa using hx'
    subst hxx
    by_cases e : p = j
    · subst e
      rw [hx] at hy
      have hxy : x = y := by simpa using hy
      subst hxy
      have hlt := (List.getElem?_eq_some_iff.1 hx).1
      have hat : (l.set p (x.with z))[p]? = some (x.with z) := by rw [List.getElem?_set, if_pos rfl, if_pos hlt]
      have hloc : locO (l.set p (x.with z)) i s = some p := by rw [locO_set hx]; exact hp
      refine .inr ⟨rfl, k1, k2, z, hat, hn, ?_, ha, hh, fun h2 => ?_, fun h2 => ?_⟩
      · unfold getO
        rw [hloc]
        simp only [getD_of hat]
        rfl
      · unfold readO
        rw [hloc]
        simp only [getD_of hat]
        exact if_pos h2
      · unfold readO
        rw [hloc]
        simp only [getD_of hat]
        refine (if_neg h2).trans ?_
        have := back_num x.t b hr (by rw [hn])
        rw [hn] at this
        exact this
    · refine .inl ⟨rfl, fun hk => e ?_, ?_⟩
      · exact hl.inj hx hy (by rw [k1, hk.1]) (by rw [k2, hk.2])
      · rw [List.getElem?_set, if_neg e]
        exact hy
end Go.Proofs.Yteooabcgojadcaa
