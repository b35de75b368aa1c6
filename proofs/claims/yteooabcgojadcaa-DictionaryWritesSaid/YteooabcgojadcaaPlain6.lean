/-
  Objects whose values change within their limits. No program in sight.
-/
import Derived.Test.YteooabcgojadcaaPlain5
namespace Go.Proofs.Yteooabcgojadcaa

theorem checkFrom_of : ∀ (r : List Ob) (p : Option Ob), (∀ x ∈ r, ¬ x.far ∧ (kindOf x.t).n ≠ 0 ∧ ¬ x.odd ∧ ¬ x.wide) → (∀ y x, p = some y → r[0]? = some x → ¬ y.back x) →
    (∀ (k : Nat) (y x : Ob), r[k]? = some y → r[k + 1]? = some x → ¬ y.back x) → checkFrom p r = 0
  | [], _, _, _, _ => rfl
  | x :: r, p, h1, h2, h3 => by
    obtain ⟨a, b, c, d⟩ := h1 x (by simp)
    have hb : ¬ backO p x := by
      cases p with
      | none => exact fun h => h
      | some y => exact h2 y x rfl rfl
    rw [checkFrom, if_neg a, if_neg hb, if_neg b, if_neg c, if_neg d]
    refine checkFrom_of r (some x) (fun y hy => h1 y (by simp [hy])) (fun y z hy hz => ?_) (fun k y z hy hz => h3 (k + 1) y z (by simpa using hy) (by simpa using hz))
    cases hy
    exact h3 0 x z rfl (by simpa using hz)

theorem check_of_fine {l : List Ob} (h : Fine l) : checkO l = 0 := by
  unfold checkO
  rw [if_neg (by have := h.few; omega)]
  exact checkFrom_of l none h.each (fun y x hy => by cases hy) h.next

/-- The same objects with other values, within their limits. -/
structure Like (l l' : List Ob) : Prop where
  len : l'.length = l.length
  each : ∀ (k : Nat) (x x' : Ob), l[k]? = some x → l'[k]? = some x' → x' = x.with x'.v ∧ x.lo ≤ x'.v ∧ x'.v ≤ x.hi

theorem Fine.lim {l : List Ob} (h : Fine l) {x : Ob} (hx : x ∈ l) : x.lo ≤ x.v ∧ x.v ≤ x.hi := by
  obtain ⟨_, _, _, d⟩ := h.each x hx
  unfold Ob.wide at d
  omega

theorem Like.refl {l : List Ob} (h : Fine l) : Like l l := ⟨rfl, fun k x x' hx hx' => by
  rw [hx] at hx'
  cases hx'
  exact ⟨rfl, h.lim (List.mem_of_getElem? hx)⟩⟩

theorem Like.at {l l' : List Ob} (h : Like l l') {k : Nat} {x' : Ob} (hx : l'[k]? = some x') : ∃ x, l[k]? = some x ∧ x' = x.with x'.v ∧ x.lo ≤ x'.v ∧ x'.v ≤ x.hi := by
  have hk := (List.getElem?_eq_some_iff.1 hx).1
  obtain ⟨x, hx0⟩ := getElem?_of_lt (l := l) (k := k) (by rw [← h.len]; exact hk)
  exact ⟨x, hx0, h.each k x x' hx0 hx⟩

theorem Like.set {l l' : List Ob} (h : Like l l') {p : Nat} {x' : Ob} (hx : l'[p]? = some x') {v : Int} (h1 : x'.lo ≤ v) (h2 : v ≤ x'.hi) : Like l (l'.set p (x'.with v)) := by
  refine ⟨by rw [List.length_set]; exact h.len, fun k x y hk hy => ?_⟩
  rw [List.getElem?_set] at hy
  split at hy
  · rename_i e
    subst e
    split at hy
    · cases hy
      obtain ⟨e1, _, _⟩ := h.each p x x' hk hx
      rw [e1] at h1 h2 ⊢
      exact ⟨rfl, h1, h2⟩
    · cases hy
  · exact h.each k x y hk hy

theorem setO_cases (l : List Ob) (i s v : Int) : (setO l i s v).1 = l ∨ ∃ p x, l[p]? = some x ∧ x.lo ≤ v ∧ v ≤ x.hi ∧ (setO l i s v).1 = l.set p (x.with v) := by
  unfold setO
  cases e : locO l i s with
  | none => exact .inl rfl
  | some p =>
    obtain ⟨x, hx, _⟩ := locO_some e
    simp only [getD_of hx]
    split
    · exact .inl rfl
    · exact .inr ⟨p, x, hx, by omega, by omega, rfl⟩

theorem writeO_cases (l : List Ob) (i s : Int) (b : List Int) (en : Bool) : (writeO l i s b en).1 = l ∨ ∃ v, (writeO l i s b en).1 = (setO l i s v).1 := by
  unfold writeO
  cases e : locO l i s with
  | none => exact .inl rfl
  | some p =>
    simp only
    split
    · exact .inl rfl
    · split
      · exact .inl rfl
      · split
        · exact .inl rfl
        · exact .inr ⟨_, rfl⟩

theorem Like.setO {l l' : List Ob} (h : Like l l') (i s v : Int) : Like l (setO l' i s v).1 := by
  rcases setO_cases l' i s v with e | ⟨p, x, hx, h1, h2, e⟩
  · rw [e]; exact h
  · rw [e]; exact h.set hx h1 h2

theorem Like.writeO {l l' : List Ob} (h : Like l l') (i s : Int) (b : List Int) (en : Bool) : Like l (writeO l' i s b en).1 := by
  rcases writeO_cases l' i s b en with e | ⟨v, e⟩
  · rw [e]; exact h
  · rw [e]; exact h.setO i s v

theorem Like.fine {l l' : List Ob} (hl : Fine l) (h : Like l l') : Fine l' := by
  refine ⟨by rw [h.len]; exact hl.few, fun x' hx' => ?_, fun k y x hy hx => ?_⟩
  · obtain ⟨k, hk⟩ := List.getElem?_of_mem hx'
    obtain ⟨x, hx, e, h1, h2⟩ := h.at hk
    obtain ⟨a, b, c, d⟩ := hl.each x (List.mem_of_getElem? hx)
    rw [e]
    refine ⟨a, b, c, ?_⟩
    unfold Ob.wide at d ⊢
    simp only [Ob.with]
    omega
  · obtain ⟨y0, hy0, ey, _⟩ := h.at hy
    obtain ⟨x0, hx0, ex, _⟩ := h.at hx
    have := hl.next k y0 x0 hy0 hx0
    rw [ey, ex]
    exact this

theorem setO_len (l : List Ob) (i s v : Int) : (setO l i s v).1.length = l.length := by
  rcases setO_cases l i s v with e | ⟨p, x, hx, h1, h2, e⟩
  · rw [e]
  · rw [e, List.length_set]
theorem writeO_len (l : List Ob) (i s : Int) (b : List Int) (en : Bool) : (writeO l i s b en).1.length = l.length := by
  rcases writeO_cases l i s b en with e | ⟨v, e⟩
  · rw [e]
  · rw [e, setO_len]
end Go.Proofs.Yteooabcgojadcaa
