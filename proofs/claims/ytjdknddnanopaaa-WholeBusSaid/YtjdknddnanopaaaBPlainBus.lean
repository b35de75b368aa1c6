/-
  Values that are read, packed and unpacked; no program in sight.
-/
import Derived.Test.YtjdknddnanopaaaBPlain11
import Derived.Test.YtjdknddnanopaaaBPlain10
namespace Go.Proofs.Ytjdknddnanopaaa.Bus

/-- The value of an item's object. -/
def valO (l : List Ob) (x : It) : Int := (getO l x.i x.s).1

/-- A mapping that is checked is found without a check; and what is found. -/
theorem pick_more {l : List Ob} {chk : Nat → Ob → Int} : ∀ {m : List It} {k : Nat} {acc f : List Ob}, pick l chk k m acc = (f, 0) →
    pick l noChk k m acc = (f, 0) ∧ (∀ x ∈ m, ∃ (p : Nat) (y : Ob), locO l x.i x.s = some p ∧ l[p]? = some y) ∧ ∃ g, f = acc ++ g ∧ m.map (valO l) = g.map Ob.v
  | [], k, acc, f, h => by
    have h0 := h
    rw [pick] at h
    refine ⟨by rw [pick]; exact h, by simp, ?_⟩
    split at h
    · simp at h
    · simp at h
      exact ⟨[], by simp [h], rfl⟩
  | x :: m, k, acc, f, h => by
    rw [pick] at h
    rw [pick]
    cases hp : locO l x.i x.s with
    | none =>
      rw [hp] at h
      simp only [Prod.mk.injEq] at h
      exact absurd h.2 (ferr_ne _ _)
    | some p =>
      rw [hp] at h
      obtain ⟨y, hy, _⟩ := locO_some hp
      simp only [getD_of hy] at h ⊢
      split at h
      · rename_i hc
        simp only [Prod.mk.injEq] at h
        exact absurd h.2 hc
      · obtain ⟨e1, e2, g, rfl, e3⟩ := pick_more h
        refine ⟨by rw [if_neg (by simp [noChk])]; exact e1, fun z hz => ?_, y :: g, by simp, ?_⟩
        · rcases List.mem_cons.1 hz with rfl | hz
          · exact ⟨p, y, hp, hy⟩
          · exact e2 z hz
        · rw [List.map_cons, List.map_cons, e3]
          congr 1
          unfold valO getO
          rw [hp]
          simp only [getD_of hy]

theorem bus_found {l : List Ob} {chk : Nat → Ob → Int} {m : List It} {f : List Ob} (h : findM l chk m = (f, 0)) :
    findM l noChk m = (f, 0) ∧ (∀ x ∈ m, ∃ (p : Nat) (y : Ob), locO l x.i x.s = some p ∧ l[p]? = some y) ∧ m.map (valO l) = f.map Ob.v := by
  unfold findM at h ⊢
  split at h
  · rename_i hc
    simp only [Prod.mk.injEq] at h
    exact absurd h.2 hc
  · rename_i hc
    rw [if_neg hc]
    split at h
    · simp at h
    · rename_i hm
      rw [if_neg hm]
      obtain ⟨a, b, g, c, d⟩ := pick_more h
      exact ⟨a, b, by rw [d, c]; simp⟩

theorem fit_self {l : List Ob} : ∀ (f : List Ob), (∀ x ∈ f, x.lo ≤ x.v ∧ x.v ≤ x.hi) → fitV f (f.map Ob.v) = true
  | [], _ => by simp [fitV]
  | x :: f, h => by
    simp only [List.map_cons, fitV, Bool.and_eq_true, decide_eq_true_eq]
    exact ⟨h x (by simp), fit_self (l := l) f (fun y hy => h y (by simp [hy]))⟩

theorem in_limits {l : List Ob} (h : checkO l = 0) : ∀ x ∈ l, x.lo ≤ x.v ∧ x.v ≤ x.hi := by
  intro x hx
  have := ((fine_of h).each x hx).2.2.2
  unfold Ob.wide at this
  omega

theorem bus_pack {l : List Ob} {m : List It} {chk : Nat → Ob → Int} (h : (findM l chk m).2 = 0) :
    ∃ b, packO l m (m.map (valO l)) = (b, 0) ∧ b.length ≤ 32 ∧ Bytes b := by
  obtain ⟨f, e⟩ : ∃ f, (findM l chk m).1 = f := ⟨_, rfl⟩
  have hf : findM l chk m = (f, 0) := Prod.ext e h
  obtain ⟨c1, c2, c3, c4, c5⟩ := findM_ok hf
  obtain ⟨a, _, hv⟩ := bus_found hf
  have hfit := fit_self (l := l) f (fun x hx => in_limits c1 x (c4 x hx))
  refine ⟨packB (laidB f (f.map Ob.v)) ((sumB f + 7) / 8), ?_, ?_, ?_⟩
  · unfold packO packQ
    rw [a, hv]
    simp only
    rw [if_neg (by simp), if_neg (by simp), if_neg (by simp [hfit])]
  · rw [packB_length]; omega
  · exact packB_range (laidB_bin f _) _

theorem bus_get {l : List Ob} {m : List It} {chk : Nat → Ob → Int} (h : (findM l chk m).2 = 0) {x : It} (hx : x ∈ m) : getO l x.i x.s = (valO l x, 0) ∧ (setO l x.i x.s (valO l x)).2 = 0 := by
  obtain ⟨f, e⟩ : ∃ f, (findM l chk m).1 = f := ⟨_, rfl⟩
  have hf : findM l chk m = (f, 0) := Prod.ext e h
  obtain ⟨c1, _⟩ := findM_ok hf
  obtain ⟨_, b, _⟩ := bus_found hf
  obtain ⟨p, y, hp, hy⟩ := b x hx
  have hl := in_limits c1 y (List.mem_of_getElem? hy)
  have hv : valO l x = y.v := by
    unfold valO getO
    rw [hp]
    simp only [getD_of hy]
  constructor
  · unfold valO getO
    rw [hp]
  · unfold setO
    rw [hp, hv]
    simp only [getD_of hy]
    rw [if_neg (by omega)]
end Go.Proofs.Ytjdknddnanopaaa.Bus
