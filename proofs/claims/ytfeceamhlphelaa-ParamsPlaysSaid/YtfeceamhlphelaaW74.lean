/-
  The reference of layer 51: Open, one contract.
-/
import Derived.Test.YtfeceamhlphelaaW72
import Derived.Test.YtfeceamhlphelaaW73
namespace Go.Proofs.Ytfeceamhlphelaa
open Go.RowKit
set_option linter.unusedVariables false
set_option linter.unusedSimpArgs false

/-- The reference's Open, one contract. -/
theorem open_r {X : Nat → Prop} {w : World} {x : Rc} {g : Fl} (h : RAt X w x g) (hX : ∀ b, X b → b < w.heap.size) (fi bl : Int) (hf : I64 fi) (hb : I64 bl) (A : Option Addr) (n c : Nat) (sp : List Par) (hA : Rd w w.heap.size A (pcells sp)) (hsl : sp.length = n) (hnc : n ≤ c) (hcm : c ≤ maxLen) (hok : ∀ p ∈ sp, p.ok) :
    Calls Try.prog 65 #[x.v g, .int .i64 fi, .int .i64 bl, .slice A n c] w fun e w' => ∃ v, e = .returned (.tuple #[v, .int .i64 (openE g fi bl sp)]) ∧ Below w.heap.size w w' ∧ (openE g fi bl sp = 0 → RsO X w' v (openF g fi.toNat bl.toNat sp)) ∧ (openE g fi bl sp ≠ 0 → v = zeroS) := by
  have hnm : n ≤ maxLen := Nat.le_trans hnc hcm
  have no : ∀ k : Int, openE g fi bl sp = k → k ≠ 0 → ((g.down = true ∧ k = 20) ∨ (g.down = false ∧ ((bl < 2 ∧ k = 3) ∨ (¬ bl < 2 ∧ 16 < bl ∧ k = 3) ∨ (¬ bl < 2 ∧ ¬ 16 < bl ∧ ((fi < 0 ∧ k = 10) ∨ (¬ fi < 0 ∧ (g.wear.length : Int) - bl < fi ∧ k = 10) ∨ (¬ fi < 0 ∧ ¬ (g.wear.length : Int) - bl < fi ∧ ((n < 1 ∧ k = 3) ∨ (¬ n < 1 ∧ 48 < n ∧ k = 3)))))))) →
      Calls Try.prog 65 #[x.v g, .int .i64 fi, .int .i64 bl, .slice A n c] w fun e w' => ∃ v, e = .returned (.tuple #[v, .int .i64 (openE g fi bl sp)]) ∧ Below w.heap.size w w' ∧ (openE g fi bl sp = 0 → RsO X w' v (openF g fi.toNat bl.toNat sp)) ∧ (openE g fi bl sp ≠ 0 → v = zeroS) := by
    intro k he hk hd
    refine (open_r0 h fi bl A n c hnm hb.2 k hd).mono ?_
    rintro e w' ⟨rfl, hbl⟩
    exact ⟨zeroS, by rw [he], hbl, fun h => absurd (he.symm.trans h) hk, fun _ => rfl⟩
  by_cases hd : g.down = true
  · exact no 20 (by unfold openE; rw [if_pos hd]) (by decide) (.inl ⟨hd, rfl⟩)
  have hd' : g.down = false := by simpa using hd
  by_cases h1 : bl < 2 ∨ 16 < bl
  · refine no 3 (by unfold openE; rw [if_neg hd, if_pos h1]) (by decide) (.inr ⟨hd', ?_⟩)
    by_cases h2 : bl < 2
    · exact .inl ⟨h2, rfl⟩
    · exact .inr (.inl ⟨h2, by omega, rfl⟩)
  by_cases h2 : fi < 0 ∨ (g.wear.length : Int) - bl < fi
  · refine no 10 (by unfold openE; rw [if_neg hd, if_neg h1, if_pos h2]) (by decide) (.inr ⟨hd', .inr (.inr ⟨by omega, by omega, ?_⟩)⟩)
    by_cases h3 : fi < 0
    · exact .inl ⟨h3, rfl⟩
    · exact .inr (.inl ⟨h3, by omega, rfl⟩)
  by_cases h3 : sp.length < 1 ∨ 48 < sp.length
  · refine no 3 (by unfold openE; rw [if_neg hd, if_neg h1, if_neg h2, if_pos h3]) (by decide) (.inr ⟨hd', .inr (.inr ⟨by omega, by omega, .inr (.inr ⟨by omega, by omega, ?_⟩)⟩)⟩)
    by_cases h4 : n < 1
    · exact .inl ⟨h4, rfl⟩
    · exact .inr ⟨h4, by omega, rfl⟩
  obtain ⟨f, rfl⟩ := Int.eq_ofNat_of_zero_le (a := fi) (by omega)
  obtain ⟨b, rfl⟩ := Int.eq_ofNat_of_zero_le (a := bl) (by omega)
  rw [Int.toNat_natCast, Int.toNat_natCast]
  by_cases hany : sp.any badP = true
  · exact (open_bad h hX f b A n c sp hA hsl hnc hcm hok hd' (by omega) (by omega) (by omega) (by omega) (by omega) hany).mono fun e w' ⟨v, h1, h2, h3, h4⟩ => ⟨v, h1, h2, h3, h4⟩
  have hany' : sp.any badP = false := by simpa using hany
  by_cases hpg : g.pg < pgs sp.length
  · exact (open_pg h hX f b A n c sp hA hsl hnc hcm hok hd' (by omega) (by omega) (by omega) (by omega) (by omega) hany' hpg).mono fun e w' ⟨v, h1, h2, h3, h4⟩ => ⟨v, h1, h2, h3, h4⟩
  · exact (open_ok9 h hX f b A n c sp hA hsl hnc hcm hok hd' (by omega) (by omega) (by omega) (by omega) (by omega) hany' hpg).mono fun e w' ⟨v, h1, h2, h3, h4⟩ => ⟨v, h1, h2, h3, h4⟩

theorem openStep_br (f : Fl) (s : St) (b j : Nat) : (openStep f s b j).broken = s.broken := by
  unfold openStep
  simp only
  split <;> rfl
theorem openRow_br (f : Fl) (b : Nat) (s : St) (n : Nat) : (openRow f b s n).broken = s.broken := by
  induction n with
  | zero => rfl
  | succ n ih => rw [openRow_succ, openStep_br, ih]
theorem openAll_br (f : Fl) (n : Nat) (s : St) (m : Nat) : (openAll f n s m).broken = s.broken := by
  induction m with
  | zero => rfl
  | succ m ih => rw [openAll_succ, openRow_br, ih]
theorem openF_br (f : Fl) (fi bl : Nat) (sp : List Par) : (openF f fi bl sp).broken = false := by
  unfold openF
  simp only
  rw [openAll_br]
  rfl
end Go.Proofs.Ytfeceamhlphelaa
