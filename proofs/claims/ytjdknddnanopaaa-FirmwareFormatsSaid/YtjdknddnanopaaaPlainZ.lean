
/-
  A store that is opened on what another one has left. No program in sight.
-/
import Derived.Test.YtjdknddnanopaaaPlainY
namespace Go.Proofs.Ytjdknddnanopaaa
open Go.RowKit
set_option linter.unusedVariables false

theorem lg_df {sp : List Par} (h : sp.any badP = false) : Lg sp (sp.map Par.df) := by
  unfold Lg
  induction sp with
  | nil => rfl
  | cons p sp ih =>
    rw [List.any_cons, Bool.or_eq_false_iff] at h
    rw [List.map_cons]
    show legalP p p.df :: legal sp (sp.map Par.df) = _
    rw [ih h.2]
    congr 1
    have h1 := h.1
    unfold badP at h1
    rw [decide_eq_false_iff_not] at h1
    unfold legalP
    rw [if_pos (by unfold inPar; rw [decide_eq_true_eq]; omega)]
/-- What an opened store is like. -/
structure Opened (g : Fl) (s t : St) (cur : Option (Int × Nat × Nat × List Int)) : Prop where
  live : Live g t
  busy : t.busy = false
  spec : t.spec = s.spec
  first : t.first = s.first
  blocks : t.blocks = s.blocks
  staged : t.staged = t.saved
  rc : curS t = cur
  no : cur = none → t.saved = s.spec.map Par.df ∧ t.block = 0
theorem open_live {f g : Fl} {s : St} {cur : Option (Int × Nat × Nat × List Int)} (hn : Newest f s cur) (hs : StOk f s) (hi : g.img = f.img) (hp : g.pg = f.pg) (hw : g.wear.length = f.wear.length) (hok : g.ok) (hup : g.down = false)
    (htrn : ∀ x, s.first * f.pg ≤ x → x < (s.first + s.blocks) * f.pg → Trn (pageF f x)) (hbad : s.spec.any badP = false) (hl : ∀ q b j v, cur = some (q, b, j, v) → Lg s.spec v) :
    openE g s.first s.blocks s.spec = 0 ∧ Opened g s (openF g s.first s.blocks s.spec) cur := by
  have he : openE g s.first s.blocks s.spec = 0 := by
    have h1 := hs.b1
    have h2 := hs.b2
    have h3 := hs.fb
    have h4 := hs.n1
    have h5 := hs.n2
    have h6 := hs.kp
    unfold openE
    rw [hup, if_neg (by decide), if_neg (by omega), if_neg (by omega), if_neg (by omega), if_neg (by
      have : s.spec.any (fun p => decide (p.df < p.lo ∨ p.hi < p.df)) = false := hbad
      rw [this]; decide), if_neg (by unfold St.k at h6; omega)]
  refine ⟨he, ?_⟩
  have hpage : ∀ x, pageF g x = pageF f x := fun x => by unfold pageF; rw [hi]
  obtain ⟨s0, hs0⟩ : ∃ s0, initS s.first s.blocks s.spec = s0 := ⟨_, rfl⟩
  have hn0 : Newest g s0 cur := by
    rw [← hs0]
    exact hn.congr rfl rfl hp (fun b j _ _ => recS_congr rfl rfl hp (fun i _ => hpage _))
  have h0 : s0.seq = 0 := by rw [← hs0]; rfl
  have hall := openAll_newest h0 hn0
  have hT : slotsS s0 g = g.pg / pgs s.spec.length := by rw [← hs0]; rfl
  have hB : s0.blocks = s.blocks := by rw [← hs0]; rfl
  have hS : s0.spec = s.spec := by rw [← hs0]; rfl
  rw [hT, hB] at hall
  have hokt := openF_ok (f := g) hs.sp he
  have htrn' : ∀ x, s.first * g.pg ≤ x → x < (s.first + s.blocks) * g.pg → Trn (pageF g x) := fun x h1 h2 => by
    rw [hpage]
    rw [hp] at h1 h2
    exact htrn x h1 h2
  unfold openF at hokt ⊢
  rw [hs0, hall] at hokt ⊢
  cases cur with
  | none =>
    simp only at hokt ⊢
    have e1 : s0.slot = -1 := by rw [← hs0]; rfl
    have e2 : s0.saved = s.spec.map Par.df := by rw [← hs0]; rfl
    have e3 : s0.block = 0 := by rw [← hs0]; rfl
    have e4 : s0.busy = false := by rw [← hs0]; rfl
    have e5 : s0.broken = false := by rw [← hs0]; rfl
    have e6 : s0.first = s.first := by rw [← hs0]; rfl
    have hcur : curS { s0 with staged := s0.saved } = none := by unfold curS; rw [if_pos e1]
    refine ⟨⟨hok, hokt, hup, e5, by simp only [e6, hB]; exact htrn', ?_, ?_, ?_, ?_, ?_⟩, e4, hS, e6, hB, rfl, hcur, fun _ => ⟨e2, e3⟩⟩
    · rw [hcur]
      exact hn0.congr rfl rfl rfl (fun b j _ _ => recS_congr rfl rfl rfl (fun _ _ => rfl))
    · intro _
      exact ⟨h0, e3, by simp only [hS]; exact e2⟩
    · simp only [hS, e2]; exact lg_df hbad
    · simp only [hS, e2]; exact lg_df hbad
    · intro e
      simp only [e4] at e
      cases e
  | some c =>
    obtain ⟨q, b, j, v⟩ := c
    have hlv := hl q b j v rfl
    unfold Lg at hlv
    simp only [hS, hlv] at hokt ⊢
    have e4 : s0.busy = false := by rw [← hs0]; rfl
    have e5 : s0.broken = false := by rw [← hs0]; rfl
    have e6 : s0.first = s.first := by rw [← hs0]; rfl
    obtain ⟨t, ht⟩ : ∃ t : St, ({ first := s0.first, blocks := s0.blocks, spec := s0.spec, saved := v, staged := v, seq := q, block := b, slot := (j : Int), broken := s0.broken, pages := s0.pages, values := s0.values, dest := s0.dest, toSlot := s0.toSlot, done := s0.done, erase := s0.erase, busy := s0.busy } : St) = t := ⟨_, rfl⟩
    have hcur : curS t = some (q, b, j, v) := by
      rw [← ht]
      unfold curS
      simp only
      rw [if_neg (by omega), Int.toNat_natCast]
    have ht1 : t.blocks = s0.blocks := by rw [← ht]
    have ht2 : t.spec = s0.spec := by rw [← ht]
    have ht3 : t.first = s0.first := by rw [← ht]
    have hok2 : StOk g t := by rw [← ht, hS, hB]; exact hokt
    have res : Opened g s t (some (q, b, j, v)) := by
      refine ⟨⟨hok, hok2, hup, by rw [← ht]; exact e5, by rw [ht3, ht1, e6, hB]; exact htrn', ?_, ?_, ?_, ?_, ?_⟩, by rw [← ht]; exact e4, ht2.trans hS, ht3.trans e6, ht1.trans hB, by rw [← ht], hcur, fun e => by cases e⟩
      · rw [hcur]
        exact hn0.congr ht1 ht2 rfl (fun b j _ _ => recS_congr ht3 ht2 rfl (fun _ _ => rfl))
      · intro e
        rw [← ht] at e
        simp only at e
        omega
      · rw [ht2, hS, ← ht]; exact hlv
      · rw [ht2, hS, ← ht]; exact hlv
      · intro e
        rw [← ht] at e
        simp only [e4] at e
        cases e
    rw [← ht, hS, hB] at res
    exact res
end Go.Proofs.Ytjdknddnanopaaa
