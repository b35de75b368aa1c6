/-
  No power failure: a commit succeeds; a store that is opened over other limits. No program in sight.
-/
import Derived.Test.YtfeceamhlphelaaPlainK
import Derived.Test.YtfeceamhlphelaaW54
namespace Go.Proofs.Ytfeceamhlphelaa
open Go.RowKit
set_option linter.unusedVariables false

/-- No power failure is to come. -/
def Calm (f : Fl) : Prop := f.fuse < 0 ∧ f.down = false
theorem cutF_calm {f : Fl} (h : Calm f) : cutF f = (f, false) := by
  have h1 := h.1
  unfold cutF
  rw [if_neg (by omega), if_neg (by omega)]
theorem progF_calm {f : Fl} (h : Calm f) (page : Int) (b : List Int) : Calm (progF f page b).1 := by
  unfold progF
  split
  · exact h
  split
  · exact h
  split
  · exact h
  rw [cutF_calm h, if_neg (fun e => by cases e)]
  exact ⟨h.1, h.2⟩
theorem eraseF_calm {f : Fl} (h : Calm f) (b : Int) : Calm (eraseF f b).1 := by
  unfold eraseF
  split
  · exact h
  split
  · exact h
  rw [cutF_calm h, if_neg (fun e => by cases e)]
  exact ⟨h.1, h.2⟩
theorem opS_calm {f : Fl} (h : Calm f) (s : St) : Calm (opS s f).1 := by
  unfold opS
  split
  · exact eraseF_calm h _
  · exact progF_calm h _ _
theorem stepS_calm {f : Fl} (h : Calm f) (s : St) : Calm (stepS s f).2.1 := by
  unfold stepS
  split
  · exact h
  split
  · exact h
  split
  · exact opS_calm h s
  split
  · exact opS_calm h s
  · exact opS_calm h s
theorem runS_calm (n : Nat) {f : Fl} (h : Calm f) (s : St) : Calm (runS n s f).2.1 := by
  induction n generalizing s f with
  | zero => exact h
  | succ n ih =>
    rw [runS_succ]
    split
    · exact stepS_calm h s
    · exact ih (stepS_calm h s) _
theorem newF_calm (b p : Nat) : Calm (newF b p) := ⟨by unfold newF; simp, rfl⟩

theorem recS_len {f : Fl} {s s' : St} {b j : Nat} (hf : s'.first = s.first) (hl : s'.spec.length = s.spec.length) : recS f s' b j = recS f s b j := by
  unfold recS pageS St.k
  rw [hf, hl]

/-- A store over n values without limits, on a new flash, of which some are staged. -/
structure Rng (f : Fl) (s : St) (N : Nat) (t : List Int) : Prop where
  live : Live f s
  busy : s.busy = false
  saved : s.saved = List.replicate N 0
  staged : s.staged = t
  spec : s.spec = sureP N
  first : s.first = 0
  blocks : s.blocks = 2
  slot : s.slot = -1

theorem sureP_df (N : Nat) : (sureP N).map Par.df = List.replicate N 0 := by
  unfold sureP surePar
  rw [List.map_replicate]
theorem sureP_len (N : Nat) : (sureP N).length = N := by unfold sureP; simp
theorem rng_open0 {N : Nat} (h1 : 1 ≤ N) (h2 : N ≤ 12) : openE (newF 2 4) ((0 : Nat) : Int) ((2 : Nat) : Int) (sureP N) = 0 := by
  have hb : ((sureP N).any fun p => decide (p.df < p.lo ∨ p.hi < p.df)) = false := sureP_bad N
  have hw : (newF 2 4).wear.length = 2 := by unfold newF; simp
  unfold openE
  rw [hb, sureP_len, hw, if_neg (by show ¬ (false = true); decide), if_neg (by omega), if_neg (by omega), if_neg (by omega), if_neg (by decide), if_neg (by show ¬ (4 < pgs N); unfold pgs; omega)]
theorem rng_first {N : Nat} (h1 : 1 ≤ N) (h2 : N ≤ 12) : Rng (newF 2 4) (openF (newF 2 4) 0 2 (sureP N)) N (List.replicate N 0) := by
  obtain ⟨_, a, b, c, d, e, _, g, hh, i⟩ := Surv.first (f := newF 2 4) (fi := 0) (bl := 2) (sp := sureP N) (newF_ok (by omega) (by omega) (by omega) (by omega)) (fun x hx => newF_blank (by have h : (newF 2 4).wear.length * (newF 2 4).pg = 2 * 4 := rfl; rw [h] at hx; exact hx)) (sureP_ok N) (rng_open0 h1 h2)
  rw [sureP_df] at b c
  exact ⟨a, d, b, c, g, hh, i, e⟩
theorem Rng.set {f : Fl} {s : St} {N : Nat} {t : List Int} (h : Rng f s N t) {i : Nat} (hi : i < N) {x : Int} (hx : I64 x) : setE s i x = 0 ∧ Rng f (setF s i x) N (t.set i x) := by
  have he : setE s i x = 0 := by
    unfold setE
    have hl : s.spec.length = N := by rw [h.spec, sureP_len]
    obtain ⟨p, hp⟩ := getElem?_of_lt (l := sureP N) (k := i) (by rw [sureP_len]; exact hi)
    rw [if_neg (by rw [h.live.br]; decide), hl, if_neg (by omega), Int.toNat_natCast, h.spec, hp, if_neg (by show ¬ inPar p x = false; rw [sureP_in hp hx]; decide)]
  refine ⟨he, ?_⟩
  have hs : setF s i x = { s with staged := s.staged.set i x } := by unfold setF; rw [if_pos he, Int.toNat_natCast]
  have hl := h.live.set (i := (i : Int)) hx
  rw [hs] at hl ⊢
  exact ⟨hl, h.busy, h.saved, by show s.staged.set i x = _; rw [h.staged], h.spec, h.first, h.blocks, h.slot⟩

theorem Newest.len {f : Fl} {s s' : St} {c : Option (Int × Nat × Nat × List Int)} (h : Newest f s c) (hf : s'.first = s.first) (hb : s'.blocks = s.blocks) (hl : s'.spec.length = s.spec.length) : Newest f s' c := by
  have hr : ∀ b j, recS f s' b j = recS f s b j := fun b j => recS_len hf hl
  have ht : slotsS s' f = slotsS s f := by unfold slotsS St.k; rw [hl]
  cases c with
  | none =>
    intro b j h1 h2
    rw [hr]
    exact h b j (by rw [← hb]; exact h1) (by rw [← ht]; exact h2)
  | some c =>
    obtain ⟨q, b, j, v⟩ := c
    obtain ⟨h1, h2, h3, h4⟩ := h
    refine ⟨by rw [hb]; exact h1, by rw [ht]; exact h2, by rw [hr]; exact h3, fun b' j' q' v' e1 e2 e3 => ?_⟩
    rw [hr] at e3
    exact h4 b' j' q' v' (by rw [← hb]; exact e1) (by rw [← ht]; exact e2) e3

/-- What is known behind a commit without a power failure: the flash, and the newest record. -/
structure Kept (f : Fl) (N : Nat) (o : Option (List Int)) : Prop where
  ok : f.ok
  up : f.down = false
  bl : 2 ≤ f.wear.length
  pg : pgs N ≤ f.pg
  new : ∃ (s : St) (cur : Option (Int × Nat × Nat × List Int)), s.first = 0 ∧ s.blocks = 2 ∧ s.spec.length = N ∧ Newest f s cur ∧ match o with
    | none => cur = none
    | some v => ∃ q b j, cur = some (q, b, j, v)
theorem Rng.commit_no {f : Fl} {s : St} {N : Nat} {t : List Int} (h : Rng f s N t) (ht : t = List.replicate N 0) : (commitS s f).2.2 ≠ 0 ∧ (commitS s f).2.1 = f ∧ Kept f N none := by
  have he : beginE s f = 12 := by
    unfold beginE
    rw [if_neg (by rw [h.live.br, h.live.up]; decide), if_neg (by rw [h.busy]; decide), if_pos (by rw [h.staged, h.saved, ht])]
  have hc := commit_codes (s := s) (f := f) (by rw [he]; decide)
  have hl : s.spec.length = N := by rw [h.spec, sureP_len]
  have h3 := h.live.ok.fb
  have h6 := h.live.ok.kp
  rw [h.first, h.blocks] at h3
  unfold St.k at h6
  rw [hl] at h6
  refine ⟨by rw [hc, he]; show (12 : Int) ≠ 0; decide, by rw [hc], h.live.fok, h.live.up, by omega, h6, s, curS s, h.first, h.blocks, hl, h.live.new, ?_⟩
  show curS s = none
  unfold curS
  rw [if_pos h.slot]
theorem Rng.commit_yes {f : Fl} {s : St} {N : Nat} {t : List Int} (h : Rng f s N t) (hc : Calm f) (ht : t ≠ List.replicate N 0) : (commitS s f).2.2 = 0 ∧ Kept (commitS s f).2.1 N (some t) := by
  have hl : s.spec.length = N := by rw [h.spec, sureP_len]
  have hn1 := h.live.ok.n1
  have hn2 := h.live.ok.n2
  rw [hl] at hn1 hn2
  have hq := (h.live.q0 h.slot).1
  have htl := h.live.ok.tl
  have he : beginE s f = 0 := by
    unfold beginE
    rw [if_neg (by rw [h.live.br, h.live.up]; decide), if_neg (by rw [h.busy]; decide), if_neg (by rw [h.staged, h.saved]; exact ht), hq, htl, hl]
    unfold encE
    rw [if_neg (by omega)]
  have hcm : commitS s f = runS 10 (beginS s f) f := by unfold commitS; rw [if_neg (by rw [he]; decide)]
  obtain ⟨e1, e2, e3, e4, _⟩ := begin_fields he
  have hsm := (beginS_same s f).trans (runS_same 10 (beginS s f) f)
  have hcalm := runS_calm 10 hc (beginS s f)
  rw [hcm]
  cases h.live.begin.run e1 (begin_left h.live.ok he) with
  | dead b1 b2 b3 b4 => exact absurd b2.dn (by rw [hcalm.2]; decide)
  | last b1 b2 b3 b4 b5 =>
    rw [e2, h.staged] at b4
    have hl' : (runS 10 (beginS s f) f).1.spec.length = N := by rw [hsm.spec, hl]
    have h3 := b2.ok.fb
    have h6 := b2.ok.kp
    rw [hsm.first, hsm.blocks, h.first, h.blocks] at h3
    unfold St.k at h6
    rw [hl'] at h6
    have hs : (runS 10 (beginS s f) f).1.slot ≠ -1 := by
      intro e
      have := (b2.q0 e).2.2
      rw [b4, hsm.spec, h.spec, sureP_df] at this
      exact ht this
    refine ⟨b1, b2.fok, b2.up, by omega, h6, _, curS (runS 10 (beginS s f) f).1, hsm.first.trans h.first, hsm.blocks.trans h.blocks, hl', b2.new, ?_⟩
    show ∃ q b j, curS _ = some (q, b, j, t)
    unfold curS
    rw [if_neg hs, b4]
    exact ⟨_, _, _, rfl⟩
/-- What a store shows that is opened over limits of its own. -/
def wantS (o : Option (List Int)) (sp : List Par) : List Int := match o with
  | none => sp.map Par.df
  | some v => legal sp v
theorem Kept.open {f : Fl} {N : Nat} {o : Option (List Int)} (h : Kept f N o) {sp : List Par} (hl : sp.length = N) (h1 : 1 ≤ N) (h2 : N ≤ 12) :
    (openE f ((0 : Nat) : Int) ((2 : Nat) : Int) sp = 0 ∨ openE f ((0 : Nat) : Int) ((2 : Nat) : Int) sp = 3) ∧ (openF f 0 2 sp).staged = wantS o sp ∧ (openF f 0 2 sp).spec = sp := by
  have hb := h.bl
  constructor
  · unfold openE
    rw [h.up, hl, if_neg (by decide), if_neg (by omega), if_neg (by omega), if_neg (by omega)]
    split
    · exact .inr rfl
    rw [if_neg (by have := h.pg; omega)]
    exact .inl rfl
  · obtain ⟨s, cur, a1, a2, a3, a4, a5⟩ := h.new
    obtain ⟨s0, hs0⟩ : ∃ s0, initS 0 2 sp = s0 := ⟨_, rfl⟩
    have hn : Newest f s0 cur := a4.len (by rw [← hs0, a1]; rfl) (by rw [← hs0, a2]; rfl) (by rw [← hs0, a3]; exact hl)
    have hall := openAll_newest (by rw [← hs0]; rfl) hn
    have hT : slotsS s0 f = f.pg / pgs sp.length := by rw [← hs0]; rfl
    have hB : s0.blocks = 2 := by rw [← hs0]; rfl
    have hS : s0.spec = sp := by rw [← hs0]; rfl
    have hV : s0.saved = sp.map Par.df := by rw [← hs0]; rfl
    rw [hT, hB] at hall
    unfold openF
    rw [hs0, hall]
    cases o with
    | none =>
      subst a5
      exact ⟨hV, hS⟩
    | some v =>
      obtain ⟨q, b, j, rfl⟩ := a5
      refine ⟨?_, hS⟩
      show legal s0.spec v = _
      rw [hS]
      rfl
theorem set_lay {vals : List Int} {N k : Nat} (hN : N ≤ vals.length) (hk : k < N) {x : Int} (hx : vals[k]? = some x) : (vals.take k ++ List.replicate (N - k) 0).set k x = vals.take (k + 1) ++ List.replicate (N - (k + 1)) 0 := by
  have hl : (vals.take k).length = k := by rw [List.length_take]; omega
  rw [List.set_append_right _ _ (by omega), hl, Nat.sub_self, take_snoc_get vals k x hx, show N - k = (N - (k + 1)) + 1 by omega, List.replicate_succ]
  simp
theorem any_take {vals : List Int} {k : Nat} {x : Int} (hx : vals[k]? = some x) : (vals.take (k + 1)).any (fun x => x != 0) = ((vals.take k).any (fun x => x != 0) || x != 0) := by
  rw [take_snoc_get vals k x hx, List.any_append]
  simp
theorem any_zero {t : List Int} {N : Nat} (hl : t.length = N) : t.any (fun x => x != 0) = false ↔ t = List.replicate N 0 := by
  rw [List.any_eq_false]
  constructor
  · intro h
    rw [List.eq_replicate_iff]
    exact ⟨hl, fun b hb => by simpa using h b hb⟩
  · intro h x hx
    rw [h, List.mem_replicate] at hx
    simp [hx.2]
end Go.Proofs.Ytfeceamhlphelaa
