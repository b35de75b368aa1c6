
/-
  The reference of layer 51: Begin, one contract.
-/
import Derived.Test.YtjdknddnanopaaaRW81
namespace Go.Proofs.Ytjdknddnanopaaa
open Go.RowKit
set_option linter.unusedVariables false
set_option linter.unusedSimpArgs false

/-- Begin, one contract. -/
theorem begin_r {X : Nat → Prop} {w : World} {q : Qv} {s : St} {x : Rc} {g : Fl} (h : RvA X w q s g.pg) (hR : RAt X w x g) (ho : StOk g s) (hX : ∀ b, X b → b < w.heap.size) (hbd : s.broken = g.down) (henc : s.busy = false → encE (s.seq + 1) s.staged.length = 0) :
    Calls Try.prog 113 #[q.v s, x.v g] w fun e w' => ∃ q' : Qv, e = .returned (.tuple #[q'.v (beginS s g), .int .i64 (beginE s g)]) ∧ RvA X w' q' (beginS s g) g.pg ∧ Below w.heap.size w w' := by
  have hbrk : brkS s g = s := by
    unfold brkS
    rw [hbd, Bool.or_self]
    cases s
    simp only at hbd
    rw [hbd]
  have stay : beginE s g ≠ 0 → beginS s g = s := fun e => by unfold beginS; rw [if_neg e, hbrk]
  by_cases hb : s.broken = true
  · have he : beginE s g = 20 := by unfold beginE; rw [hb, Bool.true_or, if_pos rfl]
    rw [stay (by rw [he]; decide), he]
    have := begin_rb w q s x g
    unfold Qv.v
    rw [hb]
    exact this.mono fun e w' ⟨h1, h2⟩ => ⟨q, h1, h.below h2, h2⟩
  have hb' : s.broken = false := by simpa using hb
  have hd : g.down = false := by rw [← hbd]; exact hb'
  by_cases hu : s.busy = true
  · have he : beginE s g = 14 := by unfold beginE; rw [hb', hd, if_neg (by decide), if_pos hu]
    rw [stay (by rw [he]; decide), he]
    have hw := h.wr hb' hu
    have hdn := ho.dn hu hb'
    have hpl := ho.pl hu
    have hk8 := ho.k8
    have hn5 : q.n5 = s.k - s.done := by rw [← hw.pl, List.length_drop, hpl]
    have := begin_ru w q s x g q.n5 q.c5 (by omega) (by omega)
    unfold Qv.v Rc.v
    rw [hb', hd]
    exact this.mono fun e w' ⟨h1, h2⟩ => ⟨q, h1, h.below h2, h2⟩
  have hu' : s.busy = false := by simpa using hu
  have hn0 := h.no hb' hu'
  obtain ⟨n, hsp⟩ : ∃ n, s.spec.length = n := ⟨_, rfl⟩
  have htl : s.staged.length = n := by rw [ho.tl, hsp]
  have hsl : s.saved.length = n := by rw [ho.sl, hsp]
  have hn48 := ho.n2
  rw [hsp] at hn48
  by_cases hsame : s.staged = s.saved
  · have he : beginE s g = 12 := by unfold beginE; rw [hb', hd, if_neg (by decide), if_neg hu, if_pos hsame]
    rw [stay (by rw [he]; decide), he]
    have := begin_rs w q s x g n q.c5 hn48 h.b h.c htl hsl hsame
    unfold Qv.v Rc.v
    rw [hb', hd, hn0, hsp, htl, hsl]
    exact this.mono fun e w' ⟨h1, h2⟩ => ⟨q, by rw [h1, hn0], h.below h2, h2⟩
  · have henc' := henc hu'
    rw [htl] at henc'
    have he : beginE s g = 0 := by unfold beginE; rw [hb', hd, if_neg (by decide), if_neg hu, if_neg hsame, htl]; exact henc'
    have hS : beginS s g = { placeS s g with pages := encP (s.seq + 1) s.staged, values := s.staged, done := 0, busy := true } := by unfold beginS; rw [if_pos he, hbrk]
    have hnc := h.b1
    rw [htl] at hnc
    have := begin_ro w q s x g n q.c5 h.b h.c htl hsl hR hX hd ho hsp hsame henc' hnc h.b2
    unfold Qv.v Rc.v
    rw [hb', hd, hn0, hsp, htl, hsl]
    refine this.mono ?_
    rintro e w' ⟨Q8, c8, Q9, c9, nb, ns, er, h1, h2, h3, h4, h5, h6, h7, h8, h9⟩
    obtain ⟨p1, p2, p3, p4, p5, p6, p7, p8, p9⟩ := placeS_same s g
    have hpl : (placeS s g).dest = nb ∧ (placeS s g).toSlot = ns ∧ er = if (placeS s g).erase = true then ((s.first + nb : Nat) : Int) else -1 := by
      unfold placeS
      rcases h9 with ⟨e1, e2, e3⟩ | ⟨e1, e2, e3, e4⟩
      · rw [e1]
        exact ⟨e2.symm, rfl, e3⟩
      · rw [e1]
        subst e3
        refine ⟨e2.symm, rfl, ?_⟩
        simp only
        rw [← e2, e4]
        cases blankN g (pageS s g nb 0) g.pg <;> rfl
    obtain ⟨hp1, hp2, hp3⟩ := hpl
    have hl := h.below h2
    have hk : pgs n = (placeS s g).k := by unfold St.k; rw [p3, hsp]
    refine ⟨{ q with Q4 := Q8, n4 := n, c4 := c8, Q5 := Q9, n5 := pgs n, c5 := c9, pg := (((s.first + nb) * g.pg + ns * pgs n : Nat) : Int), er := er, nb := nb, ns := ns }, ?_, ?_, h2⟩
    · rw [h1, hS, he]
      simp only [p1, p2, p3, p4, p5, p6, p7, p8, hb', hsp, htl, hsl, p9]
    · rw [hS]
      refine ⟨by simp only [p3]; exact hl.a, by simp only [p3]; exact hl.a1, hl.a2, by simp only [p5]; exact hl.b, by simp only [p5]; exact hl.b1, hl.b2, by simp only [p4]; exact hl.c, by simp only [p4]; exact hl.cc1, hl.cc2, h5, h6, h7, h8, fun _ _ => ⟨h3, htl, by simp only [List.drop_zero]; exact h4, by simp only [List.drop_zero]; rw [encP_len, htl], ?_, ?_, by simp only [hp1], by simp only [hp2]⟩, fun _ e => by cases e⟩
      · simp only [hp1, hp2, p1, Nat.add_zero]
        unfold St.k
        simp only [p3, hsp]
      · simp only [hp1, p1]
        exact hp3
end Go.Proofs.Ytjdknddnanopaaa
