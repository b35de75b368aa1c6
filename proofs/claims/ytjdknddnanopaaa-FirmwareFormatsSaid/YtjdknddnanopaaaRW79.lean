
/-
  The reference of layer 51: Step, one contract.
-/
import Derived.Test.YtjdknddnanopaaaRW78
namespace Go.Proofs.Ytjdknddnanopaaa
open Go.RowKit
set_option linter.unusedVariables false
set_option linter.unusedSimpArgs false

theorem RdP.tail78 {X : Nat → Prop} {w : World} {b o : Nat} {p : List Int} {ps : List (List Int)} (h : RdP X w (some ⟨b, o, none⟩) (p :: ps)) : RdP X w (some ⟨b, o + 1, none⟩) ps := by
  obtain ⟨vs, h1, h2, h3⟩ := h
  obtain ⟨v, vs, rfl⟩ : ∃ v vs', vs = v :: vs' := by
    cases vs with
    | nil => simp at h2
    | cons v vs => exact ⟨v, vs, rfl⟩
  refine ⟨vs, fun hx => ?_, by simpa using h2, fun i q hq => ?_⟩
  · obtain ⟨b', off, e, hlt, hn, hc⟩ := h1 (by simp)
    injection e with e
    injection e with e1 e2
    subst e1
    subst e2
    refine ⟨b, o + 1, rfl, hlt, hn, fun j u hu => ?_⟩
    have := hc (j + 1) u (by simpa using hu)
    rw [show o + 1 + j = o + (j + 1) by omega]
    exact this
  · obtain ⟨Q, m, c, a1, a2⟩ := h3 (i + 1) q (by simpa using hq)
    exact ⟨Q, m, c, by simpa using a1, a2⟩
theorem stepS_brk {s : St} {g : Fl} (hb : s.broken = true) : stepS s g = (s, g, false, 20) := by unfold stepS; rw [if_pos hb]
theorem stepS_idle {s : St} {g : Fl} (hb : s.broken = false) (hu : s.busy = false) : stepS s g = (s, g, false, 12) := by unfold stepS; rw [if_neg (by rw [hb]; decide), if_pos hu]
theorem stepS_fail9 {s : St} {g g9 : Fl} {k : Int} (hb : s.broken = false) (hu : s.busy = true) (ho : opS s g = (g9, k)) (hk : k ≠ 0) : stepS s g = ({ tickS s with broken := true }, g9, false, 20) := by
  unfold stepS
  rw [if_neg (by rw [hb]; decide), if_neg (by rw [hu]; decide), ho, if_pos hk]
theorem stepS_go {s : St} {g g9 : Fl} (hb : s.broken = false) (hu : s.busy = true) (ho : opS s g = (g9, 0)) (hk : (tickS s).done < (tickS s).pages.length) : stepS s g = (tickS s, g9, false, 0) := by
  unfold stepS
  rw [if_neg (by rw [hb]; decide), if_neg (by rw [hu]; decide), ho, if_neg (by simp), if_pos hk]
theorem stepS_end {s : St} {g g9 : Fl} (hb : s.broken = false) (hu : s.busy = true) (ho : opS s g = (g9, 0)) (hk : ¬ (tickS s).done < (tickS s).pages.length) : stepS s g = (endS (tickS s), g9, true, 0) := by
  unfold stepS
  rw [if_neg (by rw [hb]; decide), if_neg (by rw [hu]; decide), ho, if_neg (by simp), if_neg hk]
theorem St.eta_broken {s : St} {b : Bool} (h : s.broken = b) : s = { s with broken := b } := by
  cases s
  simp only at h
  subst h
  rfl
/-- Step, one contract. -/
theorem step_r {X : Nat → Prop} {w : World} {q : Qv} {s : St} {x : Rc} {g : Fl} (h : RvA X w q s g.pg) (hR : RAt X w x g) (ho : StOk g s) (hX : ∀ b, X b → b < w.heap.size) :
    Calls Try.prog 114 #[q.v s, x.v g] w fun e w' => ∃ (q' : Qv) (y : Rc), e = .returned (.tuple #[q'.v (stepS s g).1, y.v (stepS s g).2.1, .bool (stepS s g).2.2.1, .int .i64 (stepS s g).2.2.2]) ∧ RvA X w' q' (stepS s g).1 g.pg ∧ RAt X w' y (stepS s g).2.1 ∧ Below w.heap.size w w' := by
  by_cases hb : s.broken = true
  · rw [stepS_brk hb]
    have := step_rb w q s x g
    unfold Qv.v
    rw [hb]
    exact this.mono fun e w' ⟨h1, h2⟩ => ⟨q, x, h1, h.below h2, hR.below h2, h2⟩
  have hb' : s.broken = false := by simpa using hb
  by_cases hu : s.busy = true
  rotate_left
  · have hu' : s.busy = false := by simpa using hu
    have hn := h.no hb' hu'
    rw [stepS_idle hb' hu']
    have := step_ri w q s x g q.c5
    unfold Qv.v
    rw [hb', hn]
    exact this.mono fun e w' ⟨h1, h2⟩ => ⟨q, x, by rw [h1, hn], h.below h2, hR.below h2, h2⟩
  have hw := h.wr hb' hu
  have hdn := ho.dn hu hb'
  have hpl := ho.pl hu
  have hk8 := ho.k8
  have hn5 : q.n5 = s.k - s.done := by rw [← hw.pl, List.length_drop, hpl]
  have hwl := hR.ok.b2
  have hp16 := hR.ok.p2
  have hfb := ho.fb
  have htb := ho.tb
  have hts := ho.ts
  have hpg := ho.page_in htb hts
  have hwp : g.wear.length * g.pg ≤ 64 * 16 := Nat.mul_le_mul hwl hp16
  by_cases he : s.erase = true
  · have her : q.er = ((s.first + s.dest : Nat) : Int) := by rw [hw.er, if_pos he]
    obtain ⟨⟨g9, k9⟩, hE⟩ : ∃ r, eraseF g ((s.first + s.dest : Nat) : Int) = r := ⟨_, rfl⟩
    have hop : opS s g = (g9, k9) := by
      unfold opS
      rw [if_pos he, show ((s.first : Int) + (s.dest : Int)) = ((s.first + s.dest : Nat) : Int) by omega]
      exact hE
    have htick : tickS s = { s with erase := false } := by unfold tickS; rw [if_pos he]
    have hpgs : g9.pg = g.pg := by have := (eraseF_shape g ((s.first + s.dest : Nat) : Int)).p; rw [hE] at this; exact this
    have hst := step_re w q s x g hR hX q.n5 q.c5 (s.first + s.dest) (by omega) (by omega) (by omega) g9 k9 hE
    unfold Qv.v
    rw [hb', her]
    refine hst.mono ?_
    rintro e w' ⟨y9, h1, h2, h3, h4⟩
    have hl := h.below h2
    by_cases hk : k9 = 0
    · subst hk
      rw [stepS_go hb' hu hop (by rw [htick]; simp only; omega), htick]
      refine ⟨{ q with er := -1 }, y9, ?_, ?_, h1, h2⟩
      · rw [h3 rfl]
        simp only [hb']
      · have hwl := hl.wr hb' hu
        exact ⟨hl.a, hl.a1, hl.a2, hl.b, hl.b1, hl.b2, hl.c, hl.cc1, hl.cc2, hl.d1, hl.d2, hl.e1, hl.e2, fun _ _ => ⟨hwl.vr, hwl.vl, hwl.pr, hwl.pl, hwl.at', rfl, hwl.nb, hwl.ns⟩, fun _ e => by simp only [hu] at e; cases e⟩
    · rw [stepS_fail9 hb' hu hop hk, htick]
      refine ⟨q, y9, ?_, ?_, h1, h2⟩
      · rw [h4 hk]
        simp only [her]
      · exact ⟨hl.a, hl.a1, hl.a2, hl.b, hl.b1, hl.b2, hl.c, hl.cc1, hl.cc2, hl.d1, hl.d2, hl.e1, hl.e2, (fun e _ => by cases e), (fun e _ => by cases e)⟩
  · have he' : s.erase = false := by simpa using he
    have her : q.er = -1 := by rw [hw.er, if_neg he]
    obtain ⟨pb, hpb⟩ := getElem?_of_lt (l := s.pages) (k := s.done) (by omega)
    have hdrop : s.pages.drop s.done = pb :: s.pages.drop (s.done + 1) := drop_cons_get s.pages s.done pb hpb
    obtain ⟨hpb64, hpbb⟩ := ho.pb pb (List.mem_of_getElem? hpb)
    have hpr := hw.pr
    rw [hdrop] at hpr
    obtain ⟨bp, op, Qp, cp, hQ5, hlt, hcell, hcp, hcm, hQp⟩ := hpr.get (i := 0) (p := pb) rfl
    rw [hpb64] at hcell hcp
    rw [Nat.add_zero] at hcell
    have hpn : (s.first + s.dest) * g.pg + s.toSlot * s.k + s.done = pageS s g s.dest s.toSlot + s.done := rfl
    obtain ⟨pn, hpn2⟩ : ∃ pn, pageS s g s.dest s.toSlot + s.done = pn := ⟨_, rfl⟩
    have hat : q.pg = (pn : Int) := by rw [hw.at', hpn, hpn2]
    have hpnb : pn ≤ 2000 := by omega
    obtain ⟨⟨g9, k9⟩, hE⟩ : ∃ r, progF g (pn : Int) pb = r := ⟨_, rfl⟩
    have hop : opS s g = (g9, k9) := by
      unfold opS
      rw [if_neg he, hpn2, hpb]
      exact hE
    have htick : tickS s = { s with done := s.done + 1 } := by unfold tickS; rw [if_neg he]
    have hpgs : g9.pg = g.pg := by have := (progF_shape g (pn : Int) pb).p; rw [hE] at this; exact this
    have hq1 := ho.q1
    have hqb := ho.qb hu hb'
    unfold Qv.v
    rw [hb', her, hat, hQ5]
    by_cases hk : k9 = 0
    · subst hk
      by_cases hlast : q.n5 = 1
      · have hst := step_rl w q s x g hR hX bp op q.c5 pn (by have := h.e1; omega) h.e2 hpnb hq1 hqb Qp cp pb hcell hQp hpb64 hcp hcm hpbb g9 0 hE rfl
        rw [hlast]
        refine hst.mono ?_
        rintro e w' ⟨y9, h1, h2, Q0, c0, h3, hc0⟩
        have hl := h.below h2
        have hwl := hl.wr hb' hu
        rw [stepS_end hb' hu hop (by rw [htick]; simp only; omega), htick]
        refine ⟨{ q with Q3 := q.Q4, c3 := q.c4, Q5 := Q0, n5 := 0, c5 := c0, pg := (pn : Int) + 1 }, y9, ?_, ?_, h1, h2⟩
        · rw [h3]
          simp only [endS, hb', hw.vl, hw.nb, hw.ns, her]
        · exact ⟨hl.a, hl.a1, hl.a2, hl.b, hl.b1, hl.b2, hwl.vr, by have := hw.vl; have := h.d1; simp only [endS]; omega, hl.d2, hl.d1, hl.d2, Nat.zero_le _, hc0, (fun _ e => by cases e), fun _ _ => rfl⟩
      · have hst := step_rm w q s x g hR hX bp op q.n5 q.c5 pn (by omega) (by omega) h.e1 h.e2 hpnb Qp cp pb hcell hQp hpb64 hcp hcm hpbb g9 0 hE rfl (by omega)
        refine hst.mono ?_
        rintro e w' ⟨y9, h1, h2, h3⟩
        have hl := h.below h2
        have hwl := hl.wr hb' hu
        have hpr' := hwl.pr
        rw [hdrop, hQ5] at hpr'
        rw [stepS_go hb' hu hop (by rw [htick]; simp only; omega), htick]
        refine ⟨{ q with Q5 := some ⟨bp, op + 1, none⟩, n5 := q.n5 - 1, c5 := q.c5 - 1, pg := (pn : Int) + 1 }, y9, ?_, ?_, h1, h2⟩
        · rw [h3]
          simp only [hb', her]
        · refine ⟨hl.a, hl.a1, hl.a2, hl.b, hl.b1, hl.b2, hl.c, hl.cc1, hl.cc2, hl.d1, hl.d2, by have := h.e1; simp only; omega, by have := h.e2; simp only; omega, fun _ _ => ⟨hwl.vr, hwl.vl, hpr'.tail78, ?_, ?_, ?_, hwl.nb, hwl.ns⟩, fun _ e => by simp only [hu] at e; cases e⟩
          · simp only
            rw [List.length_drop, hpl]
            omega
          · have : ((s.first + s.dest) * g.pg + s.toSlot * s.k + (s.done + 1) : Nat) = pn + 1 := by rw [← hpn2, ← hpn]; omega
            have e2 : ({ s with done := s.done + 1 } : St).k = s.k := rfl
            simp only [e2]
            rw [this]
            push_cast
            rfl
          · simp only [he', her]
            rfl
    · have hst := step_rf w q s x g hR hX bp op q.n5 q.c5 pn (by omega) (by omega) h.e1 h.e2 hpnb Qp cp pb hcell hQp hpb64 hcp hcm hpbb g9 k9 hE hk
      refine hst.mono ?_
      rintro e w' ⟨y9, h1, h2, h3⟩
      have hl := h.below h2
      rw [stepS_fail9 hb' hu hop hk, htick]
      refine ⟨q, y9, ?_, ?_, h1, h2⟩
      · rw [h3]
        simp only [her, hat, hQ5]
      · exact ⟨hl.a, hl.a1, hl.a2, hl.b, hl.b1, hl.b2, hl.c, hl.cc1, hl.cc2, hl.d1, hl.d2, hl.e1, hl.e2, (fun e _ => by cases e), (fun e _ => by cases e)⟩
end Go.Proofs.Ytjdknddnanopaaa
