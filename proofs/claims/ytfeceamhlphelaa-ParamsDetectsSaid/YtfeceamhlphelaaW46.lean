/-
  Params: Step, Commit.
-/
import Derived.Test.YtfeceamhlphelaaW45
namespace Go.Proofs.Ytfeceamhlphelaa
open Go.RowKit
set_option linter.unusedVariables false
set_option pp.deepTerms true

theorem tickS_busy (s : St) : (tickS s).busy = s.busy ∧ (tickS s).broken = s.broken ∧ (tickS s).pages = s.pages := by unfold tickS; split <;> exact ⟨rfl, rfl, rfl⟩
theorem left_step {f : Fl} {s : St} (ho : StOk f s) (hb : s.broken = false) (hu : s.busy = true) (hd : (stepS s f).2.2.1 = false) (he : (stepS s f).2.2.2 = 0) :
    leftS (stepS s f).1 + 1 = leftS s ∧ (stepS s f).1.busy = true ∧ (stepS s f).1.broken = false := by
  unfold stepS at hd he ⊢
  rw [if_neg (by rw [hb]; decide), if_neg (by rw [hu]; decide)] at hd he ⊢
  by_cases h0 : (opS s f).2 ≠ 0
  · rw [if_pos h0] at he
    cases he
  rw [if_neg h0] at hd he ⊢
  by_cases hl : (tickS s).done < (tickS s).pages.length
  · rw [if_pos hl] at hd he ⊢
    obtain ⟨e1, e2, e3⟩ := tickS_busy s
    refine ⟨?_, by rw [e1]; exact hu, by rw [e2]; exact hb⟩
    have hdn := ho.dn hu hb
    have hpl := ho.pl hu
    unfold leftS tickS
    by_cases he : s.erase = true
    · rw [if_pos he, if_pos he]
      simp
    · rw [if_neg he, if_neg he]
      simp only
      omega
  · rw [if_neg hl] at hd
    cases hd
theorem left_pos {f : Fl} {s : St} (ho : StOk f s) (hb : s.broken = false) (hu : s.busy = true) : 1 ≤ leftS s := by
  have hdn := ho.dn hu hb
  have hpl := ho.pl hu
  unfold leftS
  omega
theorem runS_succ (n : Nat) (s : St) (f : Fl) : runS (n + 1) s f = if (stepS s f).2.2.1 = true ∨ (stepS s f).2.2.2 ≠ 0 then ((stepS s f).1, (stepS s f).2.1, (stepS s f).2.2.2) else runS n (stepS s f).1 (stepS s f).2.1 := rfl
theorem runS_ok {n : Nat} {f : Fl} {s : St} (ho : StOk f s) : StOk (runS n s f).2.1 (runS n s f).1 := by
  induction n generalizing s f with
  | zero => exact ho
  | succ n ih =>
    rw [runS_succ]
    split
    · exact stepS_ok ho
    · exact ih (stepS_ok ho)
theorem commitS_ok {f : Fl} {s : St} (ho : StOk f s) : StOk (commitS s f).2.1 (commitS s f).1 := by
  unfold commitS
  split
  · exact beginS_ok ho
  · exact runS_ok (beginS_ok ho)

section
variable {w0 w : World} {L : Lc} {S : Sc} {f : Fl} {s : St}

theorem step_any (h : StAt w0 w L S f s) (ho : StOk f s) : Calls Try.prog 59 #[.pointer (some ⟨S.D, 0, none⟩)] w (StepR w0 w L S (stepS s f)) := by
  by_cases hb : s.broken = true
  · have HR : Hid (stepS s f = (s, f, false, 20)) := by unfold stepS; rw [Hid, if_pos hb]
    have h1 := eqq_some S.D
    have c9 := h.row 9 _ rfl
    rw [hb] at c9
    have H := Lib.hid h
    clear h ho hb
    go_enter Try.func59, Try.ntmps59
    go_wp2
    go_ret2
    unfold StepR
    rw [HR.out]
    exact ⟨rfl, ⟨S, rfl, rfl, H.out⟩, OnlyX.refl _ _⟩
  have hb' : s.broken = false := by simpa using hb
  by_cases hu : s.busy = true
  · by_cases he : s.erase = true
    · exact step_erase h ho hb' hu he
    · exact step_prog h ho hb' hu (by simpa using he)
  · have hu' : s.busy = false := by simpa using hu
    have HR : Hid (stepS s f = (s, f, false, 12)) := by unfold stepS; rw [Hid, if_neg hb, if_pos hu']
    have h1 := eqq_some S.D
    have c9 := h.row 9 _ rfl
    have c16 := h.row 16 _ rfl
    rw [hb'] at c9
    rw [hu'] at c16
    have H := Lib.hid h
    clear h ho hb hb' hu hu'
    go_enter Try.func59, Try.ntmps59
    go_wp2
    go_ret2
    unfold StepR
    rw [HR.out]
    exact ⟨rfl, ⟨S, rfl, rfl, H.out⟩, OnlyX.refl _ _⟩

/-- The steps that are left, as the memory says. -/
def leftW (D : Nat) (w : World) : Nat :=
  (match w.cell? ⟨D, 10, none⟩ with | some (.slice _ n _) => n | _ => 0) - (match w.cell? ⟨D, 14, none⟩ with | some (.int _ d) => d.toNat | _ => 0) + (match w.cell? ⟨D, 15, none⟩ with | some (.bool true) => 1 | _ => 0)
theorem StAt.left (h : StAt w0 w L S f s) : leftW S.D w = leftS s := by
  unfold leftW leftS
  rw [h.row 10 _ rfl, h.row 14 _ rfl, h.row 15 _ rfl]
  simp only [Int.toNat_natCast]
  cases s.erase <;> rfl

/-- What Commit leaves. -/
def CommitR (w0 w : World) (L : Lc) (S : Sc) (q : St × Fl × Int) (e : Ending) (w' : World) : Prop :=
  e = .returned (errV q.2.2) ∧ (∃ S', S'.D = S.D ∧ S'.G = S.G ∧ StAt w0 w' L S' q.2.1 q.1) ∧ OnlyX (Own L S) w w'

/-- Under way. -/
structure UnderWay (w0 w wr : World) (L : Lc) (S : Sc) (q : St × Fl × Int) (n : Nat) (S' : Sc) (s' : St) (f' : Fl) : Prop where
  d : S'.D = S.D
  g : S'.G = S.G
  st : StAt w0 wr L S' f' s'
  ok : StOk f' s'
  b : s'.broken = false
  u : s'.busy = true
  left : leftS s' ≤ n
  run : q = runS n s' f'
  only : OnlyX (Own L S) w wr

set_option maxRecDepth 100000 in
set_option maxHeartbeats 8000000 in
theorem commit_any (h : StAt w0 w L S f s) (ho : StOk f s) : Calls Try.prog 60 #[.pointer (some ⟨S.D, 0, none⟩)] w (CommitR w0 w L S (commitS s f)) := by
  have g1 := ne_nil
  have g2 := ne_err
  have HB := Lib.hid (begin_any h ho)
  by_cases hE : beginE s f = 0
  · have HC : Hid (commitS s f = runS 10 (beginS s f) f) := by unfold commitS; rw [Hid, if_neg (by rw [hE]; decide)]
    have HOB := Lib.hid (beginS_ok (f := f) ho)
    have HBS : Hid ((beginS s f).broken = false ∧ (beginS s f).busy = true ∧ leftS (beginS s f) ≤ 10) := by
      obtain ⟨a, b, _, _, e⟩ := beginE_zero hE
      have hk := HOB.out.k8
      have hb : (beginS s f).busy = true := by unfold beginS; rw [if_pos hE]
      have hp := HOB.out.pl hb
      refine ⟨?_, hb, ?_⟩
      · unfold beginS
        rw [if_pos hE]
        show (placeS (brkS s f) f).broken = false
        have : (placeS (brkS s f) f).broken = (brkS s f).broken := by unfold placeS; split <;> rfl
        rw [this]
        unfold brkS
        rw [a, b]
        rfl
      · unfold leftS
        split <;> omega
    rw [HC.out]
    obtain ⟨q, hq⟩ : ∃ q, runS 10 (beginS s f) f = q := ⟨_, rfl⟩
    have HQ := Lib.hid hq
    rw [hq]
    have HE := Lib.hid hE
    unfold BeginR at HB
    rw [hE, errV_zero] at HB
    clear h ho hE hq
    go_enter Try.func60, Try.ntmps60
    go_wp2_with (fail)
    (with_reducible refine HB.out.mono ?_)
    rintro e w1 ⟨rfl, ⟨S1, hd1, hg1, hs1⟩, ho1⟩
    have HU : Hid (UnderWay w0 w w1 L S q 10 S1 (beginS s f) f) := ⟨hd1, hg1, hs1, HOB.out, HBS.out.1, HBS.out.2.1, HBS.out.2.2, HQ.out.symm, ho1⟩
    clear hd1 hg1 hs1 ho1
    go_wp2
    go_loopw [4] (fun _ wr => ∃ n S' s' f', UnderWay w0 w wr L S q n S' s' f') (fun _ wr => leftW S.D wr)
    case atStart => exact ⟨_, _, _, _, HU.out⟩
    case round =>
      obtain ⟨n, S', s', f', hU⟩ := hrel
      have HV := Lib.hid hU
      have HLF : Hid (leftW S.D wr = leftS s') := by rw [← hU.d]; exact hU.st.left
      have HST := Lib.hid (step_any hU.st hU.ok)
      have hn : 1 ≤ n := Nat.le_trans (left_pos hU.ok hU.b hU.u) hU.left
      obtain ⟨m, rfl⟩ : ∃ m, n = m + 1 := ⟨n - 1, by omega⟩
      have HRUN := Lib.hid hU.run
      rw [runS_succ] at HRUN
      rw [hU.d] at HST
      have HLS := Lib.hid (left_step hU.ok hU.b hU.u)
      have HOK := Lib.hid (stepS_ok hU.ok)
      clear hU hn
      obtain ⟨r, hr⟩ : ∃ r, stepS s' f' = r := ⟨_, rfl⟩
      rw [hr] at HST HRUN HLS HOK
      obtain ⟨rs, rf, rd, re⟩ := r
      clear hr
      simp only at HRUN HLS HOK
      unfold StepR at HST
      simp only at HST
      by_cases hdn : rd = true
      · subst hdn
        have HF : Hid (q = (rs, rf, re)) := by rw [Hid, HRUN.out, if_pos (.inl rfl)]
        go_wp2_with (fail)
        (with_reducible refine HST.out.mono ?_)
        rintro e w2 ⟨rfl, ⟨S2, hd2, hg2, hs2⟩, ho2⟩
        have HS2 := Lib.hid hs2
        have HO2 := Lib.hid ho2
        have HD2 : Hid (S2.D = S.D ∧ S2.G = S.G) := ⟨hd2.trans HV.out.d, hg2.trans HV.out.g⟩
        clear hs2 ho2 hd2 hg2
        generalize hev : errV re = ev
        have HEV := Lib.hid hev
        clear hev
        go_wp2
        go_ret
        unfold CommitR
        rw [HF.out]
        exact ⟨by rw [HEV.out]; rfl, ⟨S2, HD2.out.1, HD2.out.2, HS2.out⟩, HV.out.only.trans (by rw [← Own.same HV.out.d HV.out.g]; exact HO2.out)⟩
      · have hdf : rd = false := by simpa using hdn
        subst hdf
        by_cases he : re = 0
        · subst he
          have HF : Hid (q = runS m rs rf) := by rw [Hid, HRUN.out, if_neg (by simp)]
          obtain ⟨l1, l2, l3⟩ := HLS.out rfl rfl
          have HL := Lib.hid l1
          have HL2 := Lib.hid l2
          have HL3 := Lib.hid l3
          rw [errV_zero] at HST
          clear l1 l2 l3
          go_wp2_with (fail)
          (with_reducible refine HST.out.mono ?_)
          rintro e w2 ⟨rfl, ⟨S2, hd2, hg2, hs2⟩, ho2⟩
          have HNEW : Hid (UnderWay w0 w w2 L S q m S2 rs rf) :=
            ⟨hd2.trans HV.out.d, hg2.trans HV.out.g, hs2, HOK.out, HL3.out, HL2.out, by have := HV.out.left; have := HL.out; omega, HF.out, HV.out.only.trans (by rw [← Own.same HV.out.d HV.out.g]; exact ho2)⟩
          clear hs2 ho2 hd2 hg2
          go_wp2
          go_roundw
          case rel => exact ⟨_, _, _, _, HNEW.out⟩
          case measure =>
            have e1 : leftW S.D w2 = leftS rs := by rw [← HNEW.out.d]; exact HNEW.out.st.left
            rw [e1, HLF.out]
            have := HL.out
            omega
        · have HF : Hid (q = (rs, rf, re)) := by rw [Hid, HRUN.out, if_pos (.inr he)]
          have HEE := Lib.hid (errV_ne he)
          rw [HEE.out] at HST
          clear he
          go_wp2_with (fail)
          (with_reducible refine HST.out.mono ?_)
          rintro e w2 ⟨rfl, ⟨S2, hd2, hg2, hs2⟩, ho2⟩
          have HS2 := Lib.hid hs2
          have HO2 := Lib.hid ho2
          have HD2 : Hid (S2.D = S.D ∧ S2.G = S.G) := ⟨hd2.trans HV.out.d, hg2.trans HV.out.g⟩
          clear hs2 ho2 hd2 hg2
          go_wp2
          go_ret
          unfold CommitR
          rw [HF.out]
          exact ⟨by rw [HEE.out]; rfl, ⟨S2, HD2.out.1, HD2.out.2, HS2.out⟩, HV.out.only.trans (by rw [← Own.same HV.out.d HV.out.g]; exact HO2.out)⟩
  · have HC : Hid (commitS s f = (beginS s f, f, beginE s f)) := by unfold commitS; rw [Hid, if_pos hE]
    unfold BeginR at HB
    have HE := Lib.hid (errV_ne hE)
    rw [HE.out] at HB
    rw [HC.out]
    clear h ho hE
    generalize beginE s f = k at *
    go_enter Try.func60, Try.ntmps60
    go_wp2_with (fail)
    (with_reducible refine HB.out.mono ?_)
    rintro e w1 ⟨rfl, hs1, ho1⟩
    have HS1 := Lib.hid hs1
    have HO1 := Lib.hid ho1
    clear hs1 ho1
    go_wp2
    go_ret
    unfold CommitR
    exact ⟨by rw [HE.out]; rfl, HS1.out, HO1.out⟩
end
end Go.Proofs.Ytfeceamhlphelaa
