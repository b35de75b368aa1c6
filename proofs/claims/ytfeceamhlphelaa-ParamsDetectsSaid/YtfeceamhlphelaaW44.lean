/-
  Params: Step.
-/
import Derived.Test.YtfeceamhlphelaaW43
namespace Go.Proofs.Ytfeceamhlphelaa
open Go.RowKit
set_option linter.unusedVariables false
set_option pp.deepTerms true

theorem eraseF_picks (f : Fl) (b : Int) : (eraseF f b).1.picks = f.picks := by
  unfold eraseF
  split
  · rfl
  split
  · rfl
  split
  · exact (cutF_same f).2.2.2
  · exact (cutF_same f).2.2.2
theorem progF_picks (f : Fl) (p : Int) (b : List Int) : (progF f p b).1.picks = f.picks := by
  unfold progF
  split
  · rfl
  split
  · rfl
  split
  · rfl
  split
  · exact (cutF_same f).2.2.2
  · exact (cutF_same f).2.2.2
theorem opS_picks (s : St) (f : Fl) : (opS s f).1.picks = f.picks := by
  unfold opS
  split
  · exact eraseF_picks _ _
  · exact progF_picks _ _ _

section
variable {w0 w : World} {L : Lc} {S : Sc} {f : Fl} {s : St}

/-- What Step leaves. -/
def StepR (w0 w : World) (L : Lc) (S : Sc) (q : St × Fl × Bool × Int) (e : Ending) (w' : World) : Prop :=
  e = .returned (.tuple #[.bool q.2.2.1, errV q.2.2.2]) ∧ (∃ S', S'.D = S.D ∧ S'.G = S.G ∧ StAt w0 w' L S' q.2.1 q.1) ∧ OnlyX (Own L S) w w'

theorem stepS_fail {k : Int} (hb : s.broken = false) (hu : s.busy = true) (h : (opS s f).2 ≠ 0) : stepS s f = ({ tickS s with broken := true }, (opS s f).1, false, 20) := by
  unfold stepS
  rw [if_neg (by rw [hb]; decide), if_neg (by rw [hu]; decide), if_pos h]
theorem stepS_more (hb : s.broken = false) (hu : s.busy = true) (h : (opS s f).2 = 0) (hl : (tickS s).done < (tickS s).pages.length) : stepS s f = (tickS s, (opS s f).1, false, 0) := by
  unfold stepS
  rw [if_neg (by rw [hb]; decide), if_neg (by rw [hu]; decide), if_neg (by rw [h]; decide), if_pos hl]
theorem stepS_last (hb : s.broken = false) (hu : s.busy = true) (h : (opS s f).2 = 0) (hl : ¬ (tickS s).done < (tickS s).pages.length) : stepS s f = (endS (tickS s), (opS s f).1, true, 0) := by
  unfold stepS
  rw [if_neg (by rw [hb]; decide), if_neg (by rw [hu]; decide), if_neg (by rw [h]; decide), if_neg hl]

set_option maxRecDepth 100000 in
set_option maxHeartbeats 8000000 in
theorem step_erase (h : StAt w0 w L S f s) (ho : StOk f s) (hb : s.broken = false) (hu : s.busy = true) (he : s.erase = true) :
    Calls Try.prog 59 #[.pointer (some ⟨S.D, 0, none⟩)] w (StepR w0 w L S (stepS s f)) := by
  have h1 := eqq_some S.D
  have g1 := ne_nil
  have g2 := ne_err
  have c0 := h.row 0 _ rfl
  have c1 := h.row 1 _ rfl
  have c9 := h.row 9 _ rfl
  have c12 := h.row 12 _ rfl
  have c15 := h.row 15 _ rfl
  have c16 := h.row 16 _ rfl
  rw [hb] at c9
  rw [hu] at c16
  rw [he] at c15
  have hw := h.fl.ok.b2
  have hfb := ho.fb
  have htb := ho.tb
  have hb16 := ho.b2
  have t0 : IntKind.i64.wrap ((s.first : Int) + (s.dest : Int)) = (s.first : Int) + (s.dest : Int) := IntWalk.i64_in _ (by omega)
  have HOP : Hid (opS s f = eraseF f ((s.first : Int) + (s.dest : Int))) := by unfold opS; rw [Hid, if_pos he]
  have HER : Hid (∀ W', Below w.heap.size w W' → Calls Try.prog 30 #[.pointer (some ⟨L.d, 0, none⟩), .int .i64 ((s.first : Int) + (s.dest : Int))] W' fun e w' => e = .returned (errV (opS s f).2) ∧ StAt w0 w' L S (opS s f).1 s ∧ OnlyX (Own L S) W' w') := by
    intro W' hbl
    rw [HOP.out]
    refine (erase_any (h.later hbl).fl ((s.first : Int) + (s.dest : Int))).mono ?_
    rintro e w' ⟨a, b, c⟩
    exact ⟨a, (h.later hbl).flash' b c (eraseF_picks _ _), .of_only c (Own.fl L S)⟩
  have HTK : Hid (tickS s = { s with erase := false }) := by unfold tickS; rw [Hid, if_pos he]
  have hdn := ho.dn hu hb
  have hpl := ho.pl hu
  have HKS : Hid (∀ W', StAt w0 W' L S (opS s f).1 s → W'.cell? ⟨S.D, 0, none⟩ = some (.pointer (some ⟨L.d, 0, none⟩)) ∧ W'.cell? ⟨S.D, 1, none⟩ = some (.int .i64 s.first) ∧ W'.cell? ⟨S.D, 12, none⟩ = some (.int .i64 s.dest)) :=
    fun W' hs => ⟨hs.row 0 _ rfl, hs.row 1 _ rfl, hs.row 12 _ rfl⟩
  by_cases hc : (opS s f).2 = 0
  · have HR := Lib.hid (stepS_more hb hu hc (by rw [HTK.out]; simp only; omega))
    rw [hc, errV_zero] at HER
    obtain ⟨f', hf'⟩ : ∃ f', (opS s f).1 = f' := ⟨_, rfl⟩
    have HF' := Lib.hid hf'
    rw [hf'] at HER HKS HR
    clear h ho hb hu he hfb hw hc hf'
    go_enter Try.func59, Try.ntmps59
    go_wp2_with (fail)
    go_region_held3 (fun w' => w'.cell? ⟨S.D, 0, none⟩ = some (.pointer (some ⟨L.d, 0, none⟩)) ∧ w'.cell? ⟨S.D, 1, none⟩ = some (.int .i64 s.first) ∧ w'.cell? ⟨S.D, 12, none⟩ = some (.int .i64 s.dest)) (first | go_keep | exact HKS.out _ hs9) (first
      | (go_at_call 30; refine (HER.out _ (by repeat (first | exact Below.refl _ _ | refine Below.drew ?_ | refine Below.drewN ?_ _))).mono ?_; rintro e we ⟨rfl, hs9, ho9⟩))
    have HS9 := Lib.hid hs9
    have HO9 : Hid (OnlyX (Own L S) w we) := (OnlyX.of_below (by repeat (first | exact Below.refl _ _ | refine Below.drew ?_ | refine Below.drewN ?_ _))).trans ho9
    clear hs9 ho9
    have e15 := HS9.out.row 15 _ rfl
    have e14 := HS9.out.row 14 _ rfl
    have e10 := HS9.out.row 10 _ rfl
    have z15 := HS9.out.fz 15
    rw [hpl] at e10
    have HER2 := Lib.hid (HS9.out.er false)
    rw [← HTK.out] at HER2
    go_wp2
    go_quiet (fail)
    go_wp2
    go_ret2
    unfold StepR
    rw [HR.out]
    exact ⟨rfl, ⟨S, rfl, rfl, HER2.out.1.later (Below.drewN (Below.refl _ _) _)⟩, (HO9.out.trans HER2.out.2).trans (OnlyX.of_below (Below.drewN (Below.refl _ _) _))⟩
  · have HR := Lib.hid (stepS_fail (k := 0) hb hu hc)
    have HE := Lib.hid (errV_ne hc)
    rw [HE.out] at HER
    obtain ⟨f', hf'⟩ : ∃ f', (opS s f).1 = f' := ⟨_, rfl⟩
    have HF' := Lib.hid hf'
    rw [hf'] at HER HKS HR
    generalize (opS s f).2 = kk at *
    clear h ho hb hu he hfb hw hc hf'
    go_enter Try.func59, Try.ntmps59
    go_wp2_with (fail)
    go_region_held3 (fun w' => w'.cell? ⟨S.D, 0, none⟩ = some (.pointer (some ⟨L.d, 0, none⟩)) ∧ w'.cell? ⟨S.D, 1, none⟩ = some (.int .i64 s.first) ∧ w'.cell? ⟨S.D, 12, none⟩ = some (.int .i64 s.dest)) (first | go_keep | exact HKS.out _ hs9) (first
      | (go_at_call 30; refine (HER.out _ (by repeat (first | exact Below.refl _ _ | refine Below.drew ?_ | refine Below.drewN ?_ _))).mono ?_; rintro e we ⟨rfl, hs9, ho9⟩))
    have HS9 := Lib.hid hs9
    have HO9 : Hid (OnlyX (Own L S) w we) := (OnlyX.of_below (by repeat (first | exact Below.refl _ _ | refine Below.drew ?_ | refine Below.drewN ?_ _))).trans ho9
    clear hs9 ho9
    have e15 := HS9.out.row 15 _ rfl
    have e9 := HS9.out.row 9 _ rfl
    have z15 := HS9.out.fz 15
    have z9 := HS9.out.fz 9
    have HER2 := Lib.hid (HS9.out.er false)
    have HBR2 := Lib.hid (HER2.out.1.br true)
    go_wp2
    go_ret2
    unfold StepR
    rw [HR.out, HTK.out]
    exact ⟨rfl, ⟨S, rfl, rfl, HBR2.out.1⟩, (HO9.out.trans HER2.out.2).trans HBR2.out.2⟩
end
end Go.Proofs.Ytfeceamhlphelaa
