/-
  Firmware: Step of a bank.
-/
import Derived.Test.YtjdknddnanopaaaF12
namespace Go.Proofs.Ytjdknddnanopaaa
open Go.RowKit
set_option linter.unusedVariables false
set_option linter.unusedSimpArgs false

section
variable {w0 w w1 w' : World} {L L' : Lc} {S S' : Sc} {K K' : Kc} {f f' : Fl} {b b' : Bk} {s : St}
def StepBR (w0 w : World) (L : Lc) (S : Sc) (K : Kc) (q : Bk × Fl × Bool × Int) (e : Ending) (w' : World) : Prop :=
  e = .returned (.tuple #[.bool q.2.2.1, errV q.2.2.2]) ∧ BkTo w0 w L S K q.2.1 q.1 w'
theorem BkAt.flash (h : BkAt w0 w L S K f b) (hf : FlAt w0 w' L f') (ho : Only L w w') (hp : f'.picks = f.picks) : BkAt w0 w' L S K f' b ∧ Aft w w' L S K L S K :=
  ⟨h.prog (h.st.flash' hf ho hp) rfl rfl (.of_only ho (Own5.fl L S)), Aft.of_store (.of_only ho (Own5.fl L S)) rfl rfl⟩
theorem workB_rec (b : Bk) (f : Fl) (s : St) (d : Bool) (h1 : b.erase = []) (h2 : b.data = none) : workB { rdyB b f with st := s, record := !d } = !d := by
  show (!b.erase.isEmpty || b.data.isSome || !d) = !d
  rw [h1, h2]
  rfl

set_option maxRecDepth 100000 in
set_option maxHeartbeats 8000000 in
theorem fstep_any (h : BkAt w0 w L S K f b) (ho : BkOk f b) : Calls Try.prog 35 #[.pointer (some ⟨K.D, 0, none⟩)] w (StepBR w0 w L S K (stepB b f)) := by
  have g1 := ne_nil
  have g2 := ne_err
  have HR := Lib.hid (fready_any h)
  have HO := Lib.hid (rdy_ok ho)
  by_cases hbr : (rdyB b f).broken = true
  · have HB : Hid (stepB b f = (rdyB b f, f, false, 20)) := by unfold stepB; rw [Hid, if_pos hbr]
    rw [if_pos hbr, errV_ne (by decide)] at HR
    clear h ho hbr
    go_enter Try.func35, Try.ntmps35
    go_wp2_with (fail)
    (with_reducible refine HR.out.mono ?_)
    rintro e w1 ⟨rfl, hK, hX⟩
    have HK := Lib.hid hK
    have HX := Lib.hid hX
    clear hK hX
    go_wp2
    go_ret2
    rw [HB.out]
    exact ⟨rfl, .mk' (.bank HX.out) HK.out⟩
  have hbf : (rdyB b f).broken = false := by simpa using hbr
  have HU := Lib.hid (rdy_up hbf)
  rw [if_neg hbr, errV_zero] at HR
  have HNE : Hid (∀ d, (rdyB b f).data = some d → d ≠ []) := ho.ne
  cases he : b.erase with
  | cons e0 l =>
    have hq := h.er
    rw [he] at hq
    obtain ⟨g, off, cap, hv, hcap, hcapm, -, hq2⟩ := hq.front
    have hgn := h.en g (by rw [hv]; rfl)
    have HV9 := Lib.hid hv
    have HHK : Hid (∀ (W : World) (f' : Fl) (b' : Bk), BkAt w0 W L S K f' b' → b'.erase = e0 :: l → W.cell? ⟨K.D, 0, none⟩ = some (.pointer (some ⟨L.d, 0, none⟩)) ∧ W.cell? ⟨K.D, 11, none⟩ = some (.slice (some ⟨g, off, none⟩) (l.length + 1) cap) ∧ W.cell? ⟨g, off, none⟩ = some (.int .i64 e0)) := fun W f' b' hK hb' => by
      have h1 := hK.row 0 _ rfl
      have h2 := hK.row 11 _ rfl
      have h3 := hK.er
      rw [hb'] at h3
      obtain ⟨g', off', cap', hv', -, -, h4, -⟩ := h3.front
      rw [HV9.out] at hv' h2
      injection hv' with e1 _ _
      injection e1 with e1
      injection e1 with e1 e2
      subst e1 e2
      exact ⟨h1, h2, h4⟩
    have HQ : Hid (∀ (W : World) (f' : Fl) (b' : Bk), BkAt w0 W L S K f' b' → b'.erase = e0 :: l → QS W 3 w0.heap.size (if cap = 1 then .slice (some ⟨g, off, none⟩) l.length 0 else .slice (some ⟨g, off + 1, none⟩) l.length (cap - 1)) l) := fun W f' b' hK hb' => by
      have h3 := hK.er
      rw [hb'] at h3
      obtain ⟨g', off', cap', hv', -, -, -, h5⟩ := h3.front
      rw [HV9.out] at hv'
      injection hv' with e1 _ e3
      injection e1 with e1
      injection e1 with e1 e2
      subst e1 e2 e3
      exact h5
    have HRE : Hid ((rdyB b f).erase = e0 :: l) := he
    have HGN := Lib.hid hgn
    have HER : Hid (∀ w1 : World, BkAt w0 w1 L S K f (rdyB b f) → ∀ q, Calls Try.prog 63 #[.pointer (some ⟨L.d, 0, none⟩), .int .i64 e0] (w1.drewN q) fun e w' => e = .returned (errV (eraseF f e0).2) ∧ BkAt w0 w' L S K (eraseF f e0).1 (rdyB b f) ∧ Aft w1 w' L S K L S K) := fun w1 hK q => by
      have hb := Below.drewN (Below.refl w1.heap.size w1) q
      have hk := hK.later hb
      refine (erase_any hk.st.fl e0).mono ?_
      rintro e w' ⟨he, hf, ho⟩
      obtain ⟨x1, x2⟩ := hk.flash hf ho (eraseF_picks f e0)
      exact ⟨he, x1, (Aft.of_below hb).trans x2⟩
    obtain ⟨F2, hF2⟩ : ∃ x, (eraseF f e0).1 = x := ⟨_, rfl⟩
    obtain ⟨n, hn⟩ : ∃ n, l.length = n := ⟨_, rfl⟩
    obtain ⟨W9, hW9⟩ : ∃ x, workB { b with erase := l } = x := ⟨_, rfl⟩
    have HWB := Lib.hid hW9
    have HSB : Hid (stepB b f = if (eraseF f e0).2 ≠ 0 then ({ rdyB b f with broken := true }, F2, false, 20) else ({ rdyB b f with erase := l }, F2, !W9, 0)) := by
      unfold stepB
      rw [Hid, if_neg hbr, he, ← hF2, ← hW9]
    rw [hF2] at HER
    rw [hn] at HHK HQ hcap
    unfold maxLen at hcapm
    clear h ho hbr hbf hq hq2 hv he hF2 hgn hW9
    by_cases hc : (eraseF f e0).2 = 0
    · have HB : Hid (stepB b f = ({ rdyB b f with erase := l }, F2, !W9, 0)) := by rw [Hid, HSB.out, if_neg (by rw [hc]; decide)]
      rw [hc, errV_zero] at HER
      clear hc
      by_cases hc1 : cap = 1
      · have hn0 : n = 0 := by omega
        rw [if_pos hc1] at HQ
        subst hc1
        subst hn0
        go_enter Try.func35, Try.ntmps35
        go_wp2_with (fail)
        (with_reducible refine HR.out.mono ?_)
        rintro e w1 ⟨rfl, hK, hX⟩
        have HK := Lib.hid hK
        have HX := Lib.hid hX
        clear hK hX
        have c11 := (HHK.out _ _ _ HK.out HRE.out).2.1
        have c0 := (HHK.out _ _ _ HK.out HRE.out).1
        have cg := (HHK.out _ _ _ HK.out HRE.out).2.2
        have HER1 := Lib.hid (HER.out _ HK.out)
        have HKS : Hid (∀ q, (w1.drewN q).cell? ⟨K.D, 0, none⟩ = some (.pointer (some ⟨L.d, 0, none⟩)) ∧ (w1.drewN q).cell? ⟨K.D, 11, none⟩ = some (.slice (some ⟨g, off, none⟩) 1 1) ∧ (w1.drewN q).cell? ⟨g, off, none⟩ = some (.int .i64 e0)) := fun q => HHK.out _ _ _ (HK.out.later (Below.drewN (Below.refl _ _) q)) HRE.out
        go_wp2_with (fail)
        go_region_held3 (fun w9 => w9.cell? ⟨K.D, 0, none⟩ = some (.pointer (some ⟨L.d, 0, none⟩)) ∧ w9.cell? ⟨K.D, 11, none⟩ = some (.slice (some ⟨g, off, none⟩) 1 1) ∧ w9.cell? ⟨g, off, none⟩ = some (.int .i64 e0)) (first | exact HKS.out _ | exact HHK.out _ _ _ hKa HRE.out | go_keep) (first
          | (go_at_call 63; refine (HER1.out _).mono ?_; rintro e wa ⟨rfl, hKa, hAa⟩)
          | fail)
        all_goals
          have d11 := (HHK.out _ _ _ hKa HRE.out).2.1
          have z11 := hKa.fz 11
          have HC := Lib.hid (hKa.cell 11 (.slice (some ⟨g, off, none⟩) 0 0) { K with v := (.slice (some ⟨g, off, none⟩) 0 0) } { rdyB b f with erase := l } rfl rfl rfl (HQ.out _ _ _ hKa HRE.out) (fun x hx => by
            have e : g = x := by injection hx
            subst e
            exact HGN.out) hKa.dt)
          have HA9 : Hid (Aft w (wa.setCell ⟨K.D, 11, none⟩ (.slice (some ⟨g, off, none⟩) 0 0)) L S K L S { K with v := (.slice (some ⟨g, off, none⟩) 0 0) }) := (Aft.bank HX.out).trans (hAa.trans (Aft.of_bank HC.out.2 (K' := { K with v := (.slice (some ⟨g, off, none⟩) 0 0) }) rfl (fun x _ hx => by
            have e : g = x := by injection hx
            subst e
            rw [HV9.out]
            rfl)))
          have HW9 := Lib.hid HC.out.1
          have HNE9 : Hid (∀ d, ({ rdyB b f with erase := l } : Bk).data = some d → d ≠ []) := HNE.out
          have HWK9 : Hid (workB { rdyB b f with erase := l } = W9) := HWB.out
          clear hKa hAa c11 c0 cg
          go_wp2_with (fail)
          (with_reducible refine (fwork_any HW9.out HNE9.out).mono ?_)
          rintro e w9 ⟨rfl, rfl⟩
          rw [HWK9.out]
          go_wp2
          go_ret2
          rw [HB.out]
          exact ⟨rfl, .mk' HA9.out HW9.out⟩
      · rw [if_neg hc1] at HQ
        have hc2 : 2 ≤ cap := by omega
        have hc3 : (1 : Int) ≤ (cap : Int) := by omega
        have hc4 : ¬ (cap : Int) = 1 := by omega
        obtain ⟨M, hM⟩ : ∃ M, n + 1 = M := ⟨_, rfl⟩
        rw [hM] at HHK hcap
        go_enter Try.func35, Try.ntmps35
        go_wp2_with (fail)
        (with_reducible refine HR.out.mono ?_)
        rintro e w1 ⟨rfl, hK, hX⟩
        have HK := Lib.hid hK
        have HX := Lib.hid hX
        clear hK hX
        have c11 := (HHK.out _ _ _ HK.out HRE.out).2.1
        have c0 := (HHK.out _ _ _ HK.out HRE.out).1
        have cg := (HHK.out _ _ _ HK.out HRE.out).2.2
        have HER1 := Lib.hid (HER.out _ HK.out)
        have HKS : Hid (∀ q, (w1.drewN q).cell? ⟨K.D, 0, none⟩ = some (.pointer (some ⟨L.d, 0, none⟩)) ∧ (w1.drewN q).cell? ⟨K.D, 11, none⟩ = some (.slice (some ⟨g, off, none⟩) M cap) ∧ (w1.drewN q).cell? ⟨g, off, none⟩ = some (.int .i64 e0)) := fun q => HHK.out _ _ _ (HK.out.later (Below.drewN (Below.refl _ _) q)) HRE.out
        go_wp2_with (fail)
        go_region_held3 (fun w9 => w9.cell? ⟨K.D, 0, none⟩ = some (.pointer (some ⟨L.d, 0, none⟩)) ∧ w9.cell? ⟨K.D, 11, none⟩ = some (.slice (some ⟨g, off, none⟩) M cap) ∧ w9.cell? ⟨g, off, none⟩ = some (.int .i64 e0)) (first | exact HKS.out _ | exact HHK.out _ _ _ hKa HRE.out | go_keep) (first
          | (go_at_call 63; refine (HER1.out _).mono ?_; rintro e wa ⟨rfl, hKa, hAa⟩)
          | fail)
        all_goals
          have hM1 : M - 1 = n := by omega
          have hM2 : 1 ≤ M := by omega
          have d11 := (HHK.out _ _ _ hKa HRE.out).2.1
          have z11 := hKa.fz 11
          have HC := Lib.hid (hKa.cell 11 (.slice (some ⟨g, off + 1, none⟩) n (cap - 1)) { K with v := (.slice (some ⟨g, off + 1, none⟩) n (cap - 1)) } { rdyB b f with erase := l } rfl rfl rfl (HQ.out _ _ _ hKa HRE.out) (fun x hx => by
            have e : g = x := by injection hx
            subst e
            exact HGN.out) hKa.dt)
          have HA9 : Hid (Aft w (wa.setCell ⟨K.D, 11, none⟩ (.slice (some ⟨g, off + 1, none⟩) n (cap - 1))) L S K L S { K with v := (.slice (some ⟨g, off + 1, none⟩) n (cap - 1)) }) := (Aft.bank HX.out).trans (hAa.trans (Aft.of_bank HC.out.2 (K' := { K with v := (.slice (some ⟨g, off + 1, none⟩) n (cap - 1)) }) rfl (fun x _ hx => by
            have e : g = x := by injection hx
            subst e
            rw [HV9.out]
            rfl)))
          have HW9 := Lib.hid HC.out.1
          have HNE9 : Hid (∀ d, ({ rdyB b f with erase := l } : Bk).data = some d → d ≠ []) := HNE.out
          have HWK9 : Hid (workB { rdyB b f with erase := l } = W9) := HWB.out
          clear hKa hAa c11 c0 cg
          go_wp2_with (fail)
          (with_reducible refine (fwork_any HW9.out HNE9.out).mono ?_)
          rintro e w9 ⟨rfl, rfl⟩
          rw [HWK9.out]
          go_wp2
          go_ret2
          rw [HB.out]
          exact ⟨rfl, .mk' HA9.out HW9.out⟩
    · have HB : Hid (stepB b f = ({ rdyB b f with broken := true }, F2, false, 20)) := by rw [Hid, HSB.out, if_pos hc]
      rw [errV_ne hc] at HER
      clear hc
      obtain ⟨M, hM⟩ : ∃ M, n + 1 = M := ⟨_, rfl⟩
      rw [hM] at HHK hcap
      have hM2 : 1 ≤ M := by omega
      go_enter Try.func35, Try.ntmps35
      go_wp2_with (fail)
      (with_reducible refine HR.out.mono ?_)
      rintro e w1 ⟨rfl, hK, hX⟩
      have HK := Lib.hid hK
      have HX := Lib.hid hX
      clear hK hX
      have c11 := (HHK.out _ _ _ HK.out HRE.out).2.1
      have c0 := (HHK.out _ _ _ HK.out HRE.out).1
      have cg := (HHK.out _ _ _ HK.out HRE.out).2.2
      have HER1 := Lib.hid (HER.out _ HK.out)
      have HKS : Hid (∀ q, (w1.drewN q).cell? ⟨K.D, 0, none⟩ = some (.pointer (some ⟨L.d, 0, none⟩)) ∧ (w1.drewN q).cell? ⟨K.D, 11, none⟩ = some (.slice (some ⟨g, off, none⟩) M cap) ∧ (w1.drewN q).cell? ⟨g, off, none⟩ = some (.int .i64 e0)) := fun q => HHK.out _ _ _ (HK.out.later (Below.drewN (Below.refl _ _) q)) HRE.out
      go_wp2_with (fail)
      go_region_held3 (fun w9 => w9.cell? ⟨K.D, 0, none⟩ = some (.pointer (some ⟨L.d, 0, none⟩)) ∧ w9.cell? ⟨K.D, 11, none⟩ = some (.slice (some ⟨g, off, none⟩) M cap) ∧ w9.cell? ⟨g, off, none⟩ = some (.int .i64 e0)) (first | exact HKS.out _ | exact HHK.out _ _ _ hKa HRE.out | go_keep) (first
        | (go_at_call 63; refine (HER1.out _).mono ?_; rintro e wa ⟨rfl, hKa, hAa⟩)
        | fail)
      all_goals
        have HK2 := Lib.hid hKa
        have HA2 : Hid (Aft w wa L S K L S K) := (Aft.bank HX.out).trans hAa
        clear hKa hAa c11 c0 cg
        go_wp2_with (fail)
        (with_reducible refine (ffail_any HK2.out).mono ?_)
        rintro e w7 ⟨rfl, hK, hX⟩
        have HK7 := Lib.hid hK
        have HA7 := Lib.hid (HA2.out.trans (.bank hX))
        clear hK hX
        go_wp2
        go_ret2
        rw [HB.out]
        exact ⟨rfl, .mk' HA7.out HK7.out⟩
  | nil =>
    obtain ⟨A9, c9, hv9, -, -⟩ := h.er.form
    rw [he] at hv9
    have HV9 : Hid (K.v = .slice A9 0 c9) := hv9
    cases hdd : b.data with
    | some d =>
      obtain ⟨hd64, hdb⟩ := ho.dt d hdd
      have hdat : DatV (Own L S) w K (some d) := by have := h.dt; rw [hdd] at this; exact this
      obtain ⟨ad, had⟩ := DatV.some_addr hdat (ho.ne d hdd)
      have hKn : K.n = 64 := by rw [← hdat.2.1]; exact hd64
      have hpg : b.page < 1024 := ho.page
      have HPR : Hid (∀ w1 : World, BkAt w0 w1 L S K f (rdyB b f) → ∀ q, Calls Try.prog 65 #[.pointer (some ⟨L.d, 0, none⟩), .int .i64 b.page, .slice (some ad) 64 K.c] (w1.drewN q) fun e w' => e = .returned (errV (progF f b.page d).2) ∧ BkAt w0 w' L S K (progF f b.page d).1 (rdyB b f) ∧ Aft w1 w' L S K L S K) := fun w1 hK q => by
        have hb := Below.drewN (Below.refl w1.heap.size w1) q
        have hk := hK.later hb
        have hdt : DatV (Own L S) (w1.drewN q) K (some d) := by have := hk.dt; rw [show (rdyB b f).data = some d from hdd] at this; exact this
        have hap : Apart L (w1.drewN q) (some ad) (kcells .u8 d) := by rw [← had]; exact hdt.1.apart (Own.fl L S)
        refine (program_any hk.st.fl (b.page : Int) (some ad) 64 K.c d hap hd64 (by rw [← hKn]; exact hdt.2.2.1) hdt.2.2.2 hdb).mono ?_
        rintro e w' ⟨he, hf, ho⟩
        obtain ⟨x1, x2⟩ := hk.flash hf ho (progF_picks f _ _)
        exact ⟨he, x1, (Aft.of_below hb).trans x2⟩
      have HHK : Hid (∀ (W : World) (f' : Fl), BkAt w0 W L S K f' (rdyB b f) → W.cell? ⟨K.D, 0, none⟩ = some (.pointer (some ⟨L.d, 0, none⟩)) ∧ W.cell? ⟨K.D, 12, none⟩ = some (.int .i64 b.page) ∧ W.cell? ⟨K.D, 13, none⟩ = some (.slice (some ad) 64 K.c)) := fun W f' hK => by
        have h3 := hK.row 13 _ rfl
        rw [had, hKn] at h3
        exact ⟨hK.row 0 _ rfl, hK.row 12 _ rfl, h3⟩
      have e1 := nes8_some ad 64 K.c
      have HRE : Hid ((rdyB b f).erase = []) := he
      have HREC := Lib.hid he
      obtain ⟨F2, hF2⟩ : ∃ x, (progF f b.page d).1 = x := ⟨_, rfl⟩
      obtain ⟨W9, hW9⟩ : ∃ x, workB { b with data := none } = x := ⟨_, rfl⟩
      have HWB := Lib.hid hW9
      have HSB : Hid (stepB b f = if (progF f b.page d).2 ≠ 0 then ({ rdyB b f with broken := true }, F2, false, 20) else ({ rdyB b f with data := none }, F2, !W9, 0)) := by
        unfold stepB
        rw [Hid, if_neg hbr, ← hF2, ← hW9, he, hdd]
      have HAD : Hid (K.A = some ad ∧ K.n = 64) := ⟨had, hKn⟩
      rw [hF2] at HPR
      clear h ho hbr hbf hv9 he hdd hdat had hKn hF2 hW9 hd64 hdb
      by_cases hc : (progF f b.page d).2 = 0
      · have HB : Hid (stepB b f = ({ rdyB b f with data := none }, F2, !W9, 0)) := by rw [Hid, HSB.out, if_neg (by rw [hc]; decide)]
        rw [hc, errV_zero] at HPR
        clear hc
        go_enter Try.func35, Try.ntmps35
        go_wp2_with (fail)
        (with_reducible refine HR.out.mono ?_)
        rintro e w1 ⟨rfl, hK, hX⟩
        have HK := Lib.hid hK
        have HX := Lib.hid hX
        clear hK hX
        have c11 : w1.cell? ⟨K.D, 11, none⟩ = some (.slice A9 0 c9) := by rw [← HV9.out]; exact HK.out.row 11 _ rfl
        obtain ⟨c0, c12, c13⟩ := HHK.out _ _ HK.out
        have HPR1 := Lib.hid (HPR.out _ HK.out)
        have HKS : Hid (∀ q, (w1.drewN q).cell? ⟨K.D, 0, none⟩ = some (.pointer (some ⟨L.d, 0, none⟩)) ∧ (w1.drewN q).cell? ⟨K.D, 12, none⟩ = some (.int .i64 b.page) ∧ (w1.drewN q).cell? ⟨K.D, 13, none⟩ = some (.slice (some ad) 64 K.c)) := fun q => HHK.out _ _ (HK.out.later (Below.drewN (Below.refl _ _) q))
        go_wp2_with (fail)
        go_region_held3 (fun w9 => w9.cell? ⟨K.D, 0, none⟩ = some (.pointer (some ⟨L.d, 0, none⟩)) ∧ w9.cell? ⟨K.D, 12, none⟩ = some (.int .i64 b.page) ∧ w9.cell? ⟨K.D, 13, none⟩ = some (.slice (some ad) 64 K.c)) (first | exact HKS.out _ | exact HHK.out _ _ hKa | go_keep) (first
          | (go_at_call 65; refine (HPR1.out _).mono ?_; rintro e wa ⟨rfl, hKa, hAa⟩)
          | fail)
        all_goals
          have d13 := (HHK.out _ _ hKa).2.2
          have z13 := hKa.fz 13
          have HC := Lib.hid (hKa.cell 13 (.slice none 0 0) { K with A := none, n := 0, c := 0 } { rdyB b f with data := none } rfl rfl rfl hKa.er hKa.en ⟨rfl, rfl, rfl⟩)
          have HA9 : Hid (Aft w (wa.setCell ⟨K.D, 13, none⟩ (.slice none 0 0)) L S K L S { K with A := none, n := 0, c := 0 }) := (Aft.bank HX.out).trans (hAa.trans (Aft.of_bank HC.out.2 (K' := { K with A := none, n := 0, c := 0 }) rfl (fun x _ hx => hx)))
          have HW9 := Lib.hid HC.out.1
          have HNE9 : Hid (∀ d, ({ rdyB b f with data := none } : Bk).data = some d → d ≠ []) := fun d hd => by cases hd
          have HWK9 : Hid (workB { rdyB b f with data := none } = W9) := HWB.out
          clear hKa hAa c11 c0 c12 c13
          go_wp2_with (fail)
          (with_reducible refine (fwork_any HW9.out HNE9.out).mono ?_)
          rintro e w9 ⟨rfl, rfl⟩
          rw [HWK9.out]
          go_wp2
          go_ret2
          rw [HB.out]
          exact ⟨rfl, .mk' HA9.out HW9.out⟩
      · have HB : Hid (stepB b f = ({ rdyB b f with broken := true }, F2, false, 20)) := by rw [Hid, HSB.out, if_pos hc]
        rw [errV_ne hc] at HPR
        clear hc
        go_enter Try.func35, Try.ntmps35
        go_wp2_with (fail)
        (with_reducible refine HR.out.mono ?_)
        rintro e w1 ⟨rfl, hK, hX⟩
        have HK := Lib.hid hK
        have HX := Lib.hid hX
        clear hK hX
        have c11 : w1.cell? ⟨K.D, 11, none⟩ = some (.slice A9 0 c9) := by rw [← HV9.out]; exact HK.out.row 11 _ rfl
        obtain ⟨c0, c12, c13⟩ := HHK.out _ _ HK.out
        have HPR1 := Lib.hid (HPR.out _ HK.out)
        have HKS : Hid (∀ q, (w1.drewN q).cell? ⟨K.D, 0, none⟩ = some (.pointer (some ⟨L.d, 0, none⟩)) ∧ (w1.drewN q).cell? ⟨K.D, 12, none⟩ = some (.int .i64 b.page) ∧ (w1.drewN q).cell? ⟨K.D, 13, none⟩ = some (.slice (some ad) 64 K.c)) := fun q => HHK.out _ _ (HK.out.later (Below.drewN (Below.refl _ _) q))
        go_wp2_with (fail)
        go_region_held3 (fun w9 => w9.cell? ⟨K.D, 0, none⟩ = some (.pointer (some ⟨L.d, 0, none⟩)) ∧ w9.cell? ⟨K.D, 12, none⟩ = some (.int .i64 b.page) ∧ w9.cell? ⟨K.D, 13, none⟩ = some (.slice (some ad) 64 K.c)) (first | exact HKS.out _ | exact HHK.out _ _ hKa | go_keep) (first
          | (go_at_call 65; refine (HPR1.out _).mono ?_; rintro e wa ⟨rfl, hKa, hAa⟩)
          | fail)
        all_goals
          have HK2 := Lib.hid hKa
          have HA2 : Hid (Aft w wa L S K L S K) := (Aft.bank HX.out).trans hAa
          clear hKa hAa c11 c0 c12 c13
          go_wp2_with (fail)
          (with_reducible refine (ffail_any HK2.out).mono ?_)
          rintro e w7 ⟨rfl, hK, hX⟩
          have HK7 := Lib.hid hK
          have HA7 := Lib.hid (HA2.out.trans (.bank hX))
          clear hK hX
          go_wp2
          go_ret2
          rw [HB.out]
          exact ⟨rfl, .mk' HA7.out HK7.out⟩
    | none =>
      obtain ⟨a1, a2, a3⟩ : K.A = none ∧ K.n = 0 ∧ K.c = 0 := by have := h.dt; rw [hdd] at this; exact this
      have e1 := nes8_none
      have HHK : Hid (∀ W : World, BkAt w0 W L S K f (rdyB b f) → W.cell? ⟨K.D, 13, none⟩ = some (.slice none 0 0)) := fun W hK => by
        have h3 := hK.row 13 _ rfl
        rw [a1, a2, a3] at h3
        exact h3
      have HNE9 : Hid (∀ d, (rdyB b f).data = some d → d ≠ []) := fun d hd => by rw [show (rdyB b f).data = none from hdd] at hd; cases hd
      by_cases hrc : b.record = true
      · have HRC := Lib.hid hrc
        have HED : Hid (b.erase = [] ∧ b.data = none) := ⟨he, hdd⟩
        obtain ⟨q, hq⟩ : ∃ q, stepS b.st f = q := ⟨_, rfl⟩
        have HSP : Hid (∀ w1 : World, BkAt w0 w1 L S K f (rdyB b f) → Calls Try.prog 84 #[.pointer (some ⟨S.D, 0, none⟩)] w1 (StepR w0 w1 L S q)) := fun w1 hK => by
          have := step_any hK.st HO.out.ok
          rw [show stepS (rdyB b f).st f = q from hq] at this
          exact this
        have HSB : Hid (stepB b f = if q.2.2.2 ≠ 0 then ({ rdyB b f with st := q.1, broken := true }, q.2.1, false, 20) else ({ rdyB b f with st := q.1, record := !q.2.2.1 }, q.2.1, q.2.2.1, 0)) := by
          unfold stepB
          rw [Hid, if_neg hbr, he, hdd]
          simp only [hrc, if_pos, hq]
        obtain ⟨qs, qf, qd, qe⟩ := q
        simp only at HSB
        clear h ho hbr hbf hv9 he hdd hq a1 a2 a3
        by_cases hc : qe = 0
        · have HB : Hid (stepB b f = ({ rdyB b f with st := qs, record := !qd }, qf, qd, 0)) := by rw [Hid, HSB.out, if_neg (by rw [hc]; decide)]
          go_enter Try.func35, Try.ntmps35
          go_wp2_with (fail)
          (with_reducible refine HR.out.mono ?_)
          rintro e w1 ⟨rfl, hK, hX⟩
          have HK := Lib.hid hK
          have HX := Lib.hid hX
          clear hK hX
          have c11 : w1.cell? ⟨K.D, 11, none⟩ = some (.slice A9 0 c9) := by rw [← HV9.out]; exact HK.out.row 11 _ rfl
          have c13 := HHK.out _ HK.out
          have c14 : w1.cell? ⟨K.D, 14, none⟩ = some (.bool b.record) := HK.out.row 14 _ rfl
          have c3 : w1.cell? ⟨K.D, 3, none⟩ = some (.pointer (some ⟨S.D, 0, none⟩)) := HK.out.row 3 _ rfl
          rw [HRC.out] at c14
          have HST := Lib.hid (HSP.out _ HK.out)
          unfold StepR at HST
          simp only at HST
          rw [hc, errV_zero] at HST
          clear hc
          go_wp2_with (fail)
          (with_reducible refine HST.out.mono ?_)
          rintro e w6 ⟨rfl, ⟨S6, hd6, hg6, hs6⟩, ho6⟩
          have HK6 := Lib.hid (HK.out.prog hs6 hd6 hg6 ho6)
          have HA6 : Hid (Aft w w6 L S K L S6 K) := (Aft.bank HX.out).trans (Aft.of_store ho6 hd6 hg6)
          have d14 : w6.cell? ⟨K.D, 14, none⟩ = some (.bool b.record) := HK6.out.row 14 _ rfl
          have z14 := HK6.out.fz 14
          have HC := Lib.hid (HK6.out.cell' 14 (.bool (!qd)) { rdyB b f with st := qs, record := !qd } rfl rfl rfl rfl)
          have HW9 := Lib.hid HC.out.1
          have HNE8 : Hid (∀ d, ({ rdyB b f with st := qs, record := !qd } : Bk).data = some d → d ≠ []) := HNE9.out
          have HWK9 : Hid (workB { rdyB b f with st := qs, record := !qd } = !qd) := workB_rec b f qs qd HED.out.1 HED.out.2
          clear hd6 hg6 hs6 ho6 c11 c13 c14 c3
          go_wp2_with (fail)
          (with_reducible refine (fwork_any HW9.out HNE8.out).mono ?_)
          rintro e w9 ⟨rfl, rfl⟩
          rw [HWK9.out]
          go_wp2
          go_ret2
          rw [HB.out]
          exact ⟨by simp [errV_zero], .mk' (HA6.out.trans (.bank HC.out.2)) HW9.out⟩
        · have HB : Hid (stepB b f = ({ rdyB b f with st := qs, broken := true }, qf, false, 20)) := by rw [Hid, HSB.out, if_pos hc]
          go_enter Try.func35, Try.ntmps35
          go_wp2_with (fail)
          (with_reducible refine HR.out.mono ?_)
          rintro e w1 ⟨rfl, hK, hX⟩
          have HK := Lib.hid hK
          have HX := Lib.hid hX
          clear hK hX
          have c11 : w1.cell? ⟨K.D, 11, none⟩ = some (.slice A9 0 c9) := by rw [← HV9.out]; exact HK.out.row 11 _ rfl
          have c13 := HHK.out _ HK.out
          have c14 : w1.cell? ⟨K.D, 14, none⟩ = some (.bool b.record) := HK.out.row 14 _ rfl
          have c3 : w1.cell? ⟨K.D, 3, none⟩ = some (.pointer (some ⟨S.D, 0, none⟩)) := HK.out.row 3 _ rfl
          rw [HRC.out] at c14
          have HST := Lib.hid (HSP.out _ HK.out)
          unfold StepR at HST
          simp only at HST
          rw [errV_ne hc] at HST
          clear hc
          go_wp2_with (fail)
          (with_reducible refine HST.out.mono ?_)
          rintro e w6 ⟨rfl, ⟨S6, hd6, hg6, hs6⟩, ho6⟩
          have HK2 := Lib.hid (HK.out.prog hs6 hd6 hg6 ho6)
          have HA2 : Hid (Aft w w6 L S K L S6 K) := (Aft.bank HX.out).trans (Aft.of_store ho6 hd6 hg6)
          clear hd6 hg6 hs6 ho6 c11 c13 c14 c3
          go_wp2_with (fail)
          (with_reducible refine (ffail_any HK2.out).mono ?_)
          rintro e w7 ⟨rfl, hK, hX⟩
          have HK7 := Lib.hid hK
          have HA7 := Lib.hid (HA2.out.trans (.bank hX))
          clear hK hX
          go_wp2
          go_ret2
          rw [HB.out]
          exact ⟨rfl, .mk' HA7.out HK7.out⟩
      · have hrf : b.record = false := by simpa using hrc
        have HRC := Lib.hid hrf
        have HB : Hid (stepB b f = (rdyB b f, f, true, 0)) := by
          unfold stepB
          rw [Hid, if_neg hbr, he, hdd]
          simp only [hrf]
          rfl
        have HWK9 : Hid (workB (rdyB b f) = false) := by
          show (!b.erase.isEmpty || b.data.isSome || b.record) = false
          rw [he, hdd, hrf]
          rfl
        clear h ho hbr hbf hv9 he hdd a1 a2 a3 hrc hrf
        go_enter Try.func35, Try.ntmps35
        go_wp2_with (fail)
        (with_reducible refine HR.out.mono ?_)
        rintro e w1 ⟨rfl, hK, hX⟩
        have HK := Lib.hid hK
        have HX := Lib.hid hX
        clear hK hX
        have c11 : w1.cell? ⟨K.D, 11, none⟩ = some (.slice A9 0 c9) := by rw [← HV9.out]; exact HK.out.row 11 _ rfl
        have c13 := HHK.out _ HK.out
        have c14 : w1.cell? ⟨K.D, 14, none⟩ = some (.bool b.record) := HK.out.row 14 _ rfl
        have c3 : w1.cell? ⟨K.D, 3, none⟩ = some (.pointer (some ⟨S.D, 0, none⟩)) := HK.out.row 3 _ rfl
        rw [HRC.out] at c14
        clear c3
        go_wp2_with (fail)
        (with_reducible refine (fwork_any HK.out HNE9.out).mono ?_)
        rintro e w9 ⟨rfl, rfl⟩
        rw [HWK9.out]
        go_wp2
        go_ret2
        rw [HB.out]
        exact ⟨rfl, .mk' (.bank HX.out) HK.out⟩
end
end Go.Proofs.Ytjdknddnanopaaa
