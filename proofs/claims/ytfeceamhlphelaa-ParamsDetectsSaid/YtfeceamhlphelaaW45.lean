/-
  Params: Step that programs a page; Step.
-/
import Derived.Test.YtfeceamhlphelaaW44
namespace Go.Proofs.Ytfeceamhlphelaa
open Go.RowKit
set_option linter.unusedVariables false
set_option pp.deepTerms true

section
variable {w0 w : World} {L : Lc} {S : Sc} {f : Fl} {s : St}

theorem StAt.dn (h : StAt w0 w L S f s) (k : Nat) :
    StAt w0 (w.setCell ⟨S.D, 14, none⟩ (.int .i64 k)) L S f { s with done := k } ∧ OnlyX (Own L S) w (w.setCell ⟨S.D, 14, none⟩ (.int .i64 k)) :=
  h.cell 14 (.int .i64 k) S { s with done := k } rfl rfl rfl rfl rfl (h.sl.like _ rfl rfl rfl rfl)
theorem StAt.sq (h : StAt w0 w L S f s) (k : Int) :
    StAt w0 (w.setCell ⟨S.D, 6, none⟩ (.int .i64 k)) L S f { s with seq := k } ∧ OnlyX (Own L S) w (w.setCell ⟨S.D, 6, none⟩ (.int .i64 k)) :=
  h.cell 6 (.int .i64 k) S { s with seq := k } rfl rfl rfl rfl rfl (h.sl.like _ rfl rfl rfl rfl)
theorem StAt.bs (h : StAt w0 w L S f s) (b : Nat) (j : Int) :
    StAt w0 ((w.setCell ⟨S.D, 7, none⟩ (.int .i64 b)).setCell ⟨S.D, 8, none⟩ (.int .i64 j)) L S f { s with block := b, slot := j } ∧ OnlyX (Own L S) w ((w.setCell ⟨S.D, 7, none⟩ (.int .i64 b)).setCell ⟨S.D, 8, none⟩ (.int .i64 j)) := by
  obtain ⟨a1, a2⟩ := h.cell 7 (.int .i64 b) S { s with block := b } rfl rfl rfl rfl rfl (h.sl.like _ rfl rfl rfl rfl)
  obtain ⟨b1, b2⟩ := a1.cell 8 (.int .i64 j) S { s with block := b, slot := j } rfl rfl rfl rfl rfl (a1.sl.like _ rfl rfl rfl rfl)
  exact ⟨b1, a2.trans b2⟩
theorem StAt.sv (h : StAt w0 w L S f s) :
    StAt w0 ((w.setCell ⟨S.D, 4, none⟩ (.slice S.Au s.values.length S.cu)).setCell ⟨S.D, 16, none⟩ (.bool false)) L { S with Av := S.Au, cv := S.cu } f { s with saved := s.values, busy := false } ∧
    OnlyX (Own L S) w ((w.setCell ⟨S.D, 4, none⟩ (.slice S.Au s.values.length S.cu)).setCell ⟨S.D, 16, none⟩ (.bool false)) := by
  obtain ⟨a1, a2⟩ := h.cell 4 (.slice S.Au s.values.length S.cu) { S with Av := S.Au, cv := S.cu } { s with saved := s.values } rfl rfl rfl rfl rfl
    ⟨h.sl.sp, h.sl.sp1, h.sl.sp2, h.sl.vv, h.sl.vv1, h.sl.vv2, h.sl.pp, h.sl.pp1, h.sl.pp2, h.sl.vv, h.sl.vv1, h.sl.vv2⟩
  obtain ⟨b1, b2⟩ := a1.cell 16 (.bool false) { S with Av := S.Au, cv := S.cu } { s with saved := s.values, busy := false } rfl rfl rfl rfl rfl (a1.sl.like _ rfl rfl rfl rfl)
  exact ⟨b1, a2.trans b2⟩

/-- What a page's programming needs. -/
theorem prog_ready (h : StAt w0 w L S f s) (ho : StOk f s) (hb : s.broken = false) (hu : s.busy = true) (he : s.erase = false) :
    ∃ b off Q c p, S.Ap = some ⟨b, off, none⟩ ∧ w.cell? ⟨b, off + s.done, none⟩ = some (.slice Q 64 c) ∧ (∀ W', StAt w0 W' L S (opS s f).1 s → OnlyX (Own L S) w W' → W'.cell? ⟨b, off + s.done, none⟩ = some (.slice Q 64 c)) ∧
    (opS s f = progF f ((pageS s f s.dest s.toSlot + s.done : Nat) : Int) p) ∧
    ∀ W', Below w.heap.size w W' → Calls Try.prog 26 #[.pointer (some ⟨L.d, 0, none⟩), .int .i64 ((pageS s f s.dest s.toSlot + s.done : Nat) : Int), .slice Q 64 c] W' fun e w' => e = .returned (errV (opS s f).2) ∧ StAt w0 w' L S (opS s f).1 s ∧ OnlyX (Own L S) W' w' := by
  have hd := ho.dn hu hb
  have hpl := ho.pl hu
  obtain ⟨p, hp⟩ := getElem?_of_lt (l := s.pages) (k := s.done) (by omega)
  obtain ⟨hl, hby⟩ := ho.pb p (List.mem_of_getElem? hp)
  obtain ⟨vs, e1, e2, e3⟩ := h.sl.pp
  obtain ⟨Q, m, c, d1, d2, d3, d4, d5⟩ := e3 s.done p hp
  rw [hl] at d2
  subst d2
  obtain ⟨b, off, ha, hlt, hX, hc⟩ := e1 (by intro e; rw [e] at d1; simp at d1)
  have hop : opS s f = progF f ((pageS s f s.dest s.toSlot + s.done : Nat) : Int) p := by
    unfold opS
    rw [if_neg (by rw [he]; decide), hp]
    rfl
  refine ⟨b, off, Q, c, p, ha, hc _ _ d1, fun W' hs hx => (cell_of_block (hx.block b hlt hX)).trans (hc _ _ d1), hop, fun W' hbl => ?_⟩
  have hs := h.later hbl
  rw [hop]
  refine (program_any hs.fl _ Q 64 c p ((d5.onlyX (.of_below hbl)).apart (Own.fl L S)) hl d3 d4 hby).mono ?_
  rintro e w' ⟨a, bb, cc⟩
  exact ⟨a, hs.flash' bb cc (progF_picks _ _ _), .of_only cc (Own.fl L S)⟩

set_option maxRecDepth 100000 in
set_option maxHeartbeats 16000000 in
theorem step_prog (h : StAt w0 w L S f s) (ho : StOk f s) (hb : s.broken = false) (hu : s.busy = true) (he : s.erase = false) :
    Calls Try.prog 59 #[.pointer (some ⟨S.D, 0, none⟩)] w (StepR w0 w L S (stepS s f)) := by
  have h1 := eqq_some S.D
  have g1 := ne_nil
  have g2 := ne_err
  have c0 := h.row 0 _ rfl
  have c9 := h.row 9 _ rfl
  have c10 := h.row 10 _ rfl
  have c12 := h.row 12 _ rfl
  have c13 := h.row 13 _ rfl
  have c14 := h.row 14 _ rfl
  have c15 := h.row 15 _ rfl
  have c16 := h.row 16 _ rfl
  rw [hb] at c9
  rw [hu] at c16
  rw [he] at c15
  have hw := h.fl.ok.b2
  have hfb := ho.fb
  have htb := ho.tb
  have hb16 := ho.b2
  have hts := ho.ts
  have hsl := slots_le ho h.fl.ok
  have hdn := ho.dn hu hb
  have hk8 := ho.k8
  have hpl := ho.pl hu
  have hin := ho.page_in htb hts
  have hin2 := pages_1024 h.fl.ok
  obtain ⟨b, off, Q, c, p, hA, hcell, hkeep, hop, hcall⟩ := prog_ready h ho hb hu he
  rw [hA] at c10
  rw [hpl] at c10
  have HPG : Hid (∀ W', Below w.heap.size w W' → Calls Try.prog 102 #[.pointer (some ⟨S.D, 0, none⟩), .int .i64 (s.dest : Int), .int .i64 (s.toSlot : Int)] W' fun e w' => e = .returned (.int .i64 (pageS s f s.dest s.toSlot : Nat)) ∧ ∃ q, w' = W'.drewN q) :=
    fun W' hbl => spage_any (h.later hbl) ho (s.dest : Int) (s.toSlot : Int) s.dest s.toSlot rfl rfl (by omega) (by omega)
  have HPR := Lib.hid hcall
  have HKC := Lib.hid hkeep
  have HTK : Hid (tickS s = { s with done := s.done + 1 }) := by unfold tickS; rw [Hid, if_neg (by rw [he]; decide)]
  have hq1 := ho.q1
  have hq2 := ho.q2
  obtain ⟨pn, hpn⟩ : ∃ pn, pageS s f s.dest s.toSlot = pn := ⟨_, rfl⟩
  rw [hpn] at HPG HPR hin
  obtain ⟨d, hd⟩ : ∃ d, s.done = d := ⟨_, rfl⟩
  have HDD := Lib.hid hd
  rw [hd] at HPR HTK hdn c14 hcell HKC
  obtain ⟨K, hK⟩ : ∃ K, s.k = K := ⟨_, rfl⟩
  rw [hK] at hdn hk8 hpl hin c10
  have t0 : IntKind.i64.wrap ((pn : Int) + (d : Int)) = ((pn + d : Nat) : Int) := by
    rw [IntWalk.i64_in _ (by omega)]
    push_cast
    rfl
  have HHK := Lib.hid (show ∀ W', Below w.heap.size w W' → W'.cell? ⟨S.D, 0, none⟩ = some (.pointer (some ⟨L.d, 0, none⟩)) ∧ W'.cell? ⟨S.D, 12, none⟩ = some (.int .i64 s.dest) ∧ W'.cell? ⟨S.D, 13, none⟩ = some (.int .i64 s.toSlot) ∧ W'.cell? ⟨S.D, 14, none⟩ = some (.int .i64 d) ∧ W'.cell? ⟨S.D, 10, none⟩ = some (.slice (some ⟨b, off, none⟩) K S.cp) ∧ W'.cell? ⟨b, off + d, none⟩ = some (.slice Q 64 c) from
    fun W' hbl => by
      have hs := h.later hbl
      have e10 := hs.row 10 _ rfl
      have e14 := hs.row 14 _ rfl
      rw [hA, hpl] at e10
      rw [hd] at e14
      exact ⟨hs.row 0 _ rfl, hs.row 12 _ rfl, hs.row 13 _ rfl, e14, e10, (hbl.cell (p := ⟨b, off + d, none⟩) (World.block_lt_of_cell? w _ hcell)).trans hcell⟩)
  have HKS := Lib.hid (show ∀ W', StAt w0 W' L S (opS s f).1 s → OnlyX (Own L S) w W' → W'.cell? ⟨S.D, 0, none⟩ = some (.pointer (some ⟨L.d, 0, none⟩)) ∧ W'.cell? ⟨S.D, 12, none⟩ = some (.int .i64 s.dest) ∧ W'.cell? ⟨S.D, 13, none⟩ = some (.int .i64 s.toSlot) ∧ W'.cell? ⟨S.D, 14, none⟩ = some (.int .i64 d) ∧ W'.cell? ⟨S.D, 10, none⟩ = some (.slice (some ⟨b, off, none⟩) K S.cp) ∧ W'.cell? ⟨b, off + d, none⟩ = some (.slice Q 64 c) from
    fun W' hs hx => by
      have e10 := hs.row 10 _ rfl
      have e14 := hs.row 14 _ rfl
      rw [hA, hpl] at e10
      rw [hd] at e14
      exact ⟨hs.row 0 _ rfl, hs.row 12 _ rfl, hs.row 13 _ rfl, e14, e10, HKC.out W' hs hx⟩)
  have tk : (d : Int) < (K : Int) := by omega
  have tk0 : (0 : Int) ≤ (d : Int) := by omega
  have HAA := Lib.hid hA
  have HPL := Lib.hid hpl
  have HFAIL := Lib.hid (fun hc => stepS_fail (f := f) (s := s) (k := 0) hb hu hc)
  have HMORE := Lib.hid (stepS_more (f := f) (s := s) hb hu)
  have HLAST := Lib.hid (stepS_last (f := f) (s := s) hb hu)
  have HBEL : Hid (∀ W', Below w.heap.size w W' → OnlyX (Own L S) w W') := fun W' hbl => .of_below hbl
  clear h ho hb hu he hfb hw hop hcall hkeep hA hpl hpn hd hK hin2 hts hsl
  by_cases hc : (opS s f).2 = 0
  · rw [hc, errV_zero] at HPR
    by_cases hlast : d + 1 < K
    · have HR := Lib.hid (HMORE.out hc (by rw [HTK.out]; simp only; rw [HPL.out]; exact hlast))
      obtain ⟨f', hf'⟩ : ∃ f', (opS s f).1 = f' := ⟨_, rfl⟩
      rw [hf'] at HPR HKS HR
      clear hc hf' HMORE HLAST HFAIL
      go_enter Try.func59, Try.ntmps59
      go_wp2_with (fail)
      go_region_held3 (fun w' => w'.cell? ⟨S.D, 0, none⟩ = some (.pointer (some ⟨L.d, 0, none⟩)) ∧ w'.cell? ⟨S.D, 12, none⟩ = some (.int .i64 s.dest) ∧ w'.cell? ⟨S.D, 13, none⟩ = some (.int .i64 s.toSlot) ∧ w'.cell? ⟨S.D, 14, none⟩ = some (.int .i64 d) ∧ w'.cell? ⟨S.D, 10, none⟩ = some (.slice (some ⟨b, off, none⟩) K S.cp) ∧ w'.cell? ⟨b, off + d, none⟩ = some (.slice Q 64 c)) (first | go_keep | exact HKS.out _ hs9 hx9) (first
        | (go_at_call 102; refine (HPG.out _ (by repeat (first | exact Below.refl _ _ | refine Below.drew ?_ | refine Below.drewN ?_ _))).mono ?_; rintro e wp ⟨rfl, q1, rfl⟩)
        | (go_at_call 26; refine (HPR.out _ (by repeat (first | exact Below.refl _ _ | refine Below.drew ?_ | refine Below.drewN ?_ _))).mono ?_; rintro e we ⟨rfl, hs9, ho9⟩; have hx9 := (HBEL.out _ (Below.drewN (Below.refl w.heap.size w) _)).trans ho9))
      have HS9 := Lib.hid hs9
      have HX9 := Lib.hid hx9
      clear hs9 ho9 hx9
      have e14 := HS9.out.row 14 _ rfl
      have e10 := HS9.out.row 10 _ rfl
      have z14 := HS9.out.fz 14
      rw [HPL.out] at e10
      rw [HDD.out] at e14
      have HDN2 := Lib.hid (HS9.out.dn (d + 1))
      rw [← HTK.out] at HDN2
      go_wp2
      have tl : ((d : Int) + 1 < (K : Int)) := by omega
      go_quiet (fail)
      go_wp2
      go_ret2
      unfold StepR
      rw [HR.out]
      exact ⟨rfl, ⟨S, rfl, rfl, HDN2.out.1.later (Below.drewN (Below.refl _ _) _)⟩, (HX9.out.trans HDN2.out.2).trans (OnlyX.of_below (Below.drewN (Below.refl _ _) _))⟩
    · have HR := Lib.hid (HLAST.out hc (by rw [HTK.out]; simp only; rw [HPL.out]; exact hlast))
      obtain ⟨f', hf'⟩ : ∃ f', (opS s f).1 = f' := ⟨_, rfl⟩
      rw [hf'] at HPR HKS HR
      clear hc hf' HMORE HLAST HFAIL
      go_enter Try.func59, Try.ntmps59
      go_wp2_with (fail)
      go_region_held3 (fun w' => w'.cell? ⟨S.D, 0, none⟩ = some (.pointer (some ⟨L.d, 0, none⟩)) ∧ w'.cell? ⟨S.D, 12, none⟩ = some (.int .i64 s.dest) ∧ w'.cell? ⟨S.D, 13, none⟩ = some (.int .i64 s.toSlot) ∧ w'.cell? ⟨S.D, 14, none⟩ = some (.int .i64 d) ∧ w'.cell? ⟨S.D, 10, none⟩ = some (.slice (some ⟨b, off, none⟩) K S.cp) ∧ w'.cell? ⟨b, off + d, none⟩ = some (.slice Q 64 c)) (first | go_keep | exact HKS.out _ hs9 hx9) (first
        | (go_at_call 102; refine (HPG.out _ (by repeat (first | exact Below.refl _ _ | refine Below.drew ?_ | refine Below.drewN ?_ _))).mono ?_; rintro e wp ⟨rfl, q1, rfl⟩)
        | (go_at_call 26; refine (HPR.out _ (by repeat (first | exact Below.refl _ _ | refine Below.drew ?_ | refine Below.drewN ?_ _))).mono ?_; rintro e we ⟨rfl, hs9, ho9⟩; have hx9 := (HBEL.out _ (Below.drewN (Below.refl w.heap.size w) _)).trans ho9))
      have HS9 := Lib.hid hs9
      have HX9 := Lib.hid hx9
      clear hs9 ho9 hx9
      have e14 := HS9.out.row 14 _ rfl
      have e10 := HS9.out.row 10 _ rfl
      have z14 := HS9.out.fz 14
      rw [HPL.out] at e10
      rw [HDD.out] at e14
      have HDN2 := Lib.hid (HS9.out.dn (d + 1))
      rw [← HTK.out] at HDN2
      have hKd : K = d + 1 := by omega
      subst hKd
      go_wp2
      go_quiet (fail)
      have HDN3 : Hid (StAt w0 (we.setCell ⟨S.D, 14, none⟩ (.int .i64 ((d : Int) + 1))) L S f' (tickS s) ∧ OnlyX (Own L S) we (we.setCell ⟨S.D, 14, none⟩ (.int .i64 ((d : Int) + 1)))) := HDN2.out
      obtain ⟨W, hW⟩ : ∃ W, (we.setCell ⟨S.D, 14, none⟩ (.int .i64 ((d : Int) + 1))).drewN nq = W := ⟨_, rfl⟩
      have HW1 : Hid (StAt w0 W L S f' (tickS s) ∧ OnlyX (Own L S) w W) := by
        have hb8 := Below.drewN (Below.refl (we.setCell ⟨S.D, 14, none⟩ (.int .i64 ((d : Int) + 1))).heap.size (we.setCell ⟨S.D, 14, none⟩ (.int .i64 ((d : Int) + 1)))) nq
        rw [← hW]
        exact ⟨HDN3.out.1.later hb8, (HX9.out.trans HDN3.out.2).trans (.of_below hb8)⟩
      rw [hW]
      clear hW HDN2 HDN3 HX9 HS9 e10 e14 z14
      have hsq : (tickS s).seq = s.seq := by rw [HTK.out]
      have hsd : (tickS s).dest = s.dest := by rw [HTK.out]
      have hst : (tickS s).toSlot = s.toSlot := by rw [HTK.out]
      have e6 := HW1.out.1.row 6 _ rfl
      have z6 := HW1.out.1.fz 6
      rw [hsq] at e6
      have HW2 := Lib.hid (HW1.out.1.sq (s.seq + 1))
      obtain ⟨W2, hW2⟩ : ∃ W2, W.setCell ⟨S.D, 6, none⟩ (.int .i64 (s.seq + 1)) = W2 := ⟨_, rfl⟩
      rw [hW2] at HW2
      have e12 := HW2.out.1.row 12 _ rfl
      have e13 := HW2.out.1.row 13 _ rfl
      have e7 := HW2.out.1.row 7 _ rfl
      have e8 := HW2.out.1.row 8 _ rfl
      have z7 := HW2.out.1.fz 7
      have z8 := HW2.out.1.fz 8
      simp only [hsd, hst] at e12 e13
      clear hsq hsd hst
      go_wp2
      go_region
      obtain ⟨W3, hW3⟩ : ∃ W3, ((W2.setCell ⟨S.D, 7, none⟩ (.int .i64 s.dest)).setCell ⟨S.D, 8, none⟩ (.int .i64 s.toSlot)).drew = W3 := ⟨_, rfl⟩
      have HW3 : Hid (StAt w0 W3 L S f' { tickS s with seq := s.seq + 1, block := s.dest, slot := s.toSlot } ∧ OnlyX (Own L S) W2 W3) := by
        obtain ⟨a1, a2⟩ := HW2.out.1.bs s.dest (s.toSlot : Int)
        have hb8 := Below.drew (Below.refl ((W2.setCell ⟨S.D, 7, none⟩ (.int .i64 s.dest)).setCell ⟨S.D, 8, none⟩ (.int .i64 s.toSlot)).heap.size ((W2.setCell ⟨S.D, 7, none⟩ (.int .i64 s.dest)).setCell ⟨S.D, 8, none⟩ (.int .i64 s.toSlot)))
        rw [← hW3]
        exact ⟨a1.later hb8, a2.trans (.of_below hb8)⟩
      rw [hW3]
      clear hW2 hW3 e6 z6 e7 z7 e8 z8 e12 e13
      have e11 := HW3.out.1.row 11 _ rfl
      have e4 := HW3.out.1.row 4 _ rfl
      have e16 := HW3.out.1.row 16 _ rfl
      have z4 := HW3.out.1.fz 4
      have z16 := HW3.out.1.fz 16
      have HW4 := Lib.hid HW3.out.1.sv
      go_wp2
      go_ret2
      unfold StepR
      rw [HR.out]
      refine ⟨rfl, ⟨{ S with Av := S.Au, cv := S.cu }, rfl, rfl, ?_⟩, ((HW1.out.2.trans HW2.out.2).trans HW3.out.2).trans HW4.out.2⟩
      have := HW4.out.1
      unfold endS
      simp only [HTK.out] at this ⊢
      exact this
  · have HR := Lib.hid (HFAIL.out hc)
    have HE := Lib.hid (errV_ne hc)
    rw [HE.out] at HPR
    obtain ⟨f', hf'⟩ : ∃ f', (opS s f).1 = f' := ⟨_, rfl⟩
    rw [hf'] at HPR HKS HR
    generalize (opS s f).2 = kk at *
    clear hc hf' HMORE HLAST HFAIL
    go_enter Try.func59, Try.ntmps59
    go_wp2_with (fail)
    go_region_held3 (fun w' => w'.cell? ⟨S.D, 0, none⟩ = some (.pointer (some ⟨L.d, 0, none⟩)) ∧ w'.cell? ⟨S.D, 12, none⟩ = some (.int .i64 s.dest) ∧ w'.cell? ⟨S.D, 13, none⟩ = some (.int .i64 s.toSlot) ∧ w'.cell? ⟨S.D, 14, none⟩ = some (.int .i64 d) ∧ w'.cell? ⟨S.D, 10, none⟩ = some (.slice (some ⟨b, off, none⟩) K S.cp) ∧ w'.cell? ⟨b, off + d, none⟩ = some (.slice Q 64 c)) (first | go_keep | exact HKS.out _ hs9 hx9) (first
      | (go_at_call 102; refine (HPG.out _ (by repeat (first | exact Below.refl _ _ | refine Below.drew ?_ | refine Below.drewN ?_ _))).mono ?_; rintro e wp ⟨rfl, q1, rfl⟩)
      | (go_at_call 26; refine (HPR.out _ (by repeat (first | exact Below.refl _ _ | refine Below.drew ?_ | refine Below.drewN ?_ _))).mono ?_; rintro e we ⟨rfl, hs9, ho9⟩; have hx9 := (HBEL.out _ (Below.drewN (Below.refl w.heap.size w) _)).trans ho9))
    have HS9 := Lib.hid hs9
    have HX9 := Lib.hid hx9
    clear hs9 ho9 hx9
    have e14 := HS9.out.row 14 _ rfl
    have e10 := HS9.out.row 10 _ rfl
    have z14 := HS9.out.fz 14
    rw [HPL.out] at e10
    rw [HDD.out] at e14
    have HDN2 := Lib.hid (HS9.out.dn (d + 1))
    rw [← HTK.out] at HDN2
    have e9 := HS9.out.row 9 _ rfl
    have z9 := HS9.out.fz 9
    have HBR2 := Lib.hid (HDN2.out.1.br true)
    go_wp2
    go_ret2
    unfold StepR
    rw [HR.out]
    exact ⟨rfl, ⟨S, rfl, rfl, HBR2.out.1⟩, (HX9.out.trans HDN2.out.2).trans HBR2.out.2⟩
end
end Go.Proofs.Ytfeceamhlphelaa
