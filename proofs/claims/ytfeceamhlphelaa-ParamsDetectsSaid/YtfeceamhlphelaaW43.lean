/-
  Params: Begin.
-/
import Derived.Test.YtfeceamhlphelaaW42
namespace Go.Proofs.Ytfeceamhlphelaa
open Go.RowKit
set_option linter.unusedVariables false
set_option pp.deepTerms true

section
variable {w0 w : World} {L : Lc} {S : Sc} {f : Fl} {s : St}

theorem StAt.own_lt (h : StAt w0 w L S f s) : ∀ b, Own L S b → b < w.heap.size := by
  intro b hb
  have h1 := h.fl.ld
  have h2 := h.fl.bi.2
  have h3 := h.fl.bw.2
  have h4 := h.dl
  have h5 := h.gl.2
  rcases hb with e | e | e | e | e <;> omega
theorem Own.same {S' : Sc} (h1 : S'.D = S.D) (h2 : S'.G = S.G) : Own L S' = Own L S := by
  funext b
  unfold Own
  rw [h1, h2]

theorem placeS_staged (s : St) (f : Fl) : (placeS s f).staged = s.staged := by unfold placeS; split <;> rfl
/-- What Begin leaves. -/
def BeginR (w0 w : World) (L : Lc) (S : Sc) (f : Fl) (s : St) (e : Ending) (w' : World) : Prop :=
  e = .returned (errV (beginE s f)) ∧ (∃ S', S'.D = S.D ∧ S'.G = S.G ∧ StAt w0 w' L S' f (beginS s f)) ∧ OnlyX (Own L S) w w'

theorem StAt.br (h : StAt w0 w L S f s) (b : Bool) :
    StAt w0 (w.setCell ⟨S.D, 9, none⟩ (.bool b)) L S f { s with broken := b } ∧ OnlyX (Own L S) w (w.setCell ⟨S.D, 9, none⟩ (.bool b)) :=
  h.cell 9 (.bool b) S { s with broken := b } rfl rfl rfl rfl rfl (h.sl.like _ rfl rfl rfl rfl)

/-- The record to be written is laid. -/
theorem StAt.laid (h : StAt w0 w L S f s) (A : Option Addr) (c : Nat) (ps : List (List Int)) (B : Option Addr) (d : Nat) (vs : List Int) (hA : RdP (Own L S) w A ps) (hc : ps.length ≤ c) (hcm : c ≤ maxLen) (hB : RdX (Own L S) w B (icells vs)) (hd : vs.length ≤ d) (hdm : d ≤ maxLen) :
    StAt w0 ((((w.setCell ⟨S.D, 10, none⟩ (.slice A ps.length c)).setCell ⟨S.D, 11, none⟩ (.slice B vs.length d)).setCell ⟨S.D, 14, none⟩ (.int .i64 0)).setCell ⟨S.D, 16, none⟩ (.bool true)) L { S with Ap := A, cp := c, Au := B, cu := d } f { s with pages := ps, values := vs, done := 0, busy := true } ∧
    OnlyX (Own L S) w ((((w.setCell ⟨S.D, 10, none⟩ (.slice A ps.length c)).setCell ⟨S.D, 11, none⟩ (.slice B vs.length d)).setCell ⟨S.D, 14, none⟩ (.int .i64 0)).setCell ⟨S.D, 16, none⟩ (.bool true)) := by
  obtain ⟨a1, a2⟩ := h.cell 10 (.slice A ps.length c) { S with Ap := A, cp := c } { s with pages := ps } rfl rfl rfl rfl rfl
    ⟨h.sl.sp, h.sl.sp1, h.sl.sp2, h.sl.sv, h.sl.sv1, h.sl.sv2, hA, hc, hcm, h.sl.vv, h.sl.vv1, h.sl.vv2⟩
  obtain ⟨b1, b2⟩ := a1.cell 11 (.slice B vs.length d) { S with Ap := A, cp := c, Au := B, cu := d } { s with pages := ps, values := vs } rfl rfl rfl rfl rfl
    ⟨a1.sl.sp, a1.sl.sp1, a1.sl.sp2, a1.sl.sv, a1.sl.sv1, a1.sl.sv2, a1.sl.pp, a1.sl.pp1, a1.sl.pp2, hB.onlyX a2, hd, hdm⟩
  obtain ⟨c1, c2⟩ := b1.cell 14 (.int .i64 0) { S with Ap := A, cp := c, Au := B, cu := d } { s with pages := ps, values := vs, done := 0 } rfl rfl rfl rfl rfl (b1.sl.like _ rfl rfl rfl rfl)
  obtain ⟨d1, d2⟩ := c1.cell 16 (.bool true) { S with Ap := A, cp := c, Au := B, cu := d } { s with pages := ps, values := vs, done := 0, busy := true } rfl rfl rfl rfl rfl (c1.sl.like _ rfl rfl rfl rfl)
  exact ⟨d1, ((a2.trans b2).trans c2).trans d2⟩

theorem begin_no {w' : World} {k : Int} (hE : beginE s f = k) (hk : k ≠ 0) (hs : StAt w0 w' L S f (brkS s f)) (ho : OnlyX (Own L S) w w') : BeginR w0 w L S f s (.returned (.iface 40 (.int .i64 k))) w' := by
  unfold BeginR beginS
  rw [hE, if_neg hk, errV_ne hk]
  exact ⟨rfl, ⟨S, rfl, rfl, hs⟩, ho⟩

set_option maxRecDepth 100000 in
set_option maxHeartbeats 8000000 in
theorem begin_any (h : StAt w0 w L S f s) (ho : StOk f s) :
    Calls Try.prog 58 #[.pointer (some ⟨S.D, 0, none⟩)] w (BeginR w0 w L S f s) := by
  have h1 := eqq_some S.D
  have g1 := ne_nil
  have g2 := ne_err
  have c0 := h.row 0 _ rfl
  have c9 := h.row 9 _ rfl
  have z9 := h.fz 9
  have H := Lib.hid h
  have HO := Lib.hid ho
  have HDN := Lib.hid (fun (w' : World) (hb : Below w.heap.size w w') => down_any (h.fl.later hb))
  have HDN0 := Lib.hid (down_any h.fl)
  by_cases hbr : (s.broken || f.down) = true
  · have HE : Hid (beginE s f = 20) := by unfold beginE; rw [Hid, if_pos hbr]
    have HST := Lib.hid (h.br true)
    have HBK : Hid (brkS s f = { s with broken := true }) := by unfold brkS; rw [Hid, hbr]
    by_cases hb : s.broken = true
    · rw [hb] at c9
      clear h ho hbr hb
      go_enter Try.func58, Try.ntmps58
      go_wp2
      go_ret
      exact begin_no HE.out (by omega) (by rw [HBK.out]; exact HST.out.1) HST.out.2
    · have hb' : s.broken = false := by simpa using hb
      have hd : f.down = true := by rw [hb'] at hbr; simpa using hbr
      rw [hb'] at c9
      rw [hd] at HDN0
      clear h ho hbr hb hb' hd
      go_enter Try.func58, Try.ntmps58
      go_wp2_with (fail)
      (with_reducible refine HDN0.out.mono ?_)
      rintro e w1 ⟨rfl, rfl⟩
      go_wp2
      go_ret
      exact begin_no HE.out (by omega) (by rw [HBK.out]; exact HST.out.1) HST.out.2
  have hbr2 : s.broken = false ∧ f.down = false := by simpa using hbr
  obtain ⟨hb, hd⟩ := hbr2
  rw [hb] at c9
  rw [hd] at HDN0
  have HBK : Hid (brkS s f = { s with broken := false }) := by unfold brkS; rw [Hid, hb, hd]; rfl
  obtain ⟨W, hW⟩ : ∃ W, w.setCell ⟨S.D, 9, none⟩ (.bool false) = W := ⟨_, rfl⟩
  have HST : Hid (StAt w0 W L S f (brkS s f) ∧ OnlyX (Own L S) w W) := by
    rw [HBK.out, ← hW]
    exact h.br false
  have HOB := Lib.hid (brkS_ok (f := f) ho)
  have HD := Lib.hid hd
  have HB := Lib.hid hb
  have d9 : W.cell? ⟨S.D, 9, none⟩ = some (.bool false) := by have := HST.out.1.row 9 _ rfl; rw [HBK.out] at this; exact this
  have d16 : W.cell? ⟨S.D, 16, none⟩ = some (.bool s.busy) := HST.out.1.row 16 _ rfl
  clear ho hbr hb hd
  by_cases hbu : s.busy = true
  · have HE : Hid (beginE s f = 14) := by unfold beginE; rw [Hid, HB.out, HD.out, if_neg (by decide), if_pos hbu]
    rw [hbu] at d16
    clear h hbu
    go_enter Try.func58, Try.ntmps58
    go_wp2_with (fail)
    (with_reducible refine HDN0.out.mono ?_)
    rintro e w1 ⟨rfl, rfl⟩
    go_wp2
    go_ret
    exact begin_no HE.out (by omega) HST.out.1 HST.out.2
  have hbu' : s.busy = false := by simpa using hbu
  have HBU := Lib.hid hbu'
  rw [hbu'] at d16
  have d5 : W.cell? ⟨S.D, 5, none⟩ = some (.slice (some ⟨S.G, 0, none⟩) s.staged.length S.cg) := HST.out.1.row 5 _ rfl
  have d4 : W.cell? ⟨S.D, 4, none⟩ = some (.slice S.Av s.saved.length S.cv) := HST.out.1.row 4 _ rfl
  have d6 : W.cell? ⟨S.D, 6, none⟩ = some (.int .i64 s.seq) := HST.out.1.row 6 _ rfl
  have hn2 := HO.out.n2
  have hn1 := HO.out.n1
  have H100 : Hid (∀ q, Calls Try.prog 100 #[.slice (some ⟨S.G, 0, none⟩) s.staged.length S.cg, .slice S.Av s.saved.length S.cv] (W.drewN q) fun e w' => e = .returned (.bool (decide (s.staged = s.saved))) ∧ ∃ k, w' = (W.drewN q).drewN k) := by
    intro q
    have hb := Below.drewN (Below.refl W.heap.size W) q
    have hs := HST.out.1.later hb
    exact equal3_any _ _ _ _ _ _ s.staged s.saved (W.drewN q) (own_rd hs.sg) hs.sl.sv.rd rfl rfl (by unfold maxLen; rw [HO.out.tl]; omega) (by unfold maxLen; rw [HO.out.sl]; omega)
  have htl := HO.out.tl
  have hsl := HO.out.sl
  rw [htl] at d5 H100
  rw [hsl] at d4 H100
  generalize hn : s.spec.length = n at *
  have HTL := Lib.hid htl
  clear h hbu hbu' htl hsl hn
  by_cases heq : s.staged = s.saved
  · have HE : Hid (beginE s f = 12) := by unfold beginE; rw [Hid, HB.out, HD.out, if_neg (by decide), HBU.out, if_neg (by decide), if_pos heq]
    rw [decide_eq_true heq] at H100
    clear heq
    go_enter Try.func58, Try.ntmps58
    go_wp2_with (fail)
    (with_reducible refine HDN0.out.mono ?_)
    rintro e w1 ⟨rfl, rfl⟩
    go_wp2
    go_quiet ((go_at_call 100; with_reducible exact Calls.quiet_of (H100.out _)))
    go_wp2
    go_ret
    exact begin_no HE.out (by omega) (HST.out.1.later (Below.drewN (Below.refl _ _) _)) (HST.out.2.trans (OnlyX.of_below (Below.drewN (Below.refl _ _) _)))
  rw [decide_eq_false heq] at H100
  have hE : beginE s f = encE (s.seq + 1) n := by unfold beginE; rw [HB.out, HD.out, if_neg (by decide), HBU.out, if_neg (by decide), if_neg heq, HTL.out]
  have hq1 := HO.out.q1
  have hq2 := HO.out.q2
  have tq : IntKind.i64.wrap (s.seq + 1) = s.seq + 1 := IntWalk.i64_in _ (by omega)
  have HLT : Hid (∀ b, Own L S b → b < W.heap.size) := HST.out.1.own_lt
  by_cases he : encE (s.seq + 1) n = 0
  · have HE : Hid (beginE s f = 0) := by rw [Hid, hE]; exact he
    have H52 : Hid (∀ W', Below W.heap.size W W' → Calls Try.prog 52 #[.int .i64 (s.seq + 1), .slice (some ⟨S.G, 0, none⟩) n S.cg] W' fun e w' => ∃ A' c', e = .returned (.tuple #[.slice A' (pgs n) c', .nilIface]) ∧ pgs n ≤ c' ∧ c' ≤ maxLen ∧ RdP (Own L S) w' A' (encP (s.seq + 1) s.staged) ∧ Below W'.heap.size W' w') := by
      intro W' hb
      have hs := HST.out.1.later hb
      have hg := hs.cg
      rw [show (brkS s f).staged = s.staged from rfl, HTL.out] at hg
      exact enc_yes (Own L S) (s.seq + 1) _ n S.cg s.staged W' hs.own_lt (own_rd hs.sg) HTL.out hg.1 hg.2 HO.out.ti he
    clear heq hE he
    go_enter Try.func58, Try.ntmps58
    go_wp2_with (fail)
    (with_reducible refine HDN0.out.mono ?_)
    rintro e w1 ⟨rfl, rfl⟩
    go_wp2
    go_quiet ((go_at_call 100; with_reducible exact Calls.quiet_of (H100.out _)))
    have HKS : Hid (∀ W', Below W.heap.size W W' → W'.cell? ⟨S.D, 6, none⟩ = some (.int .i64 s.seq) ∧ W'.cell? ⟨S.D, 5, none⟩ = some (.slice (some ⟨S.G, 0, none⟩) n S.cg)) :=
      fun W' hb => ⟨(HST.out.1.later hb).row 6 _ rfl, by have := (HST.out.1.later hb).row 5 _ rfl; rw [show (brkS s f).staged = s.staged from rfl, HTL.out] at this; exact this⟩
    have HPL : Hid (∀ W', Below W.heap.size W W' → Calls Try.prog 101 #[.pointer (some ⟨S.D, 0, none⟩)] W' (PlaceR w0 W' L S f (brkS s f))) :=
      fun W' hb => place_any (HST.out.1.later hb) HOB.out HD.out
    go_wp2_with (fail)
    go_region_held3 (fun w' => w'.cell? ⟨S.D, 6, none⟩ = some (.int .i64 s.seq) ∧ w'.cell? ⟨S.D, 5, none⟩ = some (.slice (some ⟨S.G, 0, none⟩) n S.cg)) (first | go_keep | exact HKS.out _ hB9) (first
      | (go_at_call 52; refine (H52.out _ (by repeat (first | exact Below.refl _ _ | refine Below.drew ?_ | refine Below.drewN ?_ _))).mono ?_; rintro e wb ⟨A', c', rfl, hpc, hcm, hrp, hb⟩; have hB9 := (Below.drewN (Below.refl W.heap.size W) _).trans hb))
    have HPC := Lib.hid hpc
    have HCM := Lib.hid hcm
    have HRP := Lib.hid hrp
    have HB9 := Lib.hid hB9
    clear hpc hcm hrp hb hB9 tq
    go_wp2_with (fail)
    (with_reducible refine (HPL.out _ (by repeat (first | exact HB9.out | refine Below.drew ?_ | refine Below.drewN ?_ _))).mono ?_)
    rintro e w6 ⟨rfl, hs6, ho6⟩
    have HS6 := Lib.hid hs6
    have HO6 : Hid (OnlyX (Own L S) w w6) := (HST.out.2.trans (OnlyX.of_below (by repeat (first | exact HB9.out | refine Below.drew ?_ | refine Below.drewN ?_ _)))).trans ho6
    have HR6 : Hid (RdP (Own L S) w6 A' (encP (s.seq + 1) s.staged)) :=
      HRP.out.onlyX ((OnlyX.of_below (by repeat (first | exact Below.refl _ _ | refine Below.drew ?_ | refine Below.drewN ?_ _))).trans ho6)
    have hst : (placeS (brkS s f) f).staged = s.staged := by rw [placeS_staged]; rfl
    have d5' := HS6.out.row 5 _ rfl
    rw [hst, HTL.out] at d5'
    have HCL : Hid (Calls Try.prog 80 #[.slice (some ⟨S.G, 0, none⟩) n S.cg] w6 fun e w' => ∃ v', e = .returned v' ∧ w'.ownsRow w6.heap.size 3 1 v' n (icells s.staged) ∧ Below w6.heap.size w6 w') := by
      have hg := HS6.out.sg
      rw [hst, HTL.out] at hg
      exact clone3_any _ n S.cg w6.heap.size s.staged w6 (own_rd hg) (Nat.le_refl _) HTL.out (by omega)
    clear hs6 ho6 hst HRP d4 d5 d6 d9 d16
    go_wp2_with (fail)
    (with_reducible refine HCL.out.mono ?_)
    rintro e w7 ⟨v', rfl, ho7, hb7⟩
    obtain ⟨B, d, rfl, h71, h72, hr7⟩ := own_read ho7
    have HS7 := Lib.hid (HS6.out.later hb7)
    have HRV : Hid (RdX (Own L S) w7 B (icells s.staged)) := RdX.new HS6.out.own_lt (Nat.le_refl _) (by rw [icells_length, HTL.out]) ho7
    have HLAID := Lib.hid (HS7.out.laid A' c' (encP (s.seq + 1) s.staged) B d s.staged (HR6.out.onlyX (OnlyX.of_below hb7)) (by rw [encP_length, HTL.out]; exact HPC.out) HCM.out HRV.out (by rw [HTL.out]; exact h71) h72)
    rw [encP_length, HTL.out] at HLAID
    have HO7 : Hid (OnlyX (Own L S) w w7) := HO6.out.trans (OnlyX.of_below hb7)
    have e10 := HS7.out.row 10 _ rfl
    have e11 := HS7.out.row 11 _ rfl
    have e14 := HS7.out.row 14 _ rfl
    have e16 := HS7.out.row 16 _ rfl
    have z10 := HS7.out.fz 10
    have z11 := HS7.out.fz 11
    have z14 := HS7.out.fz 14
    have z16 := HS7.out.fz 16
    clear ho7 hb7 hr7 h71 h72 d5'
    go_wp2
    go_ret
    unfold BeginR beginS
    rw [HE.out, if_pos rfl]
    exact ⟨rfl, ⟨{ S with Ap := A', cp := c', Au := B, cu := d }, rfl, rfl, HLAID.out.1⟩, HO7.out.trans HLAID.out.2⟩
  · have HE : Hid (beginE s f = 3) := by
      rw [Hid, hE]
      unfold encE at he ⊢
      split
      · rfl
      · rename_i h; rw [if_neg h] at he; exact absurd rfl he
    have H52 : Hid (∀ W', Calls Try.prog 52 #[.int .i64 (s.seq + 1), .slice (some ⟨S.G, 0, none⟩) n S.cg] W' fun e w' => e = .returned (.tuple #[.slice none 0 0, .iface 40 (.int .i64 3)]) ∧ W' = w') :=
      fun W' => enc_no (s.seq + 1) _ n S.cg W' (by omega) he
    clear heq hE he
    go_enter Try.func58, Try.ntmps58
    go_wp2_with (fail)
    (with_reducible refine HDN0.out.mono ?_)
    rintro e w1 ⟨rfl, rfl⟩
    go_wp2
    go_quiet ((go_at_call 100; with_reducible exact Calls.quiet_of (H100.out _)))
    go_wp2_with (fail)
    go_region_held3 (fun w' => w'.cell? ⟨S.D, 6, none⟩ = some (.int .i64 s.seq) ∧ w'.cell? ⟨S.D, 5, none⟩ = some (.slice (some ⟨S.G, 0, none⟩) n S.cg)) (go_keep) (first
      | (go_at_call 52; refine (H52.out _).mono ?_; rintro e wb ⟨rfl, rfl⟩))
    go_wp2
    go_ret
    exact begin_no HE.out (by omega) (HST.out.1.later (by repeat (first | exact Below.refl _ _ | refine Below.drew ?_ | refine Below.drewN ?_ _))) (HST.out.2.trans (OnlyX.of_below (by repeat (first | exact Below.refl _ _ | refine Below.drew ?_ | refine Below.drewN ?_ _))))
end
end Go.Proofs.Ytfeceamhlphelaa
