/-
  Part 5 of the proof.
-/
import Derived.Test.YtjdknddnanopaaaGreatQ4
namespace Go.Proofs.YtjdknddnanopaaaGreat
open Go.RowKit Tryz
set_option maxRecDepth 100000
set_option maxHeartbeats 16000000
set_option linter.all false
variable {s : St} {f : Fl} {S' : Sc} {k : Int}
theorem yT {k : Nat} (hk : k < bm s f) (h1 : s.av < k) (h2 : cG f (aG s f s.block k) s.k = true) (h3 : ∀ j < k, s.av < j → cG f (aG s f s.block j) s.k = false) : jW s f = some k := by
 unfold jW
 rw [List.find?_range_eq_some]
 refine ⟨?_, List.mem_range.2 hk, fun j hj => ?_⟩
 ·rw [decide_eq_true h1, h2]; rfl
 by_cases e : s.av < j
 ·rw [h3 j hj e, Bool.and_false]; rfl
 rw [decide_eq_false e, Bool.false_and]; rfl
theorem yU (h3 : ∀ j < bm s f, s.av < j → cG f (aG s f s.block j) s.k = false) : jW s f = none := by
 unfold jW
 rw [List.find?_range_eq_none]
 intro j hj
 by_cases e : s.av < j
 ·rw [h3 j hj e, Bool.and_false]; rfl
 rw [decide_eq_false e, Bool.false_and]; rfl
section
variable {w0 w : World} {L : Lc} {S : Sc} {f : Fl} {s : St}
theorem bM.F5 (h : bM w0 w L S f s) (b j : Nat) :
 bM w0 ((w.setCell ⟨S.D, 12, none⟩ (.int .i64 b)).setCell ⟨S.D, 13, none⟩ (.int .i64 j)) L S f { s with bH := b, bg := j } ∧ ah (bQ L S) w ((w.setCell ⟨S.D, 12, none⟩ (.int .i64 b)).setCell ⟨S.D, 13, none⟩ (.int .i64 j)) := by
 obtain ⟨a1, a2⟩ := h.cell 12 (.int .i64 b) S { s with bH := b } rfl rfl rfl rfl rfl (h.sl.pU _ rfl rfl rfl rfl)
 obtain ⟨b1, b2⟩ := a1.cell 13 (.int .i64 j) S { s with bH := b, bg := j } rfl rfl rfl rfl rfl (a1.sl.pU _ rfl rfl rfl rfl)
 exact ⟨b1, a2.trans b2⟩
theorem bM.er (h : bM w0 w L S f s) (e : Bool) :
 bM w0 (w.setCell ⟨S.D, 15, none⟩ (.bool e)) L S f { s with erase := e } ∧ ah (bQ L S) w (w.setCell ⟨S.D, 15, none⟩ (.bool e)) :=
 h.cell 15 (.bool e) S { s with erase := e } rfl rfl rfl rfl rfl (h.sl.pU _ rfl rfl rfl rfl)
def AD (w0 w : World) (L : Lc) (S : Sc) (f : Fl) (s : St) (e : Ending) (w' : World) : Prop :=
 e = .returned (.tuple #[]) ∧ bM w0 w' L S f (bj s f) ∧ ah (bQ L S) w w'
theorem BB (ho : bD f s) (h : f.ok) : bm s f ≤ 16 := by
 unfold bm
 exact Nat.le_trans (Nat.div_le_self _ _) h.p2
theorem Hr (h : bM w0 w L S f s) (ho : bD f s) (hd : f.aF = false) :
 Calls prog 121 #[.pointer (some ⟨S.D, 0, none⟩)] w (AD w0 w L S f s) := by
 have c3 := h.row 3 _ rfl
 have c8 := h.row 8 _ rfl
 have s1 := ho.s1
 have s2 := ho.s2
 have hT := BB ho h.fl.ok
 have H := iD h
 have HO := iD ho
 have HD := iD hd
 have Ny := iD (fun w => mO s.ax.length (by have := ho.n2; omega) w)
 obtain ⟨k0, A0⟩ : ∃ k0 : Nat, s.av + 1 = k0 := ⟨(s.av + 1).toNat, oM⟩
 have hk0' : s.av = (k0 : Int) - 1 := oM
 have PF := iD hk0'
 rw [hk0'] at c8 s2
 have ab2 : k0 ≤ 16 := oM
 obtain ⟨T, hTT⟩ := ex (bm s f)
 have HT := iD hTT
 rw [hTT] at s2 hT
 have HK : Hid (s.k = cO s.ax.length) := rfl
 rw [← HK] at Ny
 have cB : s.block < s.aa := ho.bl
 have zZ := ho.b2
 have jG := ho.k8
 obtain ⟨K, hK⟩ := ex s.k
 have zk := iD hK
 rw [hK] at Ny jG
 generalize hn : s.ax.length = n at *
 have uM := iD cB
 clear h ho hd A0 hk0' s1 hn hTT hK HK
 go_enter func121, ntmps121
 go_wp2_with (fail)
 refine (Ny w).mono ?_
 rintro e w1 ⟨rfl, rfl⟩
 go_wp2
 go_loopw [3] (fun i wr => ∃ k : Nat, k0 ≤ k ∧ k ≤ T ∧ i = .int .i64 k ∧ (∀ j < k, s.av < j → cG f (aG s f s.block j) s.k = false) ∧ bW w wr) (fun i _ => T - (intOf i).toNat)
 case atStart => exact ⟨k0, Nat.le_refl _, oM, by go_num, fun j hj hs => by have := PF.out; omega, Below.refl _ _⟩
 case round =>
  obtain ⟨k, xv, hk, rfl, hf, hb⟩ := hrel
  have HF := iD hf
  have HB := iD hb
  have HS := iD (H.ab hb)
  have nh := iD (Hh HS HO)
  rw [HT] at nh
  clear hf hb
  by_cases aW : k < T
  ·go_wp2_with (fail)
   refine nh.mono ?_
   rintro e w2 ⟨rfl, q, rfl⟩
   have fK : Hid (bW w (wr.drewN q)) := HB.trans ((Below.drewN bV q).mono HB.size)
   have rU := iD (H.ab fK)
   generalize wr.drewN q = w2 at *
   have c7 := rU.row 7 _ rfl
   have jk := iD (sw rU HO (s.block : Int) (k : Int) s.block k rfl rfl oM oM)
   go_wp2_with (fail)
   refine jk.mono ?_
   rintro e w3 ⟨rfl, q2, rfl⟩
   have jd : Hid (bW w (w2.drewN q2)) := fK.trans ((Below.drewN bV q2).mono fK.size)
   have Pz := iD (H.ab jd)
   clear c7
   generalize w2.drewN q2 = w3 at *
   have ny : aG s f s.block k + K ≤ f.aq.length * f.pg := by
    rw [← zk]
    exact HO.oD uM (by rw [HT]; exact aW)
   have rM := iD (yZ Pz HD (aG s f s.block k : Nat) (K : Int) (aG s f s.block k) K rfl rfl ny)
   obtain ⟨pn, zU⟩ := ex (aG s f s.block k)
   have HPN := iD zU
   rw [zU] at rM
   rw [zU]
   clear ny zU
   by_cases sU : cG f pn K = true
   ·have HR : Hid (bj s f = { s with bH := s.block, bg := k, erase := false }) := by
     have : jW s f = some k := yT (by rw [HT.out]; exact aW) (by have := PF.out; omega) (by rw [HPN.out, zk.out]; exact sU) HF.out
     unfold bj
     rw [Hid, this]
    rw [sU] at rM
    clear sU
    go_wp2_with (fail)
    refine rM.mono ?_
    rintro e w4 ⟨rfl, iT⟩
    have xE : Hid (bW w w4) := jd.trans (iT.mono jd.size)
    have zg := iD (H.ab xE)
    clear iT
    have c7 := zg.row 7 _ rfl
    have Mk := zg.row 12 _ rfl
    have Dy := zg.row 13 _ rfl
    have UA := zg.row 15 _ rfl
    have NB := zg.fz 12
    have Kb := zg.fz 13
    have YA := zg.fz 15
    go_wp2
    first
     | go_end0
     | ((try simp only [Exit.inBlock, Exit.then]); refine bodyPost_ret (results_none rfl _ _ _) rfl ?_)
    unfold AD
    rw [HR]
    obtain ⟨a1, a2⟩ := zg.F5 s.block k
    obtain ⟨b1, b2⟩ := a1.er false
    exact ⟨rfl, b1, ((ah.ak xE).trans a2).trans b2⟩
   have hbk' : cG f pn K = false := by simpa using sU
   have HN : Hid (∀ j < k + 1, s.av < j → cG f (aG s f s.block j) s.k = false) := fun j hj hs => by
    by_cases e : j = k
    ·subst e
     rw [HPN, zk]
     exact hbk'
    exact HF j oM hs
   rw [hbk'] at rM
   clear sU hbk'
   go_wp2_with (fail)
   refine rM.mono ?_
   rintro e w4 ⟨rfl, iT⟩
   have xE : Hid (bW w w4) := jd.trans (iT.mono jd.size)
   clear iT
   go_wp2
   go_roundw
   case rel => exact ⟨k + 1, oM, oM, by go_num, HN, xE⟩
   case measure => simp [intOf]; omega
  have kg : k = T := oM
  subst kg
  have Zy : Hid (jW s f = none) := yU (by rw [HT]; exact HF)
  go_wp2_with (fail)
  refine nh.mono ?_
  rintro e w2 ⟨rfl, q, rfl⟩
  have fK : Hid (bW w (wr.drewN q)) := HB.trans ((Below.drewN bV q).mono HB.size)
  have rU := iD (H.ab fK)
  generalize wr.drewN q = w2 at *
  have c7 := rU.row 7 _ rfl
  have c2 := rU.row 2 _ rfl
  have Mk := rU.row 12 _ rfl
  have Dy := rU.row 13 _ rfl
  have NB := rU.fz 12
  have Kb := rU.fz 13
  have dZ := HO.b1
  obtain ⟨nb, zV⟩ := ex ((s.block + 1) % s.aa)
  have Bj := iD zV
  have Nr : Hid (nb < s.aa) := by rw [Hid, ← zV]; exact Nat.mod_lt _ oM
  have abE : nb < 16 := by have := Nr.out; omega
  have t1 : IntKind.i64.wrap ((s.block : Int) + 1) = (s.block : Int) + 1 := IntWalk.i64_in _ oM
  have t2 : ((s.block : Int) + 1).tmod (s.aa : Int) = (nb : Int) := by
   rw [Int.tmod_eq_emod_of_nonneg oM, ← zV]
   push_cast
   rfl
  have t3 : ((s.block : Int) + 1) % (s.aa : Int) = (nb : Int) := by
   rw [← zV]
   push_cast
   rfl
  have t4 : ((s.aa : Int) == 0) = false := by simp; omega
  clear zV
  go_wp2
  have t5 : (1 : Int) ≤ (s.aa : Int) := oM
  have t6 : (0 : Int) ≤ (s.block : Int) + 1 := oM
  go_region
  obtain ⟨W, hW⟩ := ex ((w2.setCell ⟨S.D, 12, none⟩ (.int .i64 nb)).setCell ⟨S.D, 13, none⟩ (.int .i64 0)).drew
  rw [hW]
  have Jo : Hid (bM w0 W L S f { s with bH := nb, bg := 0 } ∧ ah (bQ L S) w W) := by
   obtain ⟨a1, a2⟩ := rU.F5 nb 0
   have hb := Below.drew (Below.refl ((w2.setCell ⟨S.D, 12, none⟩ (.int .i64 nb)).setCell ⟨S.D, 13, none⟩ (.int .i64 (0 : Nat))).heap.size ((w2.setCell ⟨S.D, 12, none⟩ (.int .i64 nb)).setCell ⟨S.D, 13, none⟩ (.int .i64 (0 : Nat))))
   rw [← hW]
   exact ⟨a1.ab hb, ((ah.ak fK).trans a2).trans (ah.ak hb)⟩
  clear c2 c3 c7 c8 Mk Dy NB Kb t1 t2 t3 t4 t5 t6 hW
  have iH : Hid (bD f { s with bH := nb, bg := 0 }) :=
   ⟨HO.n1, HO.n2, HO.sp, HO.b1, HO.b2, HO.fb, HO.kp, HO.sl, HO.tl, HO.vl, HO.si, HO.ti, HO.vi, HO.q1, HO.q2, HO.bl, HO.s1, HO.s2, HO.pl, HO.pb, Nr, HO.sl1, HO.dn, HO.dk, HO.qb⟩
  have Mk := Jo.1.row 12 _ rfl
  have UA := Jo.1.row 15 _ rfl
  have c0 := Jo.1.row 0 _ rfl
  have YA := Jo.1.fz 15
  have jk : Hid (∀ W', bW W W' → Calls prog 113 #[.pointer (some ⟨S.D, 0, none⟩), .int .i64 (nb : Int), .int .i64 0] W' fun e w' => e = .returned (.int .i64 (aG s f nb 0 : Nat)) ∧ ∃ q, w' = W'.drewN q) :=
   fun W' hb => sw (Jo.1.ab hb) iH (nb : Int) 0 nb 0 rfl rfl oM oM
  have abk : Hid (∀ W', bW W W' → Calls prog 61 #[.pointer (some ⟨L.d, 0, none⟩)] W' fun e w' => e = .returned (.int .i64 (f.pg : Nat)) ∧ W' = w') :=
   fun W' hb => iq (Jo.1.fl.ab hb)
  have ny : aG s f nb 0 + f.pg ≤ f.aq.length * f.pg := HO.wT Nr
  have rM : Hid (∀ W', bW W W' → Calls prog 126 #[.pointer (some ⟨S.D, 0, none⟩), .int .i64 (aG s f nb 0 : Nat), .int .i64 (f.pg : Nat)] W' fun e w' => e = .returned (.bool (cG f (aG s f nb 0) f.pg)) ∧ bW W' w') :=
   fun W' hb => yZ (Jo.1.ab hb) HD (aG s f nb 0 : Nat) (f.pg : Nat) (aG s f nb 0) f.pg rfl rfl ny
  have HR : Hid (bj s f = { s with bH := nb, bg := 0, erase := !cG f (aG s f nb 0) f.pg }) := by
   unfold bj
   rw [Hid, Zy, Bj]
  clear ny
  generalize aG s f nb 0 = pn at *
  generalize f.pg = pg at *
  generalize cG f pn pg = bk at *
  have iJ : Hid (∀ W', bW W W' → W'.cell? ⟨S.D, 12, none⟩ = some (.int .i64 nb) ∧ W'.cell? ⟨S.D, 0, none⟩ = some (.pointer (some ⟨L.d, 0, none⟩))) :=
   fun W' hb => ⟨(Jo.1.ab hb).row 12 _ rfl, (Jo.1.ab hb).row 0 _ rfl⟩
  have Re : Hid (∀ W', bW W W' → W'.cell? ⟨S.D, 15, none⟩ = some (.bool s.erase) ∧ W'.frozen? ⟨S.D, 15, none⟩ = false) :=
   fun W' hb => ⟨(Jo.1.ab hb).row 15 _ rfl, (Jo.1.ab hb).fz 15⟩
  have HKT : Hid (∀ W' v, bW W W' → (W'.setCell ⟨S.D, 15, none⟩ v).drew.cell? ⟨S.D, 12, none⟩ = some (.int .i64 nb) ∧ (W'.setCell ⟨S.D, 15, none⟩ v).drew.cell? ⟨S.D, 0, none⟩ = some (.pointer (some ⟨L.d, 0, none⟩))) :=
   fun W' v hb => ⟨(World.cell?_setCell_other _ _ _ _ (by simp)).trans (iJ W' hb).1, (World.cell?_setCell_other _ _ _ _ (by simp)).trans (iJ W' hb).2⟩
  clear UA YA
  go_wp2_with (fail)
  go_region_held3 (fun w' => w'.cell? ⟨S.D, 12, none⟩ = some (.int .i64 nb) ∧ w'.cell? ⟨S.D, 0, none⟩ = some (.pointer (some ⟨L.d, 0, none⟩))) (first | go_keep | exact iJ _ jI | exact HKT _ _ jI) (first
   | (go_at_call 113; refine (jk _ (by repeat (first | exact Below.refl _ _ | refine Below.drew ?_ | refine Below.drewN ?_ _))).mono ?_; rintro e wp ⟨rfl, q1, rfl⟩)
   | (go_at_call 61; refine (abk _ (by repeat (first | exact Below.refl _ _ | refine Below.drew ?_ | refine Below.drewN ?_ _))).mono ?_; rintro e wp ⟨rfl, rfl⟩)
   | (go_at_call 126; refine (rM _ (by repeat (first | exact Below.refl _ _ | refine Below.drew ?_ | refine Below.drewN ?_ _))).mono ?_; rintro e wb ⟨rfl, hb⟩; have jI := (Below.drewN (Below.refl W.heap.size W) _).trans hb; obtain ⟨acx, abI⟩ := Re _ jI))
  all_goals
   go_end0
   unfold AD
   rw [HR]
   obtain ⟨b1, b2⟩ := (Jo.1.ab jI).er (!bk)
   exact ⟨rfl, b1, (Jo.2.trans (ah.ak jI)).trans b2⟩
end
section
variable {w0 w : World} {L : Lc} {S : Sc} {f : Fl} {s : St}
theorem bM.dY (h : bM w0 w L S f s) : ∀ b, eu L S b → b < w.heap.size := by
 intro b hb
 have h1 := h.fl.ld
 have h2 := h.fl.bi.2
 have h3 := h.fl.bw.2
 have h4 := h.dl
 have h5 := h.gl.2
 have h6 := h.fl.eb b
 rcases hb with (e | e | e | e | e) | e
 ·omega
 ·omega
 ·omega
 ·omega
 ·omega
 exact h6 e
theorem bQ.same (h1 : S'.D = S.D) (h2 : S'.G = S.G) : bQ L S' = bQ L S := by
 funext b
 unfold bQ
 rw [h1, h2]
theorem eu.same (h1 : S'.D = S.D) (h2 : S'.G = S.G) : eu L S' = eu L S := by
 funext b
 unfold eu
 rw [bQ.same h1 h2]
theorem xJ (s : St) (f : Fl) : (bj s f).aj = s.aj := by unfold bj; split <;> rfl
def qw (w0 w : World) (L : Lc) (S : Sc) (f : Fl) (s : St) (e : Ending) (w' : World) : Prop :=
 e = .returned (fy (aO s f)) ∧ (∃ S', S'.D = S.D ∧ S'.G = S.G ∧ bM w0 w' L S' f (aZ s f)) ∧ ah (bQ L S) w w'
theorem bM.br (h : bM w0 w L S f s) (b : Bool) :
 bM w0 (w.setCell ⟨S.D, 9, none⟩ (.bool b)) L S f { s with af := b } ∧ ah (bQ L S) w (w.setCell ⟨S.D, 9, none⟩ (.bool b)) :=
 h.cell 9 (.bool b) S { s with af := b } rfl rfl rfl rfl rfl (h.sl.pU _ rfl rfl rfl rfl)
theorem bM.laid (h : bM w0 w L S f s) (A : Option Addr) (c : Nat) (ps : List (List Int)) (B : Option Addr) (d : Nat) (vs : List Int) (hA : lU (eu L S) w A ps) (hc : ps.length ≤ c) (fS : c ≤ maxLen) (hB : cn (eu L S) w B (aw vs)) (hd : vs.length ≤ d) (hdm : d ≤ maxLen) :
 bM w0 ((((w.setCell ⟨S.D, 10, none⟩ (.slice A ps.length c)).setCell ⟨S.D, 11, none⟩ (.slice B vs.length d)).setCell ⟨S.D, 14, none⟩ (.int .i64 0)).setCell ⟨S.D, 16, none⟩ (.bool true)) L { S with Ap := A, cp := c, Au := B, cu := d } f { s with bZ := ps, values := vs, done := 0, bt := true } ∧
 ah (bQ L S) w ((((w.setCell ⟨S.D, 10, none⟩ (.slice A ps.length c)).setCell ⟨S.D, 11, none⟩ (.slice B vs.length d)).setCell ⟨S.D, 14, none⟩ (.int .i64 0)).setCell ⟨S.D, 16, none⟩ (.bool true)) := by
 obtain ⟨a1, a2⟩ := h.cell 10 (.slice A ps.length c) { S with Ap := A, cp := c } { s with bZ := ps } rfl rfl rfl rfl rfl
  ⟨h.sl.sp, h.sl.P2, h.sl.P1, h.sl.sv, h.sl.T0, h.sl.TZ, hA, hc, fS, h.sl.vv, h.sl.Rr, h.sl.Rq⟩
 obtain ⟨b1, b2⟩ := a1.cell 11 (.slice B vs.length d) { S with Ap := A, cp := c, Au := B, cu := d } { s with bZ := ps, values := vs } rfl rfl rfl rfl rfl
  ⟨a1.sl.sp, a1.sl.P2, a1.sl.P1, a1.sl.sv, a1.sl.T0, a1.sl.TZ, a1.sl.pp, a1.sl.T4, a1.sl.T3, hB.ao a2, hd, hdm⟩
 obtain ⟨c1, c2⟩ := b1.cell 14 (.int .i64 0) { S with Ap := A, cp := c, Au := B, cu := d } { s with bZ := ps, values := vs, done := 0 } rfl rfl rfl rfl rfl (b1.sl.pU _ rfl rfl rfl rfl)
 obtain ⟨d1, d2⟩ := c1.cell 16 (.bool true) { S with Ap := A, cp := c, Au := B, cu := d } { s with bZ := ps, values := vs, done := 0, bt := true } rfl rfl rfl rfl rfl (c1.sl.pU _ rfl rfl rfl rfl)
 exact ⟨d1, ((a2.trans b2).trans c2).trans d2⟩
theorem iY {w' : World} (hE : aO s f = k) (hk : k ≠ 0) (hs : bM w0 w' L S f (ga s f)) (ho : ah (bQ L S) w w') : qw w0 w L S f s (.returned (.iface 108 (.int .i64 k))) w' := by
 unfold qw aZ
 rw [hE, iN hk, dJ hk]
 exact ⟨rfl, ⟨S, rfl, rfl, hs⟩, ho⟩
theorem za (h : bM w0 w L S f s) (ho : bD f s) :
 Calls prog 106 #[.pointer (some ⟨S.D, 0, none⟩)] w (qw w0 w L S f s) := by
 have h1 := kM S.D
 have g1 := ne_nil
 have g2 := fW
 have c0 := h.row 0 _ rfl
 have c9 := h.row 9 _ rfl
 have z9 := h.fz 9
 have H := iD h
 have HO := iD ho
 have DD := iD (fun (w' : World) (hb : bW w w') => nZ (h.fl.ab hb))
 have FE := iD (nZ h.fl)
 by_cases cQ : (s.af || f.aF) = true
 ·have HE : Hid (aO s f = 20) := by unfold aO; rw [Hid, iP cQ]
  have eW := iD (h.br true)
  have rM : Hid (ga s f = { s with af := true }) := by unfold ga; rw [Hid, cQ]
  by_cases hb : s.af = true
  ·rw [hb] at c9
   clear h ho cQ hb
   go_enter func106, ntmps106
   go_wp2
   go_ret
   exact iY HE oM (by rw [rM]; exact eW.1) eW.2
  have cU : s.af = false := by simpa using hb
  have hd : f.aF = true := by rw [cU] at cQ; simpa using cQ
  rw [cU] at c9
  rw [hd] at FE
  clear h ho cQ hb cU hd
  go_enter func106, ntmps106
  go_wp2_with (fail)
  refine FE.mono ?_
  rintro e w1 ⟨rfl, rfl⟩
  go_wp2
  go_ret
  exact iY HE oM (by rw [rM]; exact eW.1) eW.2
 have aaD : s.af = false ∧ f.aF = false := by simpa using cQ
 obtain ⟨hb, hd⟩ := aaD
 rw [hb] at c9
 rw [hd] at FE
 have rM : Hid (ga s f = { s with af := false }) := by unfold ga; rw [Hid, hb, hd]; rfl
 obtain ⟨W, hW⟩ := ex (w.setCell ⟨S.D, 9, none⟩ (.bool false))
 have eW : Hid (bM w0 W L S f (ga s f) ∧ ah (bQ L S) w W) := by
  rw [rM, ← hW]
  exact h.br false
 have AL := iD (Aq (f := f) ho)
 have HD := iD hd
 have HB := iD hb
 have d9 : W.cell? ⟨S.D, 9, none⟩ = some (.bool false) := by have := eW.1.row 9 _ rfl; rw [rM] at this; exact this
 have d16 : W.cell? ⟨S.D, 16, none⟩ = some (.bool s.bt) := eW.1.row 16 _ rfl
 clear ho cQ hb hd
 by_cases nS : s.bt = true
 ·have HE : Hid (aO s f = 14) := by unfold aO; rw [Hid, HB, HD, iN (by decide), iP nS]
  rw [nS] at d16
  clear h nS
  go_enter func106, ntmps106
  go_wp2_with (fail)
  refine FE.mono ?_
  rintro e w1 ⟨rfl, rfl⟩
  go_wp2
  go_ret
  exact iY HE oM eW.1 eW.2
 have hbu' : s.bt = false := by simpa using nS
 have Nx := iD hbu'
 rw [hbu'] at d16
 have d5 : W.cell? ⟨S.D, 5, none⟩ = some (.slice (some ⟨S.G, 0, none⟩) s.aj.length S.cg) := eW.1.row 5 _ rfl
 have d4 : W.cell? ⟨S.D, 4, none⟩ = some (.slice S.Av s.an.length S.cv) := eW.1.row 4 _ rfl
 have d6 : W.cell? ⟨S.D, 6, none⟩ = some (.int .i64 s.seq) := eW.1.row 6 _ rfl
 have qS := HO.n2
 have yQ := HO.n1
 have FH : Hid (∀ q, Calls prog 120 #[.slice (some ⟨S.G, 0, none⟩) s.aj.length S.cg, .slice S.Av s.an.length S.cv] (W.drewN q) fun e w' => e = .returned (.bool (decide (s.aj = s.an))) ∧ ∃ k, w' = (W.drewN q).drewN k) := by
  intro q
  have hb := Below.drewN (Below.refl W.heap.size W) q
  have hs := eW.1.ab hb
  exact EP _ _ _ _ _ _ s.aj s.an (W.drewN q) (ky hs.sg) hs.sl.sv.rd rfl rfl (by unfold maxLen; rw [HO.tl]; omega) (by unfold maxLen; rw [HO.sl]; omega)
 have xL := HO.tl
 have lQ := HO.sl
 rw [xL] at d5 FH
 rw [lQ] at d4 FH
 generalize hn : s.ax.length = n at *
 have AG := iD xL
 clear h nS hbu' xL lQ hn
 by_cases heq : s.aj = s.an
 ·have HE : Hid (aO s f = 12) := by unfold aO; rw [Hid, HB, HD, iN (by decide), Nx, iN (by decide), iP heq]
  rw [decide_eq_true heq] at FH
  clear heq
  go_enter func106, ntmps106
  go_wp2_with (fail)
  refine FE.mono ?_
  rintro e w1 ⟨rfl, rfl⟩
  go_wp2
  go_quiet ((go_at_call 120; with_reducible exact Calls.quiet_of (FH.out _)))
  go_wp2
  go_ret
  exact iY HE oM (eW.1.ab (Below.drewN bV _)) (eW.2.trans (ah.ak (Below.drewN bV _)))
 rw [decide_eq_false heq] at FH
 have hE : aO s f = fX (s.seq + 1) n := by unfold aO; rw [HB, HD, iN (by decide), Nx, iN (by decide), iN heq, AG]
 have Dp := HO.q1
 have AY := HO.q2
 have tq : IntKind.i64.wrap (s.seq + 1) = s.seq + 1 := IntWalk.i64_in _ oM
 have UN : Hid (∀ b, eu L S b → b < W.heap.size) := eW.1.dY
 by_cases he : fX (s.seq + 1) n = 0
 ·have HE : Hid (aO s f = 0) := by rw [Hid, hE]; exact he
  have H52 : Hid (∀ W', bW W W' → Calls prog 117 #[.int .i64 (s.seq + 1), .slice (some ⟨S.G, 0, none⟩) n S.cg] W' fun e w' => ∃ A' c', e = .returned (.tuple #[.slice A' (cO n) c', .nilIface]) ∧ cO n ≤ c' ∧ c' ≤ maxLen ∧ lU (eu L S) w' A' (dS (s.seq + 1) s.aj) ∧ bW W' w') := by
   intro W' hb
   have hs := eW.1.ab hb
   have hg := hs.cg
   rw [show (ga s f).aj = s.aj from rfl, AG] at hg
   exact GC (eu L S) (s.seq + 1) _ n S.cg s.aj W' hs.dY (ky hs.sg) AG hg.1 hg.2 HO.ti he
  clear heq hE he
  go_enter func106, ntmps106
  go_wp2_with (fail)
  refine FE.mono ?_
  rintro e w1 ⟨rfl, rfl⟩
  go_wp2
  go_quiet ((go_at_call 120; with_reducible exact Calls.quiet_of (FH.out _)))
  have iJ : Hid (∀ W', bW W W' → W'.cell? ⟨S.D, 6, none⟩ = some (.int .i64 s.seq) ∧ W'.cell? ⟨S.D, 5, none⟩ = some (.slice (some ⟨S.G, 0, none⟩) n S.cg)) :=
   fun W' hb => ⟨(eW.1.ab hb).row 6 _ rfl, by have := (eW.1.ab hb).row 5 _ rfl; rw [show (ga s f).aj = s.aj from rfl, AG] at this; exact this⟩
  have nj : Hid (∀ W', bW W W' → Calls prog 121 #[.pointer (some ⟨S.D, 0, none⟩)] W' (AD w0 W' L S f (ga s f))) :=
   fun W' hb => Hr (eW.1.ab hb) AL HD
  go_wp2_with (fail)
  go_region_held3 (fun w' => w'.cell? ⟨S.D, 6, none⟩ = some (.int .i64 s.seq) ∧ w'.cell? ⟨S.D, 5, none⟩ = some (.slice (some ⟨S.G, 0, none⟩) n S.cg)) (first | go_keep | exact iJ _ jI) (first
   | (go_at_call 117; refine (H52 _ (by repeat (first | exact Below.refl _ _ | refine Below.drew ?_ | refine Below.drewN ?_ _))).mono ?_; rintro e wb ⟨A', c', rfl, hpc, fS, VM, hb⟩; have jI := (Below.drewN (Below.refl W.heap.size W) _).trans hb))
  have Fx := iD hpc
  have uo := iD fS
  have J3 := iD VM
  have jS := iD jI
  clear hpc fS VM hb jI tq
  go_wp2_with (fail)
  refine (nj _ (by repeat (first | exact jS | refine Below.drew ?_ | refine Below.drewN ?_ _))).mono ?_
  rintro e w6 ⟨rfl, Gm, oH⟩
  have J2 := iD Gm
  have DB : Hid (ah (bQ L S) w w6) := (eW.2.trans (ah.ak (by repeat (first | exact jS | refine Below.drew ?_ | refine Below.drewN ?_ _)))).trans oH
  have Tn : Hid (lU (eu L S) w6 A' (dS (s.seq + 1) s.aj)) :=
   J3.ao ((ah.ak (by repeat (first | exact Below.refl _ _ | refine Below.drew ?_ | refine Below.drewN ?_ _))).trans oH)
  have dV : (bj (ga s f) f).aj = s.aj := by rw [xJ]; rfl
  have d5' := J2.row 5 _ rfl
  rw [dV, AG] at d5'
  have Dh : Hid (Calls prog 104 #[.slice (some ⟨S.G, 0, none⟩) n S.cg] w6 fun e w' => ∃ v', e = .returned v' ∧ w'.ownsRow w6.heap.size 3 1 v' n (aw s.aj) ∧ bW w6 w') := by
   have hg := J2.sg
   rw [dV, AG] at hg
   exact kS _ n S.cg w6.heap.size s.aj w6 (ky hg) cV AG oM
  clear Gm oH dV J3 d4 d5 d6 d9 d16
  go_wp2_with (fail)
  refine Dh.mono ?_
  rintro e w7 ⟨v', rfl, Ng, jf⟩
  obtain ⟨B, d, rfl, QG, OH, Ip⟩ := bL Ng
  have C5 := iD (J2.ab jf)
  have Fv : Hid (cn (eu L S) w7 B (aw s.aj)) := cn.new J2.dY cV (by rw [cj, AG]) Ng
  have MV := iD (C5.laid A' c' (dS (s.seq + 1) s.aj) B d s.aj (Tn.ao (ah.ak jf)) (by rw [fG, AG]; exact Fx) uo Fv (by rw [AG]; exact QG) OH)
  rw [fG, AG] at MV
  have X4 : Hid (ah (bQ L S) w w7) := DB.trans (ah.ak jf)
  have EU := C5.row 10 _ rfl
  have e11 := C5.row 11 _ rfl
  have GD := C5.row 14 _ rfl
  have e16 := C5.row 16 _ rfl
  have AS := C5.fz 10
  have Kd := C5.fz 11
  have G3 := C5.fz 14
  have z16 := C5.fz 16
  clear Ng jf Ip QG OH d5'
  go_wp2
  go_ret
  unfold qw aZ
  rw [HE, iP rfl]
  exact ⟨rfl, ⟨{ S with Ap := A', cp := c', Au := B, cu := d }, rfl, rfl, MV.1⟩, X4.trans MV.2⟩
 have HE : Hid (aO s f = 3) := by
  rw [Hid, hE]
  unfold fX at he ⊢
  split
  ·rfl
  rename_i h; rw [iN h] at he; exact absurd rfl he
 have H52 : Hid (∀ W', Calls prog 117 #[.int .i64 (s.seq + 1), .slice (some ⟨S.G, 0, none⟩) n S.cg] W' fun e w' => e = .returned (.tuple #[.slice none 0 0, .iface 108 (.int .i64 3)]) ∧ W' = w') :=
  fun W' => L4 (s.seq + 1) _ n S.cg W' oM he
 clear heq hE he
 go_enter func106, ntmps106
 go_wp2_with (fail)
 refine FE.mono ?_
 rintro e w1 ⟨rfl, rfl⟩
 go_wp2
 go_quiet ((go_at_call 120; with_reducible exact Calls.quiet_of (FH.out _)))
 go_wp2_with (fail)
 go_region_held3 (fun w' => w'.cell? ⟨S.D, 6, none⟩ = some (.int .i64 s.seq) ∧ w'.cell? ⟨S.D, 5, none⟩ = some (.slice (some ⟨S.G, 0, none⟩) n S.cg)) (go_keep) (first
  | (go_at_call 117; refine (H52 _).mono ?_; rintro e wb ⟨rfl, rfl⟩))
 go_wp2
 go_ret
 exact iY HE oM (eW.1.ab (by repeat (first | exact Below.refl _ _ | refine Below.drew ?_ | refine Below.drewN ?_ _))) (eW.2.trans (ah.ak (by repeat (first | exact Below.refl _ _ | refine Below.drew ?_ | refine Below.drewN ?_ _))))
end
theorem m0 (f : Fl) (b : Int) : (aT f b).1.az = f.az := by
 unfold aT
 split
 ·rfl
 split
 ·rfl
 split
 ·exact (dW f).2.2.2
 exact (dW f).2.2.2
theorem nJ (f : Fl) (p : Int) (b : List Int) : (bz f p b).1.az = f.az := by
 unfold bz
 split
 ·rfl
 split
 ·rfl
 split
 ·rfl
 split
 ·exact (dW f).2.2.2
 exact (dW f).2.2.2
theorem yG (s : St) (f : Fl) : (eV s f).1.az = f.az := by
 unfold eV
 split
 ·exact m0 _ _
 exact nJ _ _ _
section
variable {w0 w : World} {L : Lc} {S : Sc} {f : Fl} {s : St}
def lL (w0 w : World) (L : Lc) (S : Sc) (q : St × Fl × Bool × Int) (e : Ending) (w' : World) : Prop :=
 e = .returned (.tuple #[.bool q.2.2.1, fy q.2.2.2]) ∧ (∃ S', S'.D = S.D ∧ S'.G = S.G ∧ bM w0 w' L S' q.2.1 q.1) ∧ ah (bQ L S) w w'
theorem mL {k : Int} (hb : s.af = false) (hu : s.bt = true) (h : (eV s f).2 ≠ 0) : aI s f = ({ ct s with af := true }, (eV s f).1, false, 20) := by
 unfold aI
 rw [iN (by rw [hb]; decide), iN (by rw [hu]; decide), iP h]
theorem mK (hb : s.af = false) (hu : s.bt = true) (h : (eV s f).2 = 0) (hl : (ct s).done < (ct s).bZ.length) : aI s f = (ct s, (eV s f).1, false, 0) := by
 unfold aI
 rw [iN (by rw [hb]; decide), iN (by rw [hu]; decide), iN (by rw [h]; decide), iP hl]
theorem vm (hb : s.af = false) (hu : s.bt = true) (h : (eV s f).2 = 0) (hl : ¬ (ct s).done < (ct s).bZ.length) : aI s f = (kO (ct s), (eV s f).1, true, 0) := by
 unfold aI
 rw [iN (by rw [hb]; decide), iN (by rw [hu]; decide), iN (by rw [h]; decide), iN hl]
theorem pL (h : bM w0 w L S f s) (ho : bD f s) (hb : s.af = false) (hu : s.bt = true) (he : s.erase = true) :
 Calls prog 92 #[.pointer (some ⟨S.D, 0, none⟩)] w (lL w0 w L S (aI s f)) := by
 have h1 := kM S.D
 have g1 := ne_nil
 have g2 := fW
 have c0 := h.row 0 _ rfl
 have c1 := h.row 1 _ rfl
 have c9 := h.row 9 _ rfl
 have Mk := h.row 12 _ rfl
 have UA := h.row 15 _ rfl
 have Xh := h.row 16 _ rfl
 rw [hb] at c9
 rw [hu] at Xh
 rw [he] at UA
 have hw := h.fl.ok.b2
 have Dt := ho.fb
 have YI := ho.tb
 have zZ := ho.b2
 have t0 : IntKind.i64.wrap ((s.first : Int) + (s.bH : Int)) = (s.first : Int) + (s.bH : Int) := IntWalk.i64_in _ oM
 have uI : Hid (eV s f = aT f ((s.first : Int) + (s.bH : Int))) := by unfold eV; rw [Hid, iP he]
 have nn : Hid (∀ W', bW w W' → Calls prog 60 #[.pointer (some ⟨L.d, 0, none⟩), .int .i64 ((s.first : Int) + (s.bH : Int))] W' fun e w' => e = .returned (fy (eV s f).2) ∧ bM w0 w' L S (eV s f).1 s ∧ ah (bQ L S) W' w') := by
  intro W' cB
  rw [uI]
  refine (ta (h.ab cB).fl ((s.first : Int) + (s.bH : Int))).mono ?_
  rintro e w' ⟨a, b, c⟩
  exact ⟨a, (h.ab cB).EI b c (m0 _ _), .j9 c (bQ.fl L S)⟩
 have xz : Hid (ct s = { s with erase := false }) := by unfold ct; rw [Hid, iP he]
 have qc := ho.dn hu hb
 have fQ := ho.pl hu
 have iJ : Hid (∀ W', bM w0 W' L S (eV s f).1 s → W'.cell? ⟨S.D, 0, none⟩ = some (.pointer (some ⟨L.d, 0, none⟩)) ∧ W'.cell? ⟨S.D, 1, none⟩ = some (.int .i64 s.first) ∧ W'.cell? ⟨S.D, 12, none⟩ = some (.int .i64 s.bH)) :=
  fun W' hs => ⟨hs.row 0 _ rfl, hs.row 1 _ rfl, hs.row 12 _ rfl⟩
 by_cases hc : (eV s f).2 = 0
 ·have HR := iD (mK hb hu hc (by rw [xz]; simp only; omega))
  rw [hc, bG] at nn
  obtain ⟨f', Dv⟩ := ex (eV s f).1
  have HF' := iD Dv
  rw [Dv] at nn iJ HR
  clear h ho hb hu he Dt hw hc Dv
  go_enter func92, ntmps92
  go_wp2_with (fail)
  go_region_held3 (fun w' => w'.cell? ⟨S.D, 0, none⟩ = some (.pointer (some ⟨L.d, 0, none⟩)) ∧ w'.cell? ⟨S.D, 1, none⟩ = some (.int .i64 s.first) ∧ w'.cell? ⟨S.D, 12, none⟩ = some (.int .i64 s.bH)) (first | go_keep | exact iJ _ uA) (first
   | (go_at_call 60; refine (nn _ (by repeat (first | exact Below.refl _ _ | refine Below.drew ?_ | refine Below.drewN ?_ _))).mono ?_; rintro e we ⟨rfl, uA, kd⟩))
  have jQ := iD uA
  have xc : Hid (ah (bQ L S) w we) := (ah.ak (by repeat (first | exact Below.refl _ _ | refine Below.drew ?_ | refine Below.drewN ?_ _))).trans kd
  clear uA kd
  have e15 := jQ.row 15 _ rfl
  have GD := jQ.row 14 _ rfl
  have EU := jQ.row 10 _ rfl
  have YA := jQ.fz 15
  rw [fQ] at EU
  have Jy := iD (jQ.er false)
  rw [← xz] at Jy
  go_wp2
  go_quiet (fail)
  go_wp2
  go_ret2
  unfold lL
  rw [HR]
  exact ⟨rfl, ⟨S, rfl, rfl, Jy.1.ab (Below.drewN bV _)⟩, (xc.trans Jy.2).trans (ah.ak (Below.drewN bV _))⟩
 have HR := iD (mL (k := 0) hb hu hc)
 have HE := iD (dJ hc)
 rw [HE] at nn
 obtain ⟨f', Dv⟩ := ex (eV s f).1
 have HF' := iD Dv
 rw [Dv] at nn iJ HR
 generalize (eV s f).2 = kk at *
 clear h ho hb hu he Dt hw hc Dv
 go_enter func92, ntmps92
 go_wp2_with (fail)
 go_region_held3 (fun w' => w'.cell? ⟨S.D, 0, none⟩ = some (.pointer (some ⟨L.d, 0, none⟩)) ∧ w'.cell? ⟨S.D, 1, none⟩ = some (.int .i64 s.first) ∧ w'.cell? ⟨S.D, 12, none⟩ = some (.int .i64 s.bH)) (first | go_keep | exact iJ _ uA) (first
  | (go_at_call 60; refine (nn _ (by repeat (first | exact Below.refl _ _ | refine Below.drew ?_ | refine Below.drewN ?_ _))).mono ?_; rintro e we ⟨rfl, uA, kd⟩))
 have jQ := iD uA
 have xc : Hid (ah (bQ L S) w we) := (ah.ak (by repeat (first | exact Below.refl _ _ | refine Below.drew ?_ | refine Below.drewN ?_ _))).trans kd
 clear uA kd
 have e15 := jQ.row 15 _ rfl
 have e9 := jQ.row 9 _ rfl
 have YA := jQ.fz 15
 have z9 := jQ.fz 9
 have Jy := iD (jQ.er false)
 have MY := iD (Jy.1.br true)
 go_wp2
 go_ret2
 unfold lL
 rw [HR, xz]
 exact ⟨rfl, ⟨S, rfl, rfl, MY.1⟩, (xc.trans Jy.2).trans MY.2⟩
end
section
variable {w0 w : World} {L : Lc} {S : Sc} {f : Fl} {s : St}
theorem bM.dn (h : bM w0 w L S f s) (k : Nat) :
 bM w0 (w.setCell ⟨S.D, 14, none⟩ (.int .i64 k)) L S f { s with done := k } ∧ ah (bQ L S) w (w.setCell ⟨S.D, 14, none⟩ (.int .i64 k)) :=
 h.cell 14 (.int .i64 k) S { s with done := k } rfl rfl rfl rfl rfl (h.sl.pU _ rfl rfl rfl rfl)
theorem bM.sq (h : bM w0 w L S f s) (k : Int) :
 bM w0 (w.setCell ⟨S.D, 6, none⟩ (.int .i64 k)) L S f { s with seq := k } ∧ ah (bQ L S) w (w.setCell ⟨S.D, 6, none⟩ (.int .i64 k)) :=
 h.cell 6 (.int .i64 k) S { s with seq := k } rfl rfl rfl rfl rfl (h.sl.pU _ rfl rfl rfl rfl)
theorem bM.bs (h : bM w0 w L S f s) (b : Nat) (j : Int) :
 bM w0 ((w.setCell ⟨S.D, 7, none⟩ (.int .i64 b)).setCell ⟨S.D, 8, none⟩ (.int .i64 j)) L S f { s with block := b, av := j } ∧ ah (bQ L S) w ((w.setCell ⟨S.D, 7, none⟩ (.int .i64 b)).setCell ⟨S.D, 8, none⟩ (.int .i64 j)) := by
 obtain ⟨a1, a2⟩ := h.cell 7 (.int .i64 b) S { s with block := b } rfl rfl rfl rfl rfl (h.sl.pU _ rfl rfl rfl rfl)
 obtain ⟨b1, b2⟩ := a1.cell 8 (.int .i64 j) S { s with block := b, av := j } rfl rfl rfl rfl rfl (a1.sl.pU _ rfl rfl rfl rfl)
 exact ⟨b1, a2.trans b2⟩
theorem bM.sv (h : bM w0 w L S f s) :
 bM w0 ((w.setCell ⟨S.D, 4, none⟩ (.slice S.Au s.values.length S.cu)).setCell ⟨S.D, 16, none⟩ (.bool false)) L { S with Av := S.Au, cv := S.cu } f { s with an := s.values, bt := false } ∧
 ah (bQ L S) w ((w.setCell ⟨S.D, 4, none⟩ (.slice S.Au s.values.length S.cu)).setCell ⟨S.D, 16, none⟩ (.bool false)) := by
 obtain ⟨a1, a2⟩ := h.cell 4 (.slice S.Au s.values.length S.cu) { S with Av := S.Au, cv := S.cu } { s with an := s.values } rfl rfl rfl rfl rfl
  ⟨h.sl.sp, h.sl.P2, h.sl.P1, h.sl.vv, h.sl.Rr, h.sl.Rq, h.sl.pp, h.sl.T4, h.sl.T3, h.sl.vv, h.sl.Rr, h.sl.Rq⟩
 obtain ⟨b1, b2⟩ := a1.cell 16 (.bool false) { S with Av := S.Au, cv := S.cu } { s with an := s.values, bt := false } rfl rfl rfl rfl rfl (a1.sl.pU _ rfl rfl rfl rfl)
 exact ⟨b1, a2.trans b2⟩
theorem D5 (h : bM w0 w L S f s) (ho : bD f s) (hb : s.af = false) (hu : s.bt = true) (he : s.erase = false) :
 ∃ b off Q c p, S.Ap = some ⟨b, off, none⟩ ∧ w.cell? ⟨b, off + s.done, none⟩ = some (.slice Q 64 c) ∧ (∀ W', bM w0 W' L S (eV s f).1 s → ah (bQ L S) w W' → W'.cell? ⟨b, off + s.done, none⟩ = some (.slice Q 64 c)) ∧
 (eV s f = bz f ((aG s f s.bH s.bg + s.done : Nat) : Int) p) ∧
 ∀ W', bW w W' → Calls prog 62 #[.pointer (some ⟨L.d, 0, none⟩), .int .i64 ((aG s f s.bH s.bg + s.done : Nat) : Int), .slice Q 64 c] W' fun e w' => e = .returned (fy (eV s f).2) ∧ bM w0 w' L S (eV s f).1 s ∧ ah (bQ L S) W' w' := by
 have hd := ho.dn hu hb
 have fQ := ho.pl hu
 obtain ⟨p, hp⟩ := getElem?_of_lt (l := s.bZ) (k := s.done) oM
 obtain ⟨hl, uc⟩ := ho.pb p (List.mem_of_getElem? hp)
 obtain ⟨vs, e1, e2, e3⟩ := h.sl.pp
 obtain ⟨Q, m, c, d1, d2, d3, d4, d5⟩ := e3 s.done p hp
 rw [hl] at d2
 subst d2
 obtain ⟨b, off, ha, aW, hX, hc⟩ := e1 (by intro e; rw [e] at d1; simp at d1)
 have oG : eV s f = bz f ((aG s f s.bH s.bg + s.done : Nat) : Int) p := by
  unfold eV
  rw [iN (by rw [he]; decide), hp]
  rfl
 refine ⟨b, off, Q, c, p, ha, hc _ _ d1, fun W' hs hx => (cell_of_block (hx.block b aW (fun h5 => hX (.inl h5)))).trans (hc _ _ d1), oG, fun W' cB => ?_⟩
 have hs := h.ab cB
 rw [oG]
 refine (nI hs.fl _ Q 64 c p ((d5.ao (.ak cB)).apart (eu.fl L S)) hl d3 d4 uc).mono ?_
 rintro e w' ⟨a, bb, cc⟩
 exact ⟨a, hs.EI bb cc (nJ _ _ _), .j9 cc (bQ.fl L S)⟩
theorem sr (h : bM w0 w L S f s) (ho : bD f s) (hb : s.af = false) (hu : s.bt = true) (he : s.erase = false) :
 Calls prog 92 #[.pointer (some ⟨S.D, 0, none⟩)] w (lL w0 w L S (aI s f)) := by
 have h1 := kM S.D
 have g1 := ne_nil
 have g2 := fW
 have c0 := h.row 0 _ rfl
 have c9 := h.row 9 _ rfl
 have uf := h.row 10 _ rfl
 have Mk := h.row 12 _ rfl
 have Dy := h.row 13 _ rfl
 have Mj := h.row 14 _ rfl
 have UA := h.row 15 _ rfl
 have Xh := h.row 16 _ rfl
 rw [hb] at c9
 rw [hu] at Xh
 rw [he] at UA
 have hw := h.fl.ok.b2
 have Dt := ho.fb
 have YI := ho.tb
 have zZ := ho.b2
 have R0 := ho.ts
 have lQ := BB ho h.fl.ok
 have qc := ho.dn hu hb
 have jG := ho.k8
 have fQ := ho.pl hu
 have ny := ho.oD YI R0
 have aar := gy h.fl.ok
 obtain ⟨b, off, Q, c, p, hA, eI, Qq, oG, Qy⟩ := D5 h ho hb hu he
 rw [hA] at uf
 rw [fQ] at uf
 have jk : Hid (∀ W', bW w W' → Calls prog 113 #[.pointer (some ⟨S.D, 0, none⟩), .int .i64 (s.bH : Int), .int .i64 (s.bg : Int)] W' fun e w' => e = .returned (.int .i64 (aG s f s.bH s.bg : Nat)) ∧ ∃ q, w' = W'.drewN q) :=
  fun W' cB => sw (h.ab cB) ho (s.bH : Int) (s.bg : Int) s.bH s.bg rfl rfl oM oM
 have mz := iD Qy
 have Re := iD Qq
 have xz : Hid (ct s = { s with done := s.done + 1 }) := by unfold ct; rw [Hid, iN (by rw [he]; decide)]
 have Dp := ho.q1
 have AY := ho.q2
 obtain ⟨pn, zU⟩ := ex (aG s f s.bH s.bg)
 rw [zU] at jk mz ny
 obtain ⟨d, hd⟩ := ex s.done
 have Nu := iD hd
 rw [hd] at mz xz qc Mj eI Re
 obtain ⟨K, hK⟩ := ex s.k
 rw [hK] at qc jG fQ ny uf
 have t0 : IntKind.i64.wrap ((pn : Int) + (d : Int)) = ((pn + d : Nat) : Int) := by
  rw [IntWalk.i64_in _ oM]
  push_cast
  rfl
 have pt := iD (show ∀ W', bW w W' → W'.cell? ⟨S.D, 0, none⟩ = some (.pointer (some ⟨L.d, 0, none⟩)) ∧ W'.cell? ⟨S.D, 12, none⟩ = some (.int .i64 s.bH) ∧ W'.cell? ⟨S.D, 13, none⟩ = some (.int .i64 s.bg) ∧ W'.cell? ⟨S.D, 14, none⟩ = some (.int .i64 d) ∧ W'.cell? ⟨S.D, 10, none⟩ = some (.slice (some ⟨b, off, none⟩) K S.cp) ∧ W'.cell? ⟨b, off + d, none⟩ = some (.slice Q 64 c) from
  fun W' cB => by
   have hs := h.ab cB
   have EU := hs.row 10 _ rfl
   have GD := hs.row 14 _ rfl
   rw [hA, fQ] at EU
   rw [hd] at GD
   exact ⟨hs.row 0 _ rfl, hs.row 12 _ rfl, hs.row 13 _ rfl, GD, EU, (cB.cell (p := ⟨b, off + d, none⟩) (World.block_lt_of_cell? w _ eI)).trans eI⟩)
 have iJ := iD (show ∀ W', bM w0 W' L S (eV s f).1 s → ah (bQ L S) w W' → W'.cell? ⟨S.D, 0, none⟩ = some (.pointer (some ⟨L.d, 0, none⟩)) ∧ W'.cell? ⟨S.D, 12, none⟩ = some (.int .i64 s.bH) ∧ W'.cell? ⟨S.D, 13, none⟩ = some (.int .i64 s.bg) ∧ W'.cell? ⟨S.D, 14, none⟩ = some (.int .i64 d) ∧ W'.cell? ⟨S.D, 10, none⟩ = some (.slice (some ⟨b, off, none⟩) K S.cp) ∧ W'.cell? ⟨b, off + d, none⟩ = some (.slice Q 64 c) from
  fun W' hs hx => by
   have EU := hs.row 10 _ rfl
   have GD := hs.row 14 _ rfl
   rw [hA, fQ] at EU
   rw [hd] at GD
   exact ⟨hs.row 0 _ rfl, hs.row 12 _ rfl, hs.row 13 _ rfl, GD, EU, Re W' hs hx⟩)
 have tk : (d : Int) < (K : Int) := oM
 have tk0 : (0 : Int) ≤ (d : Int) := oM
 have HAA := iD hA
 have nj := iD fQ
 have GV := iD (fun hc => mL (f := f) (s := s) (k := 0) hb hu hc)
 have GQ := iD (mK (f := f) (s := s) hb hu)
 have GR := iD (vm (f := f) (s := s) hb hu)
 have TI : Hid (∀ W', bW w W' → ah (bQ L S) w W') := fun W' cB => .ak cB
 clear h ho hb hu he Dt hw oG Qy Qq hA fQ zU hd hK aar R0 lQ
 by_cases hc : (eV s f).2 = 0
 ·rw [hc, bG] at mz
  by_cases hlast : d + 1 < K
  ·have HR := iD (GQ hc (by rw [xz]; simp only; rw [nj]; exact hlast))
   obtain ⟨f', Dv⟩ := ex (eV s f).1
   rw [Dv] at mz iJ HR
   clear hc Dv GQ GR GV
   go_enter func92, ntmps92
   go_wp2_with (fail)
   go_region_held3 (fun w' => w'.cell? ⟨S.D, 0, none⟩ = some (.pointer (some ⟨L.d, 0, none⟩)) ∧ w'.cell? ⟨S.D, 12, none⟩ = some (.int .i64 s.bH) ∧ w'.cell? ⟨S.D, 13, none⟩ = some (.int .i64 s.bg) ∧ w'.cell? ⟨S.D, 14, none⟩ = some (.int .i64 d) ∧ w'.cell? ⟨S.D, 10, none⟩ = some (.slice (some ⟨b, off, none⟩) K S.cp) ∧ w'.cell? ⟨b, off + d, none⟩ = some (.slice Q 64 c)) (first | go_keep | exact iJ _ uA Lh) (first
    | (go_at_call 113; refine (jk _ (by repeat (first | exact Below.refl _ _ | refine Below.drew ?_ | refine Below.drewN ?_ _))).mono ?_; rintro e wp ⟨rfl, q1, rfl⟩)
    | (go_at_call 62; refine (mz _ (by repeat (first | exact Below.refl _ _ | refine Below.drew ?_ | refine Below.drewN ?_ _))).mono ?_; rintro e we ⟨rfl, uA, kd⟩; have Lh := (TI _ (Below.drewN (Below.refl w.heap.size w) _)).trans kd))
   have jQ := iD uA
   have J0 := iD Lh
   clear uA kd Lh
   have GD := jQ.row 14 _ rfl
   have EU := jQ.row 10 _ rfl
   have G3 := jQ.fz 14
   rw [nj] at EU
   rw [Nu] at GD
   have xe := iD (jQ.dn (d + 1))
   rw [← xz] at xe
   go_wp2
   have tl : ((d : Int) + 1 < (K : Int)) := oM
   go_quiet (fail)
   go_wp2
   go_ret2
   unfold lL
   rw [HR]
   exact ⟨rfl, ⟨S, rfl, rfl, xe.1.ab (Below.drewN bV _)⟩, (J0.trans xe.2).trans (ah.ak (Below.drewN bV _))⟩
  have HR := iD (GR hc (by rw [xz]; simp only; rw [nj]; exact hlast))
  obtain ⟨f', Dv⟩ := ex (eV s f).1
  rw [Dv] at mz iJ HR
  clear hc Dv GQ GR GV
  go_enter func92, ntmps92
  go_wp2_with (fail)
  go_region_held3 (fun w' => w'.cell? ⟨S.D, 0, none⟩ = some (.pointer (some ⟨L.d, 0, none⟩)) ∧ w'.cell? ⟨S.D, 12, none⟩ = some (.int .i64 s.bH) ∧ w'.cell? ⟨S.D, 13, none⟩ = some (.int .i64 s.bg) ∧ w'.cell? ⟨S.D, 14, none⟩ = some (.int .i64 d) ∧ w'.cell? ⟨S.D, 10, none⟩ = some (.slice (some ⟨b, off, none⟩) K S.cp) ∧ w'.cell? ⟨b, off + d, none⟩ = some (.slice Q 64 c)) (first | go_keep | exact iJ _ uA Lh) (first
   | (go_at_call 113; refine (jk _ (by repeat (first | exact Below.refl _ _ | refine Below.drew ?_ | refine Below.drewN ?_ _))).mono ?_; rintro e wp ⟨rfl, q1, rfl⟩)
   | (go_at_call 62; refine (mz _ (by repeat (first | exact Below.refl _ _ | refine Below.drew ?_ | refine Below.drewN ?_ _))).mono ?_; rintro e we ⟨rfl, uA, kd⟩; have Lh := (TI _ (Below.drewN (Below.refl w.heap.size w) _)).trans kd))
  have jQ := iD uA
  have J0 := iD Lh
  clear uA kd Lh
  have GD := jQ.row 14 _ rfl
  have EU := jQ.row 10 _ rfl
  have G3 := jQ.fz 14
  rw [nj] at EU
  rw [Nu] at GD
  have xe := iD (jQ.dn (d + 1))
  rw [← xz] at xe
  have hKd : K = d + 1 := oM
  subst hKd
  go_wp2
  go_quiet (fail)
  have TC : Hid (bM w0 (we.setCell ⟨S.D, 14, none⟩ (.int .i64 ((d : Int) + 1))) L S f' (ct s) ∧ ah (bQ L S) we (we.setCell ⟨S.D, 14, none⟩ (.int .i64 ((d : Int) + 1)))) := xe
  obtain ⟨W, hW⟩ := ex ((we.setCell ⟨S.D, 14, none⟩ (.int .i64 ((d : Int) + 1))).drewN nq)
  have rH : Hid (bM w0 W L S f' (ct s) ∧ ah (bQ L S) w W) := by
   have kH := Below.drewN (Below.refl (we.setCell ⟨S.D, 14, none⟩ (.int .i64 ((d : Int) + 1))).heap.size (we.setCell ⟨S.D, 14, none⟩ (.int .i64 ((d : Int) + 1)))) nq
   rw [← hW]
   exact ⟨TC.1.ab kH, (J0.trans TC.2).trans (.ak kH)⟩
  rw [hW]
  clear hW xe TC J0 jQ EU GD G3
  have rN : (ct s).seq = s.seq := by rw [xz]
  have hsd : (ct s).bH = s.bH := by rw [xz]
  have dV : (ct s).bg = s.bg := by rw [xz]
  have e6 := rH.1.row 6 _ rfl
  have z6 := rH.1.fz 6
  rw [rN] at e6
  have oS := iD (rH.1.sq (s.seq + 1))
  obtain ⟨W2, lY⟩ := ex (W.setCell ⟨S.D, 6, none⟩ (.int .i64 (s.seq + 1)))
  rw [lY] at oS
  have e12 := oS.1.row 12 _ rfl
  have e13 := oS.1.row 13 _ rfl
  have e7 := oS.1.row 7 _ rfl
  have e8 := oS.1.row 8 _ rfl
  have z7 := oS.1.fz 7
  have z8 := oS.1.fz 8
  simp only [hsd, dV] at e12 e13
  clear rN hsd dV
  go_wp2
  go_region
  obtain ⟨W3, mC⟩ := ex ((W2.setCell ⟨S.D, 7, none⟩ (.int .i64 s.bH)).setCell ⟨S.D, 8, none⟩ (.int .i64 s.bg)).drew
  have Tj : Hid (bM w0 W3 L S f' { ct s with seq := s.seq + 1, block := s.bH, av := s.bg } ∧ ah (bQ L S) W2 W3) := by
   obtain ⟨a1, a2⟩ := oS.1.bs s.bH (s.bg : Int)
   have kH := Below.drew (Below.refl ((W2.setCell ⟨S.D, 7, none⟩ (.int .i64 s.bH)).setCell ⟨S.D, 8, none⟩ (.int .i64 s.bg)).heap.size ((W2.setCell ⟨S.D, 7, none⟩ (.int .i64 s.bH)).setCell ⟨S.D, 8, none⟩ (.int .i64 s.bg)))
   rw [← mC]
   exact ⟨a1.ab kH, a2.trans (.ak kH)⟩
  rw [mC]
  clear lY mC e6 z6 e7 z7 e8 z8 e12 e13
  have e11 := Tj.1.row 11 _ rfl
  have e4 := Tj.1.row 4 _ rfl
  have e16 := Tj.1.row 16 _ rfl
  have z4 := Tj.1.fz 4
  have z16 := Tj.1.fz 16
  have Zk := iD Tj.1.sv
  go_wp2
  go_ret2
  unfold lL
  rw [HR]
  refine ⟨rfl, ⟨{ S with Av := S.Au, cv := S.cu }, rfl, rfl, ?_⟩, ((rH.2.trans oS.2).trans Tj.2).trans Zk.2⟩
  have := Zk.out.1
  unfold kO
  simp only [xz.out] at this ⊢
  exact this
 have HR := iD (GV hc)
 have HE := iD (dJ hc)
 rw [HE] at mz
 obtain ⟨f', Dv⟩ := ex (eV s f).1
 rw [Dv] at mz iJ HR
 generalize (eV s f).2 = kk at *
 clear hc Dv GQ GR GV
 go_enter func92, ntmps92
 go_wp2_with (fail)
 go_region_held3 (fun w' => w'.cell? ⟨S.D, 0, none⟩ = some (.pointer (some ⟨L.d, 0, none⟩)) ∧ w'.cell? ⟨S.D, 12, none⟩ = some (.int .i64 s.bH) ∧ w'.cell? ⟨S.D, 13, none⟩ = some (.int .i64 s.bg) ∧ w'.cell? ⟨S.D, 14, none⟩ = some (.int .i64 d) ∧ w'.cell? ⟨S.D, 10, none⟩ = some (.slice (some ⟨b, off, none⟩) K S.cp) ∧ w'.cell? ⟨b, off + d, none⟩ = some (.slice Q 64 c)) (first | go_keep | exact iJ _ uA Lh) (first
  | (go_at_call 113; refine (jk _ (by repeat (first | exact Below.refl _ _ | refine Below.drew ?_ | refine Below.drewN ?_ _))).mono ?_; rintro e wp ⟨rfl, q1, rfl⟩)
  | (go_at_call 62; refine (mz _ (by repeat (first | exact Below.refl _ _ | refine Below.drew ?_ | refine Below.drewN ?_ _))).mono ?_; rintro e we ⟨rfl, uA, kd⟩; have Lh := (TI _ (Below.drewN (Below.refl w.heap.size w) _)).trans kd))
 have jQ := iD uA
 have J0 := iD Lh
 clear uA kd Lh
 have GD := jQ.row 14 _ rfl
 have EU := jQ.row 10 _ rfl
 have G3 := jQ.fz 14
 rw [nj] at EU
 rw [Nu] at GD
 have xe := iD (jQ.dn (d + 1))
 rw [← xz] at xe
 have e9 := jQ.row 9 _ rfl
 have z9 := jQ.fz 9
 have MY := iD (xe.1.br true)
 go_wp2
 go_ret2
 unfold lL
 rw [HR]
 exact ⟨rfl, ⟨S, rfl, rfl, MY.1⟩, (J0.trans xe.2).trans MY.2⟩
end
theorem DQ (s : St) : (ct s).bt = s.bt ∧ (ct s).af = s.af ∧ (ct s).bZ = s.bZ := by unfold ct; split <;> exact ⟨rfl, rfl, rfl⟩
theorem sK (ho : bD f s) (hb : s.af = false) (hu : s.bt = true) (hd : (aI s f).2.2.1 = false) (he : (aI s f).2.2.2 = 0) :
 iR (aI s f).1 + 1 = iR s ∧ (aI s f).1.bt = true ∧ (aI s f).1.af = false := by
 unfold aI at hd he ⊢
 rw [iN (by rw [hb]; decide), iN (by rw [hu]; decide)] at hd he ⊢
 by_cases h0 : (eV s f).2 ≠ 0
 ·rw [iP h0] at he
  cases he
 rw [iN h0] at hd he ⊢
 by_cases hl : (ct s).done < (ct s).bZ.length
 ·rw [iP hl] at hd he ⊢
  obtain ⟨e1, e2, e3⟩ := DQ s
  refine ⟨?_, by rw [e1]; exact hu, by rw [e2]; exact hb⟩
  have qc := ho.dn hu hb
  have fQ := ho.pl hu
  unfold iR ct
  by_cases he : s.erase = true
  ·rw [iP he, iP he]
   simp
  rw [iN he, iN he]
  simp only
  omega
 rw [iN hl] at hd
 cases hd
theorem qN (ho : bD f s) (hb : s.af = false) (hu : s.bt = true) : 1 ≤ iR s := by
 have qc := ho.dn hu hb
 have fQ := ho.pl hu
 unfold iR
 omega
theorem fq (n : Nat) (s : St) (f : Fl) : iZ (n + 1) s f = if (aI s f).2.2.1 = true ∨ (aI s f).2.2.2 ≠ 0 then ((aI s f).1, (aI s f).2.1, (aI s f).2.2.2) else iZ n (aI s f).1 (aI s f).2.1 := rfl
section
variable {w0 w : World} {L : Lc} {S : Sc} {f : Fl} {s : St}
theorem By (h : bM w0 w L S f s) (ho : bD f s) : Calls prog 92 #[.pointer (some ⟨S.D, 0, none⟩)] w (lL w0 w L S (aI s f)) := by
 by_cases hb : s.af = true
 ·have HR : Hid (aI s f = (s, f, false, 20)) := by unfold aI; rw [Hid, iP hb]
  have h1 := kM S.D
  have c9 := h.row 9 _ rfl
  rw [hb] at c9
  have H := iD h
  clear h ho hb
  go_enter func92, ntmps92
  go_wp2
  go_ret2
  unfold lL
  rw [HR]
  exact ⟨rfl, ⟨S, rfl, rfl, H⟩, ah.refl _ _⟩
 have cU : s.af = false := by simpa using hb
 by_cases hu : s.bt = true
 ·by_cases he : s.erase = true
  ·exact pL h ho cU hu he
  exact sr h ho cU hu (by simpa using he)
 have pY : s.bt = false := by simpa using hu
 have HR : Hid (aI s f = (s, f, false, 12)) := by unfold aI; rw [Hid, iN hb, iP pY]
 have h1 := kM S.D
 have c9 := h.row 9 _ rfl
 have Xh := h.row 16 _ rfl
 rw [cU] at c9
 rw [pY] at Xh
 have H := iD h
 clear h ho hb cU hu pY
 go_enter func92, ntmps92
 go_wp2
 go_ret2
 unfold lL
 rw [HR]
 exact ⟨rfl, ⟨S, rfl, rfl, H⟩, ah.refl _ _⟩
def Ca (D : Nat) (w : World) : Nat :=
 (match w.cell? ⟨D, 10, none⟩ with | some (.slice _ n _) => n | _ => 0) - (match w.cell? ⟨D, 14, none⟩ with | some (.int _ d) => d.toNat | _ => 0) + (match w.cell? ⟨D, 15, none⟩ with | some (.bool true) => 1 | _ => 0)
theorem bM.left (h : bM w0 w L S f s) : Ca S.D w = iR s := by
 unfold Ca iR
 rw [h.row 10 _ rfl, h.row 14 _ rfl, h.row 15 _ rfl]
 simp only [Int.toNat_natCast]
 cases s.erase <;> rfl
def nc (w0 w : World) (L : Lc) (S : Sc) (q : St × Fl × Int) (e : Ending) (w' : World) : Prop :=
 e = .returned (fy q.2.2) ∧ (∃ S', S'.D = S.D ∧ S'.G = S.G ∧ bM w0 w' L S' q.2.1 q.1) ∧ ah (bQ L S) w w'
structure wY (w0 w wr : World) (L : Lc) (S : Sc) (q : St × Fl × Int) (n : Nat) (S' : Sc) (s' : St) (f' : Fl) : Prop where
 d : S'.D = S.D
 g : S'.G = S.G
 st : bM w0 wr L S' f' s'
 ok : bD f' s'
 b : s'.af = false
 u : s'.bt = true
 left : iR s' ≤ n
 run : q = iZ n s' f'
 only : ah (bQ L S) w wr
theorem wN (h : bM w0 w L S f s) (ho : bD f s) : Calls prog 67 #[.pointer (some ⟨S.D, 0, none⟩)] w (nc w0 w L S (aA s f)) := by
 have g1 := ne_nil
 have g2 := fW
 have HB := iD (za h ho)
 by_cases hE : aO s f = 0
 ·have HC : Hid (aA s f = iZ 10 (aZ s f) f) := by unfold aA; rw [Hid, iN (by rw [hE]; decide)]
  have AL := iD (mx (f := f) ho)
  have Bl : Hid ((aZ s f).af = false ∧ (aZ s f).bt = true ∧ iR (aZ s f) ≤ 10) := by
   obtain ⟨a, b, _, _, e⟩ := jE hE
   have hk := AL.k8
   have hb : (aZ s f).bt = true := by unfold aZ; rw [iP hE]
   have hp := AL.pl hb
   refine ⟨?_, hb, ?_⟩
   ·unfold aZ
    rw [iP hE]
    show (bj (ga s f) f).af = false
    have : (bj (ga s f) f).af = (ga s f).af := by unfold bj; split <;> rfl
    rw [this]
    unfold ga
    rw [a, b]
    rfl
   unfold iR
   split <;> omega
  rw [HC]
  obtain ⟨q, hq⟩ := ex (iZ 10 (aZ s f) f)
  have HQ := iD hq
  rw [hq]
  have HE := iD hE
  unfold qw at HB
  rw [hE, bG] at HB
  clear h ho hE hq
  go_enter func67, ntmps67
  go_wp2_with (fail)
  refine HB.mono ?_
  rintro e w1 ⟨rfl, ⟨S1, Be, ub, gC⟩, ng⟩
  have HU : Hid (wY w0 w w1 L S q 10 S1 (aZ s f) f) := ⟨Be, ub, gC, AL, Bl.1, Bl.2.1, Bl.2.2, HQ.symm, ng⟩
  clear Be ub gC ng
  go_wp2
  go_loopw [4] (fun _ wr => ∃ n S' s' f', wY w0 w wr L S q n S' s' f') (fun _ wr => Ca S.D wr)
  case atStart => exact ⟨_, _, _, _, HU⟩
  case round =>
   obtain ⟨n, S', s', f', hU⟩ := hrel
   have HV := iD hU
   have HLF : Hid (Ca S.D wr = iR s') := by rw [← hU.d]; exact hU.st.left
   have eW := iD (By hU.st hU.ok)
   have hn : 1 ≤ n := Nat.le_trans (qN hU.ok hU.b hU.u) hU.left
   obtain ⟨m, rfl⟩ : ∃ m, n = m + 1 := ⟨n - 1, oM⟩
   have pf := iD hU.run
   rw [fq] at pf
   rw [hU.d] at eW
   have J4 := iD (sK hU.ok hU.b hU.u)
   have gV := iD (mc hU.ok)
   clear hU hn
   obtain ⟨r, hr⟩ := ex (aI s' f')
   rw [hr] at eW pf J4 gV
   obtain ⟨rs, rf, rd, re⟩ := r
   clear hr
   simp only at pf J4 gV
   unfold lL at eW
   simp only at eW
   by_cases qc : rd = true
   ·subst qc
    have HF : Hid (q = (rs, rf, re)) := by rw [Hid, pf, iP (.inl rfl)]
    go_wp2_with (fail)
    refine eW.mono ?_
    rintro e w2 ⟨rfl, ⟨S2, qg, vV, je⟩, lR⟩
    have rU := iD je
    have mA := iD lR
    have J8 : Hid (S2.D = S.D ∧ S2.G = S.G) := ⟨qg.trans HV.d, vV.trans HV.g⟩
    clear je lR qg vV
    generalize We : fy re = ev
    have tv := iD We
    clear We
    go_wp2
    go_ret
    unfold nc
    rw [HF]
    exact ⟨by rw [tv]; rfl, ⟨S2, J8.1, J8.2, rU⟩, HV.only.trans (by rw [← bQ.same HV.d HV.g]; exact mA)⟩
   have hdf : rd = false := by simpa using qc
   subst hdf
   by_cases he : re = 0
   ·subst he
    have HF : Hid (q = iZ m rs rf) := by rw [Hid, pf, iN (by simp)]
    obtain ⟨l1, l2, l3⟩ := J4 rfl rfl
    have HL := iD l1
    have HL2 := iD l2
    have HL3 := iD l3
    rw [bG] at eW
    clear l1 l2 l3
    go_wp2_with (fail)
    refine eW.mono ?_
    rintro e w2 ⟨rfl, ⟨S2, qg, vV, je⟩, lR⟩
    have Tt : Hid (wY w0 w w2 L S q m S2 rs rf) :=
     ⟨qg.trans HV.out.d, vV.trans HV.out.g, je, gV.out, HL3.out, HL2.out, by have := HV.out.left; have := HL.out; omega, HF.out, HV.out.only.trans (by rw [← bQ.same HV.out.d HV.out.g]; exact lR)⟩
    clear je lR qg vV
    go_wp2
    go_roundw
    case rel => exact ⟨_, _, _, _, Tt⟩
    case measure =>
     have e1 : Ca S.D w2 = iR rs := by rw [← Tt.d]; exact Tt.st.left
     rw [e1, HLF]
     have := HL.out
     omega
   have HF : Hid (q = (rs, rf, re)) := by rw [Hid, pf, iP (.inr he)]
   have UU := iD (dJ he)
   rw [UU] at eW
   clear he
   go_wp2_with (fail)
   refine eW.mono ?_
   rintro e w2 ⟨rfl, ⟨S2, qg, vV, je⟩, lR⟩
   have rU := iD je
   have mA := iD lR
   have J8 : Hid (S2.D = S.D ∧ S2.G = S.G) := ⟨qg.trans HV.d, vV.trans HV.g⟩
   clear je lR qg vV
   go_wp2
   go_ret
   unfold nc
   rw [HF]
   exact ⟨by rw [UU]; rfl, ⟨S2, J8.1, J8.2, rU⟩, HV.only.trans (by rw [← bQ.same HV.d HV.g]; exact mA)⟩
 have HC : Hid (aA s f = (aZ s f, f, aO s f)) := by unfold aA; rw [Hid, iP hE]
 unfold qw at HB
 have HE := iD (dJ hE)
 rw [HE] at HB
 rw [HC]
 clear h ho hE
 generalize aO s f = k at *
 go_enter func67, ntmps67
 go_wp2_with (fail)
 refine HB.mono ?_
 rintro e w1 ⟨rfl, gC, ng⟩
 have lW := iD gC
 have iH := iD ng
 clear gC ng
 go_wp2
 go_ret
 unfold nc
 exact ⟨by rw [HE]; rfl, lW, iH⟩
end
end Go.Proofs.YtjdknddnanopaaaGreat
