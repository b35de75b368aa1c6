/-
  Part 5 of the proof.
-/
import Derived.Test.YtjdknddnanopaaaGreatR4
namespace Go.Proofs.YtjdknddnanopaaaGreat
open Go.RowKit Tryz
set_option maxRecDepth 100000
set_option maxHeartbeats 16000000
set_option linter.all false
variable {s : St} {f : Fl} {S' : Sc} {k : Int}
theorem yW {k : Nat} (hk : k < bm s f) (h1 : s.slot < k) (h2 : cG f (aG s f s.block k) s.k = true) (h3 : ∀ j < k, s.slot < j → cG f (aG s f s.block j) s.k = false) : jW s f = some k := by
 unfold jW
 rw [List.find?_range_eq_some]
 refine ⟨?_, List.mem_range.2 hk, fun j hj => ?_⟩
 ·rw [decide_eq_true h1, h2]; rfl
 by_cases e : s.slot < j
 ·rw [h3 j hj e, Bool.and_false]; rfl
 rw [decide_eq_false e, Bool.false_and]; rfl
theorem yX (h3 : ∀ j < bm s f, s.slot < j → cG f (aG s f s.block j) s.k = false) : jW s f = none := by
 unfold jW
 rw [List.find?_range_eq_none]
 intro j hj
 by_cases e : s.slot < j
 ·rw [h3 j hj e, Bool.and_false]; rfl
 rw [decide_eq_false e, Bool.false_and]; rfl
section
variable {w0 w : World} {L : Lc} {S : Sc} {f : Fl} {s : St}
theorem bL.Gd (h : bL w0 w L S f s) (b j : Nat) :
 bL w0 ((w.setCell ⟨S.D, 12, none⟩ (.int .i64 b)).setCell ⟨S.D, 13, none⟩ (.int .i64 j)) L S f { s with bH := b, bg := j } ∧ ah (bS L S) w ((w.setCell ⟨S.D, 12, none⟩ (.int .i64 b)).setCell ⟨S.D, 13, none⟩ (.int .i64 j)) := by
 obtain ⟨a1, a2⟩ := h.cell 12 (.int .i64 b) S { s with bH := b } rfl rfl rfl rfl rfl (h.sl.qh _ rfl rfl rfl rfl)
 obtain ⟨b1, b2⟩ := a1.cell 13 (.int .i64 j) S { s with bH := b, bg := j } rfl rfl rfl rfl rfl (a1.sl.qh _ rfl rfl rfl rfl)
 exact ⟨b1, a2.trans b2⟩
theorem bL.er (h : bL w0 w L S f s) (e : Bool) :
 bL w0 (w.setCell ⟨S.D, 15, none⟩ (.bool e)) L S f { s with erase := e } ∧ ah (bS L S) w (w.setCell ⟨S.D, 15, none⟩ (.bool e)) :=
 h.cell 15 (.bool e) S { s with erase := e } rfl rfl rfl rfl rfl (h.sl.qh _ rfl rfl rfl rfl)
def AE (w0 w : World) (L : Lc) (S : Sc) (f : Fl) (s : St) (e : Ending) (w' : World) : Prop :=
 e = .returned (.tuple #[]) ∧ bL w0 w' L S f (bj s f) ∧ ah (bS L S) w w'
theorem BF (ho : bC f s) (h : f.ok) : bm s f ≤ 16 := by
 unfold bm
 exact Nat.le_trans (Nat.div_le_self _ _) h.p2
theorem Hw (h : bL w0 w L S f s) (ho : bC f s) (hd : f.aF = false) :
 Calls prog 121 #[.pointer (some ⟨S.D, 0, none⟩)] w (AE w0 w L S f s) := by
 have c3 := h.row 3 _ rfl
 have c8 := h.row 8 _ rfl
 have s1 := ho.s1
 have s2 := ho.s2
 have hT := BF ho h.fl.ok
 have H := iD h
 have HO := iD ho
 have HD := iD hd
 have NG := iD (fun w => mQ s.aw.length (by have := ho.n2; omega) w)
 obtain ⟨k0, Bb⟩ : ∃ k0 : Nat, s.slot + 1 = k0 := ⟨(s.slot + 1).toNat, oM⟩
 have hk0' : s.slot = (k0 : Int) - 1 := oM
 have PV := iD hk0'
 rw [hk0'] at c8 s2
 have ab6 : k0 ≤ 16 := oM
 obtain ⟨T, hTT⟩ := ex (bm s f)
 have HT := iD hTT
 rw [hTT] at s2 hT
 have HK : Hid (s.k = cN s.aw.length) := rfl
 rw [← HK] at NG
 have cB : s.block < s.aa := ho.bl
 have Aa := ho.b2
 have jE := ho.k8
 obtain ⟨K, hK⟩ := ex s.k
 have zl := iD hK
 rw [hK] at NG jE
 generalize hn : s.aw.length = n at *
 have uJ := iD cB
 clear h ho hd Bb hk0' s1 hn hTT hK HK
 go_enter func121, ntmps121
 go_wp2_with (fail)
 refine (NG w).mono ?_
 rintro e w1 ⟨rfl, rfl⟩
 go_wp2
 go_loopw [3] (fun i wr => ∃ k : Nat, k0 ≤ k ∧ k ≤ T ∧ i = .int .i64 k ∧ (∀ j < k, s.slot < j → cG f (aG s f s.block j) s.k = false) ∧ bW w wr) (fun i _ => T - (intOf i).toNat)
 case atStart => exact ⟨k0, Nat.le_refl _, oM, by go_num, fun j hj hs => by have := PV.out; omega, Below.refl _ _⟩
 case round =>
  obtain ⟨k, ux, hk, rfl, hf, hb⟩ := hrel
  have HF := iD hf
  have HB := iD hb
  have HS := iD (H.ab hb)
  have nr := iD (Hn HS HO)
  rw [HT] at nr
  clear hf hb
  by_cases aY : k < T
  ·go_wp2_with (fail)
   refine nr.mono ?_
   rintro e w2 ⟨rfl, q, rfl⟩
   have gh : Hid (bW w (wr.drewN q)) := HB.trans ((Below.drewN bV q).mono HB.size)
   have sc := iD (H.ab gh)
   generalize wr.drewN q = w2 at *
   have c7 := sc.row 7 _ rfl
   have jh := iD (sx sc HO (s.block : Int) (k : Int) s.block k rfl rfl oM oM)
   go_wp2_with (fail)
   refine jh.mono ?_
   rintro e w3 ⟨rfl, q2, rfl⟩
   have jI : Hid (bW w (w2.drewN q2)) := gh.trans ((Below.drewN bV q2).mono gh.size)
   have PL := iD (H.ab jI)
   clear c7
   generalize w2.drewN q2 = w3 at *
   have nC : aG s f s.block k + K ≤ f.ar.length * f.pg := by
    rw [← zl]
    exact HO.oG uJ (by rw [HT]; exact aY)
   have pD := iD (zc PL HD (aG s f s.block k : Nat) (K : Int) (aG s f s.block k) K rfl rfl nC)
   obtain ⟨pn, zV⟩ := ex (aG s f s.block k)
   have HPN := iD zV
   rw [zV] at pD
   rw [zV]
   clear nC zV
   by_cases sQ : cG f pn K = true
   ·have HR : Hid (bj s f = { s with bH := s.block, bg := k, erase := false }) := by
     have : jW s f = some k := yW (by rw [HT.out]; exact aY) (by have := PV.out; omega) (by rw [HPN.out, zl.out]; exact sQ) HF.out
     unfold bj
     rw [Hid, this]
    rw [sQ] at pD
    clear sQ
    go_wp2_with (fail)
    refine pD.mono ?_
    rintro e w4 ⟨rfl, iI⟩
    have xG : Hid (bW w w4) := jI.trans (iI.mono jI.size)
    have zh := iD (H.ab xG)
    clear iI
    have c7 := zh.row 7 _ rfl
    have Mm := zh.row 12 _ rfl
    have DI := zh.row 13 _ rfl
    have UP := zh.row 15 _ rfl
    have NK := zh.fz 12
    have Ka := zh.fz 13
    have YB := zh.fz 15
    go_wp2
    first
     | go_end0
     | ((try simp only [Exit.inBlock, Exit.then]); refine bodyPost_ret (results_none rfl _ _ _) rfl ?_)
    unfold AE
    rw [HR]
    obtain ⟨a1, a2⟩ := zh.Gd s.block k
    obtain ⟨b1, b2⟩ := a1.er false
    exact ⟨rfl, b1, ((ah.ak xG).trans a2).trans b2⟩
   have hbk' : cG f pn K = false := by simpa using sQ
   have HN : Hid (∀ j < k + 1, s.slot < j → cG f (aG s f s.block j) s.k = false) := fun j hj hs => by
    by_cases e : j = k
    ·subst e
     rw [HPN, zl]
     exact hbk'
    exact HF j oM hs
   rw [hbk'] at pD
   clear sQ hbk'
   go_wp2_with (fail)
   refine pD.mono ?_
   rintro e w4 ⟨rfl, iI⟩
   have xG : Hid (bW w w4) := jI.trans (iI.mono jI.size)
   clear iI
   go_wp2
   go_roundw
   case rel => exact ⟨k + 1, oM, oM, by go_num, HN, xG⟩
   case measure => simp [intOf]; omega
  have kE : k = T := oM
  subst kE
  have ZB : Hid (jW s f = none) := yX (by rw [HT]; exact HF)
  go_wp2_with (fail)
  refine nr.mono ?_
  rintro e w2 ⟨rfl, q, rfl⟩
  have gh : Hid (bW w (wr.drewN q)) := HB.trans ((Below.drewN bV q).mono HB.size)
  have sc := iD (H.ab gh)
  generalize wr.drewN q = w2 at *
  have c7 := sc.row 7 _ rfl
  have c2 := sc.row 2 _ rfl
  have Mm := sc.row 12 _ rfl
  have DI := sc.row 13 _ rfl
  have NK := sc.fz 12
  have Ka := sc.fz 13
  have dP := HO.b1
  obtain ⟨nb, zW⟩ := ex ((s.block + 1) % s.aa)
  have Bj := iD zW
  have Nx : Hid (nb < s.aa) := by rw [Hid, ← zW]; exact Nat.mod_lt _ oM
  have abI : nb < 16 := by have := Nx.out; omega
  have t1 : IntKind.i64.wrap ((s.block : Int) + 1) = (s.block : Int) + 1 := IntWalk.i64_in _ oM
  have t2 : ((s.block : Int) + 1).tmod (s.aa : Int) = (nb : Int) := by
   rw [Int.tmod_eq_emod_of_nonneg oM, ← zW]
   push_cast
   rfl
  have t3 : ((s.block : Int) + 1) % (s.aa : Int) = (nb : Int) := by
   rw [← zW]
   push_cast
   rfl
  have t4 : ((s.aa : Int) == 0) = false := by simp; omega
  clear zW
  go_wp2
  have t5 : (1 : Int) ≤ (s.aa : Int) := oM
  have t6 : (0 : Int) ≤ (s.block : Int) + 1 := oM
  go_region
  obtain ⟨W, hW⟩ := ex ((w2.setCell ⟨S.D, 12, none⟩ (.int .i64 nb)).setCell ⟨S.D, 13, none⟩ (.int .i64 0)).drew
  rw [hW]
  have Ju : Hid (bL w0 W L S f { s with bH := nb, bg := 0 } ∧ ah (bS L S) w W) := by
   obtain ⟨a1, a2⟩ := sc.Gd nb 0
   have hb := Below.drew (Below.refl ((w2.setCell ⟨S.D, 12, none⟩ (.int .i64 nb)).setCell ⟨S.D, 13, none⟩ (.int .i64 (0 : Nat))).heap.size ((w2.setCell ⟨S.D, 12, none⟩ (.int .i64 nb)).setCell ⟨S.D, 13, none⟩ (.int .i64 (0 : Nat))))
   rw [← hW]
   exact ⟨a1.ab hb, ((ah.ak gh).trans a2).trans (ah.ak hb)⟩
  clear c2 c3 c7 c8 Mm DI NK Ka t1 t2 t3 t4 t5 t6 hW
  have iL : Hid (bC f { s with bH := nb, bg := 0 }) :=
   ⟨HO.n1, HO.n2, HO.sp, HO.b1, HO.b2, HO.fb, HO.kp, HO.sl, HO.tl, HO.vl, HO.si, HO.ti, HO.vi, HO.q1, HO.q2, HO.bl, HO.s1, HO.s2, HO.pl, HO.pb, Nx, HO.sl1, HO.dn, HO.dk, HO.qb⟩
  have Mm := Ju.1.row 12 _ rfl
  have UP := Ju.1.row 15 _ rfl
  have c0 := Ju.1.row 0 _ rfl
  have YB := Ju.1.fz 15
  have jh : Hid (∀ W', bW W W' → Calls prog 113 #[.pointer (some ⟨S.D, 0, none⟩), .int .i64 (nb : Int), .int .i64 0] W' fun e w' => e = .returned (.int .i64 (aG s f nb 0 : Nat)) ∧ ∃ q, w' = W'.drewN q) :=
   fun W' hb => sx (Ju.1.ab hb) iL (nb : Int) 0 nb 0 rfl rfl oM oM
  have abm : Hid (∀ W', bW W W' → Calls prog 61 #[.pointer (some ⟨L.d, 0, none⟩)] W' fun e w' => e = .returned (.int .i64 (f.pg : Nat)) ∧ W' = w') :=
   fun W' hb => ir (Ju.1.fl.ab hb)
  have nC : aG s f nb 0 + f.pg ≤ f.ar.length * f.pg := HO.wS Nx
  have pD : Hid (∀ W', bW W W' → Calls prog 126 #[.pointer (some ⟨S.D, 0, none⟩), .int .i64 (aG s f nb 0 : Nat), .int .i64 (f.pg : Nat)] W' fun e w' => e = .returned (.bool (cG f (aG s f nb 0) f.pg)) ∧ bW W' w') :=
   fun W' hb => zc (Ju.1.ab hb) HD (aG s f nb 0 : Nat) (f.pg : Nat) (aG s f nb 0) f.pg rfl rfl nC
  have HR : Hid (bj s f = { s with bH := nb, bg := 0, erase := !cG f (aG s f nb 0) f.pg }) := by
   unfold bj
   rw [Hid, ZB, Bj]
  clear nC
  generalize aG s f nb 0 = pn at *
  generalize f.pg = pg at *
  generalize cG f pn pg = bk at *
  have iO : Hid (∀ W', bW W W' → W'.cell? ⟨S.D, 12, none⟩ = some (.int .i64 nb) ∧ W'.cell? ⟨S.D, 0, none⟩ = some (.pointer (some ⟨L.d, 0, none⟩))) :=
   fun W' hb => ⟨(Ju.1.ab hb).row 12 _ rfl, (Ju.1.ab hb).row 0 _ rfl⟩
  have Ry : Hid (∀ W', bW W W' → W'.cell? ⟨S.D, 15, none⟩ = some (.bool s.erase) ∧ W'.frozen? ⟨S.D, 15, none⟩ = false) :=
   fun W' hb => ⟨(Ju.1.ab hb).row 15 _ rfl, (Ju.1.ab hb).fz 15⟩
  have HKT : Hid (∀ W' v, bW W W' → (W'.setCell ⟨S.D, 15, none⟩ v).drew.cell? ⟨S.D, 12, none⟩ = some (.int .i64 nb) ∧ (W'.setCell ⟨S.D, 15, none⟩ v).drew.cell? ⟨S.D, 0, none⟩ = some (.pointer (some ⟨L.d, 0, none⟩))) :=
   fun W' v hb => ⟨(World.cell?_setCell_other _ _ _ _ (by simp)).trans (iO W' hb).1, (World.cell?_setCell_other _ _ _ _ (by simp)).trans (iO W' hb).2⟩
  clear UP YB
  go_wp2_with (fail)
  go_region_held3 (fun w' => w'.cell? ⟨S.D, 12, none⟩ = some (.int .i64 nb) ∧ w'.cell? ⟨S.D, 0, none⟩ = some (.pointer (some ⟨L.d, 0, none⟩))) (first | go_keep | exact iO _ jG | exact HKT _ _ jG) (first
   | (go_at_call 113; refine (jh _ (by repeat (first | exact Below.refl _ _ | refine Below.drew ?_ | refine Below.drewN ?_ _))).mono ?_; rintro e wp ⟨rfl, q1, rfl⟩)
   | (go_at_call 61; refine (abm _ (by repeat (first | exact Below.refl _ _ | refine Below.drew ?_ | refine Below.drewN ?_ _))).mono ?_; rintro e wp ⟨rfl, rfl⟩)
   | (go_at_call 126; refine (pD _ (by repeat (first | exact Below.refl _ _ | refine Below.drew ?_ | refine Below.drewN ?_ _))).mono ?_; rintro e wb ⟨rfl, hb⟩; have jG := (Below.drewN (Below.refl W.heap.size W) _).trans hb; obtain ⟨acF, abM⟩ := Ry _ jG))
  all_goals
   go_end0
   unfold AE
   rw [HR]
   obtain ⟨b1, b2⟩ := (Ju.1.ab jG).er (!bk)
   exact ⟨rfl, b1, (Ju.2.trans (ah.ak jG)).trans b2⟩
end
section
variable {w0 w : World} {L : Lc} {S : Sc} {f : Fl} {s : St}
theorem bL.cY (h : bL w0 w L S f s) : ∀ b, ea L S b → b < w.heap.size := by
 intro b hb
 have h1 := h.fl.ld
 have h2 := h.fl.bi.2
 have h3 := h.fl.bw.2
 have h4 := h.dl
 have h5 := h.gl.2
 have h6 := h.fl.eb b
 rcases hb with (e | e | e | e | e) | e
 ·omega
 ·omega
 ·omega
 ·omega
 ·omega
 exact h6 e
theorem bS.same (h1 : S'.D = S.D) (h2 : S'.G = S.G) : bS L S' = bS L S := by
 funext b
 unfold bS
 rw [h1, h2]
theorem ea.same (h1 : S'.D = S.D) (h2 : S'.G = S.G) : ea L S' = ea L S := by
 funext b
 unfold ea
 rw [bS.same h1 h2]
theorem xL (s : St) (f : Fl) : (bj s f).aj = s.aj := by unfold bj; split <;> rfl
def qD (w0 w : World) (L : Lc) (S : Sc) (f : Fl) (s : St) (e : Ending) (w' : World) : Prop :=
 e = .returned (fx (aO s f)) ∧ (∃ S', S'.D = S.D ∧ S'.G = S.G ∧ bL w0 w' L S' f (aZ s f)) ∧ ah (bS L S) w w'
theorem bL.br (h : bL w0 w L S f s) (b : Bool) :
 bL w0 (w.setCell ⟨S.D, 9, none⟩ (.bool b)) L S f { s with af := b } ∧ ah (bS L S) w (w.setCell ⟨S.D, 9, none⟩ (.bool b)) :=
 h.cell 9 (.bool b) S { s with af := b } rfl rfl rfl rfl rfl (h.sl.qh _ rfl rfl rfl rfl)
theorem bL.laid (h : bL w0 w L S f s) (A : Option Addr) (c : Nat) (ps : List (List Int)) (B : Option Addr) (d : Nat) (vs : List Int) (hA : lT (ea L S) w A ps) (hc : ps.length ≤ c) (fQ : c ≤ maxLen) (hB : cn (ea L S) w B (aA vs)) (hd : vs.length ≤ d) (hdm : d ≤ maxLen) :
 bL w0 ((((w.setCell ⟨S.D, 10, none⟩ (.slice A ps.length c)).setCell ⟨S.D, 11, none⟩ (.slice B vs.length d)).setCell ⟨S.D, 14, none⟩ (.int .i64 0)).setCell ⟨S.D, 16, none⟩ (.bool true)) L { S with Ap := A, cp := c, Au := B, cu := d } f { s with cf := ps, values := vs, done := 0, bt := true } ∧
 ah (bS L S) w ((((w.setCell ⟨S.D, 10, none⟩ (.slice A ps.length c)).setCell ⟨S.D, 11, none⟩ (.slice B vs.length d)).setCell ⟨S.D, 14, none⟩ (.int .i64 0)).setCell ⟨S.D, 16, none⟩ (.bool true)) := by
 obtain ⟨a1, a2⟩ := h.cell 10 (.slice A ps.length c) { S with Ap := A, cp := c } { s with cf := ps } rfl rfl rfl rfl rfl
  ⟨h.sl.sp, h.sl.Qj, h.sl.Qi, h.sl.sv, h.sl.Ul, h.sl.Uk, hA, hc, fQ, h.sl.vv, h.sl.RK, h.sl.RJ⟩
 obtain ⟨b1, b2⟩ := a1.cell 11 (.slice B vs.length d) { S with Ap := A, cp := c, Au := B, cu := d } { s with cf := ps, values := vs } rfl rfl rfl rfl rfl
  ⟨a1.sl.sp, a1.sl.Qj, a1.sl.Qi, a1.sl.sv, a1.sl.Ul, a1.sl.Uk, a1.sl.pp, a1.sl.Up, a1.sl.Uo, hB.ao a2, hd, hdm⟩
 obtain ⟨c1, c2⟩ := b1.cell 14 (.int .i64 0) { S with Ap := A, cp := c, Au := B, cu := d } { s with cf := ps, values := vs, done := 0 } rfl rfl rfl rfl rfl (b1.sl.qh _ rfl rfl rfl rfl)
 obtain ⟨d1, d2⟩ := c1.cell 16 (.bool true) { S with Ap := A, cp := c, Au := B, cu := d } { s with cf := ps, values := vs, done := 0, bt := true } rfl rfl rfl rfl rfl (c1.sl.qh _ rfl rfl rfl rfl)
 exact ⟨d1, ((a2.trans b2).trans c2).trans d2⟩
theorem iZ {w' : World} (hE : aO s f = k) (hk : k ≠ 0) (hs : bL w0 w' L S f (fX s f)) (ho : ah (bS L S) w w') : qD w0 w L S f s (.returned (.iface 108 (.int .i64 k))) w' := by
 unfold qD aZ
 rw [hE, iN hk, dJ hk]
 exact ⟨rfl, ⟨S, rfl, rfl, hs⟩, ho⟩
theorem zd (h : bL w0 w L S f s) (ho : bC f s) :
 Calls prog 106 #[.pointer (some ⟨S.D, 0, none⟩)] w (qD w0 w L S f s) := by
 have h1 := kK S.D
 have g1 := ne_nil
 have g2 := fT
 have c0 := h.row 0 _ rfl
 have c9 := h.row 9 _ rfl
 have z9 := h.fz 9
 have H := iD h
 have HO := iD ho
 have DM := iD (fun (w' : World) (hb : bW w w') => oc (h.fl.ab hb))
 have FN := iD (oc h.fl)
 by_cases cO : (s.af || f.aF) = true
 ·have HE : Hid (aO s f = 20) := by unfold aO; rw [Hid, iP cO]
  have eX := iD (h.br true)
  have pD : Hid (fX s f = { s with af := true }) := by unfold fX; rw [Hid, cO]
  by_cases hb : s.af = true
  ·rw [hb] at c9
   clear h ho cO hb
   go_enter func106, ntmps106
   go_wp2
   go_ret
   exact iZ HE oM (by rw [pD]; exact eX.1) eX.2
  have dO : s.af = false := by simpa using hb
  have hd : f.aF = true := by rw [dO] at cO; simpa using cO
  rw [dO] at c9
  rw [hd] at FN
  clear h ho cO hb dO hd
  go_enter func106, ntmps106
  go_wp2_with (fail)
  refine FN.mono ?_
  rintro e w1 ⟨rfl, rfl⟩
  go_wp2
  go_ret
  exact iZ HE oM (by rw [pD]; exact eX.1) eX.2
 have aaE : s.af = false ∧ f.aF = false := by simpa using cO
 obtain ⟨hb, hd⟩ := aaE
 rw [hb] at c9
 rw [hd] at FN
 have pD : Hid (fX s f = { s with af := false }) := by unfold fX; rw [Hid, hb, hd]; rfl
 obtain ⟨W, hW⟩ := ex (w.setCell ⟨S.D, 9, none⟩ (.bool false))
 have eX : Hid (bL w0 W L S f (fX s f) ∧ ah (bS L S) w W) := by
  rw [pD, ← hW]
  exact h.br false
 have AL := iD (Ar (f := f) ho)
 have HD := iD hd
 have HB := iD hb
 have d9 : W.cell? ⟨S.D, 9, none⟩ = some (.bool false) := by have := eX.1.row 9 _ rfl; rw [pD] at this; exact this
 have d16 : W.cell? ⟨S.D, 16, none⟩ = some (.bool s.bt) := eX.1.row 16 _ rfl
 clear ho cO hb hd
 by_cases nU : s.bt = true
 ·have HE : Hid (aO s f = 14) := by unfold aO; rw [Hid, HB, HD, iN (by decide), iP nU]
  rw [nU] at d16
  clear h nU
  go_enter func106, ntmps106
  go_wp2_with (fail)
  refine FN.mono ?_
  rintro e w1 ⟨rfl, rfl⟩
  go_wp2
  go_ret
  exact iZ HE oM eX.1 eX.2
 have hbu' : s.bt = false := by simpa using nU
 have NF := iD hbu'
 rw [hbu'] at d16
 have d5 : W.cell? ⟨S.D, 5, none⟩ = some (.slice (some ⟨S.G, 0, none⟩) s.aj.length S.cg) := eX.1.row 5 _ rfl
 have d4 : W.cell? ⟨S.D, 4, none⟩ = some (.slice S.Av s.saved.length S.cv) := eX.1.row 4 _ rfl
 have d6 : W.cell? ⟨S.D, 6, none⟩ = some (.int .i64 s.seq) := eX.1.row 6 _ rfl
 have qY := HO.n2
 have yU := HO.n1
 have FQ : Hid (∀ q, Calls prog 120 #[.slice (some ⟨S.G, 0, none⟩) s.aj.length S.cg, .slice S.Av s.saved.length S.cv] (W.drewN q) fun e w' => e = .returned (.bool (decide (s.aj = s.saved))) ∧ ∃ k, w' = (W.drewN q).drewN k) := by
  intro q
  have hb := Below.drewN (Below.refl W.heap.size W) q
  have hs := eX.1.ab hb
  exact EX _ _ _ _ _ _ s.aj s.saved (W.drewN q) (ku hs.sg) hs.sl.sv.rd rfl rfl (by unfold maxLen; rw [HO.tl]; omega) (by unfold maxLen; rw [HO.sl]; omega)
 have xN := HO.tl
 have lR := HO.sl
 rw [xN] at d5 FQ
 rw [lR] at d4 FQ
 generalize hn : s.aw.length = n at *
 have AH := iD xN
 clear h nU hbu' xN lR hn
 by_cases heq : s.aj = s.saved
 ·have HE : Hid (aO s f = 12) := by unfold aO; rw [Hid, HB, HD, iN (by decide), NF, iN (by decide), iP heq]
  rw [decide_eq_true heq] at FQ
  clear heq
  go_enter func106, ntmps106
  go_wp2_with (fail)
  refine FN.mono ?_
  rintro e w1 ⟨rfl, rfl⟩
  go_wp2
  go_quiet ((go_at_call 120; with_reducible exact Calls.quiet_of (FQ.out _)))
  go_wp2
  go_ret
  exact iZ HE oM (eX.1.ab (Below.drewN bV _)) (eX.2.trans (ah.ak (Below.drewN bV _)))
 rw [decide_eq_false heq] at FQ
 have hE : aO s f = fU (s.seq + 1) n := by unfold aO; rw [HB, HD, iN (by decide), NF, iN (by decide), iN heq, AH]
 have Dv := HO.q1
 have A0 := HO.q2
 have tq : IntKind.i64.wrap (s.seq + 1) = s.seq + 1 := IntWalk.i64_in _ oM
 have U2 : Hid (∀ b, ea L S b → b < W.heap.size) := eX.1.cY
 by_cases he : fU (s.seq + 1) n = 0
 ·have HE : Hid (aO s f = 0) := by rw [Hid, hE]; exact he
  have H52 : Hid (∀ W', bW W W' → Calls prog 117 #[.int .i64 (s.seq + 1), .slice (some ⟨S.G, 0, none⟩) n S.cg] W' fun e w' => ∃ A' c', e = .returned (.tuple #[.slice A' (cN n) c', .nilIface]) ∧ cN n ≤ c' ∧ c' ≤ maxLen ∧ lT (ea L S) w' A' (dV (s.seq + 1) s.aj) ∧ bW W' w') := by
   intro W' hb
   have hs := eX.1.ab hb
   have hg := hs.cg
   rw [show (fX s f).aj = s.aj from rfl, AH] at hg
   exact GL (ea L S) (s.seq + 1) _ n S.cg s.aj W' hs.cY (ku hs.sg) AH hg.1 hg.2 HO.ti he
  clear heq hE he
  go_enter func106, ntmps106
  go_wp2_with (fail)
  refine FN.mono ?_
  rintro e w1 ⟨rfl, rfl⟩
  go_wp2
  go_quiet ((go_at_call 120; with_reducible exact Calls.quiet_of (FQ.out _)))
  have iO : Hid (∀ W', bW W W' → W'.cell? ⟨S.D, 6, none⟩ = some (.int .i64 s.seq) ∧ W'.cell? ⟨S.D, 5, none⟩ = some (.slice (some ⟨S.G, 0, none⟩) n S.cg)) :=
   fun W' hb => ⟨(eX.1.ab hb).row 6 _ rfl, by have := (eX.1.ab hb).row 5 _ rfl; rw [show (fX s f).aj = s.aj from rfl, AH] at this; exact this⟩
  have lV : Hid (∀ W', bW W W' → Calls prog 121 #[.pointer (some ⟨S.D, 0, none⟩)] W' (AE w0 W' L S f (fX s f))) :=
   fun W' hb => Hw (eX.1.ab hb) AL HD
  go_wp2_with (fail)
  go_region_held3 (fun w' => w'.cell? ⟨S.D, 6, none⟩ = some (.int .i64 s.seq) ∧ w'.cell? ⟨S.D, 5, none⟩ = some (.slice (some ⟨S.G, 0, none⟩) n S.cg)) (first | go_keep | exact iO _ jG) (first
   | (go_at_call 117; refine (H52 _ (by repeat (first | exact Below.refl _ _ | refine Below.drew ?_ | refine Below.drewN ?_ _))).mono ?_; rintro e wb ⟨A', c', rfl, hpc, fQ, VW, hb⟩; have jG := (Below.drewN (Below.refl W.heap.size W) _).trans hb))
  have FE := iD hpc
  have ug := iD fQ
  have J3 := iD VW
  have jS := iD jG
  clear hpc fQ VW hb jG tq
  go_wp2_with (fail)
  refine (lV _ (by repeat (first | exact jS | refine Below.drew ?_ | refine Below.drewN ?_ _))).mono ?_
  rintro e w6 ⟨rfl, Gv, oJ⟩
  have J2 := iD Gv
  have DL : Hid (ah (bS L S) w w6) := (eX.2.trans (ah.ak (by repeat (first | exact jS | refine Below.drew ?_ | refine Below.drewN ?_ _)))).trans oJ
  have TI : Hid (lT (ea L S) w6 A' (dV (s.seq + 1) s.aj)) :=
   J3.ao ((ah.ak (by repeat (first | exact Below.refl _ _ | refine Below.drew ?_ | refine Below.drewN ?_ _))).trans oJ)
  have dX : (bj (fX s f) f).aj = s.aj := by rw [xL]; rfl
  have d5' := J2.row 5 _ rfl
  rw [dX, AH] at d5'
  have Dp : Hid (Calls prog 104 #[.slice (some ⟨S.G, 0, none⟩) n S.cg] w6 fun e w' => ∃ v', e = .returned v' ∧ w'.ownsRow w6.heap.size 3 1 v' n (aA s.aj) ∧ bW w6 w') := by
   have hg := J2.sg
   rw [dX, AH] at hg
   exact ng _ n S.cg w6.heap.size s.aj w6 (ku hg) cV AH oM
  clear Gv oJ dX J3 d4 d5 d6 d9 d16
  go_wp2_with (fail)
  refine Dp.mono ?_
  rintro e w7 ⟨v', rfl, Nl, jB⟩
  obtain ⟨B, d, rfl, Q6, OR, It⟩ := bM Nl
  have Dd := iD (J2.ab jB)
  have FC : Hid (cn (ea L S) w7 B (aA s.aj)) := cn.new J2.cY cV (by rw [cj, AH]) Nl
  have MW := iD (Dd.laid A' c' (dV (s.seq + 1) s.aj) B d s.aj (TI.ao (ah.ak jB)) (by rw [fF, AH]; exact FE) ug FC (by rw [AH]; exact Q6) OR)
  rw [fF, AH] at MW
  have X4 : Hid (ah (bS L S) w w7) := DL.trans (ah.ak jB)
  have Ak := Dd.row 10 _ rfl
  have e11 := Dd.row 11 _ rfl
  have DH := Dd.row 14 _ rfl
  have e16 := Dd.row 16 _ rfl
  have AV := Dd.fz 10
  have Kb := Dd.fz 11
  have Ha := Dd.fz 14
  have z16 := Dd.fz 16
  clear Nl jB It Q6 OR d5'
  go_wp2
  go_ret
  unfold qD aZ
  rw [HE, iP rfl]
  exact ⟨rfl, ⟨{ S with Ap := A', cp := c', Au := B, cu := d }, rfl, rfl, MW.1⟩, X4.trans MW.2⟩
 have HE : Hid (aO s f = 3) := by
  rw [Hid, hE]
  unfold fU at he ⊢
  split
  ·rfl
  rename_i h; rw [iN h] at he; exact absurd rfl he
 have H52 : Hid (∀ W', Calls prog 117 #[.int .i64 (s.seq + 1), .slice (some ⟨S.G, 0, none⟩) n S.cg] W' fun e w' => e = .returned (.tuple #[.slice none 0 0, .iface 108 (.int .i64 3)]) ∧ W' = w') :=
  fun W' => Ma (s.seq + 1) _ n S.cg W' oM he
 clear heq hE he
 go_enter func106, ntmps106
 go_wp2_with (fail)
 refine FN.mono ?_
 rintro e w1 ⟨rfl, rfl⟩
 go_wp2
 go_quiet ((go_at_call 120; with_reducible exact Calls.quiet_of (FQ.out _)))
 go_wp2_with (fail)
 go_region_held3 (fun w' => w'.cell? ⟨S.D, 6, none⟩ = some (.int .i64 s.seq) ∧ w'.cell? ⟨S.D, 5, none⟩ = some (.slice (some ⟨S.G, 0, none⟩) n S.cg)) (go_keep) (first
  | (go_at_call 117; refine (H52 _).mono ?_; rintro e wb ⟨rfl, rfl⟩))
 go_wp2
 go_ret
 exact iZ HE oM (eX.1.ab (by repeat (first | exact Below.refl _ _ | refine Below.drew ?_ | refine Below.drewN ?_ _))) (eX.2.trans (ah.ak (by repeat (first | exact Below.refl _ _ | refine Below.drew ?_ | refine Below.drewN ?_ _))))
end
theorem na (f : Fl) (b : Int) : (aR f b).1.az = f.az := by
 unfold aR
 split
 ·rfl
 split
 ·rfl
 split
 ·exact (dY f).2.2.2
 exact (dY f).2.2.2
theorem nK (f : Fl) (p : Int) (b : List Int) : (bz f p b).1.az = f.az := by
 unfold bz
 split
 ·rfl
 split
 ·rfl
 split
 ·rfl
 split
 ·exact (dY f).2.2.2
 exact (dY f).2.2.2
theorem yI (s : St) (f : Fl) : (eW s f).1.az = f.az := by
 unfold eW
 split
 ·exact na _ _
 exact nK _ _ _
section
variable {w0 w : World} {L : Lc} {S : Sc} {f : Fl} {s : St}
def lL (w0 w : World) (L : Lc) (S : Sc) (q : St × Fl × Bool × Int) (e : Ending) (w' : World) : Prop :=
 e = .returned (.tuple #[.bool q.2.2.1, fx q.2.2.2]) ∧ (∃ S', S'.D = S.D ∧ S'.G = S.G ∧ bL w0 w' L S' q.2.1 q.1) ∧ ah (bS L S) w w'
theorem mM {k : Int} (hb : s.af = false) (hu : s.bt = true) (h : (eW s f).2 ≠ 0) : aI s f = ({ ct s with af := true }, (eW s f).1, false, 20) := by
 unfold aI
 rw [iN (by rw [hb]; decide), iN (by rw [hu]; decide), iP h]
theorem mL (hb : s.af = false) (hu : s.bt = true) (h : (eW s f).2 = 0) (hl : (ct s).done < (ct s).cf.length) : aI s f = (ct s, (eW s f).1, false, 0) := by
 unfold aI
 rw [iN (by rw [hb]; decide), iN (by rw [hu]; decide), iN (by rw [h]; decide), iP hl]
theorem vj (hb : s.af = false) (hu : s.bt = true) (h : (eW s f).2 = 0) (hl : ¬ (ct s).done < (ct s).cf.length) : aI s f = (kM (ct s), (eW s f).1, true, 0) := by
 unfold aI
 rw [iN (by rw [hb]; decide), iN (by rw [hu]; decide), iN (by rw [h]; decide), iN hl]
theorem pU (h : bL w0 w L S f s) (ho : bC f s) (hb : s.af = false) (hu : s.bt = true) (he : s.erase = true) :
 Calls prog 92 #[.pointer (some ⟨S.D, 0, none⟩)] w (lL w0 w L S (aI s f)) := by
 have h1 := kK S.D
 have g1 := ne_nil
 have g2 := fT
 have c0 := h.row 0 _ rfl
 have c1 := h.row 1 _ rfl
 have c9 := h.row 9 _ rfl
 have Mm := h.row 12 _ rfl
 have UP := h.row 15 _ rfl
 have Xj := h.row 16 _ rfl
 rw [hb] at c9
 rw [hu] at Xj
 rw [he] at UP
 have hw := h.fl.ok.b2
 have DB := ho.fb
 have YK := ho.tb
 have Aa := ho.b2
 have t0 : IntKind.i64.wrap ((s.first : Int) + (s.bH : Int)) = (s.first : Int) + (s.bH : Int) := IntWalk.i64_in _ oM
 have uD : Hid (eW s f = aR f ((s.first : Int) + (s.bH : Int))) := by unfold eW; rw [Hid, iP he]
 have ny : Hid (∀ W', bW w W' → Calls prog 60 #[.pointer (some ⟨L.d, 0, none⟩), .int .i64 ((s.first : Int) + (s.bH : Int))] W' fun e w' => e = .returned (fx (eW s f).2) ∧ bL w0 w' L S (eW s f).1 s ∧ ah (bS L S) W' w') := by
  intro W' cB
  rw [uD]
  refine (sU (h.ab cB).fl ((s.first : Int) + (s.bH : Int))).mono ?_
  rintro e w' ⟨a, b, c⟩
  exact ⟨a, (h.ab cB).EP b c (na _ _), .ka c (bS.fl L S)⟩
 have xB : Hid (ct s = { s with erase := false }) := by unfold ct; rw [Hid, iP he]
 have qo := ho.dn hu hb
 have fA := ho.pl hu
 have iO : Hid (∀ W', bL w0 W' L S (eW s f).1 s → W'.cell? ⟨S.D, 0, none⟩ = some (.pointer (some ⟨L.d, 0, none⟩)) ∧ W'.cell? ⟨S.D, 1, none⟩ = some (.int .i64 s.first) ∧ W'.cell? ⟨S.D, 12, none⟩ = some (.int .i64 s.bH)) :=
  fun W' hs => ⟨hs.row 0 _ rfl, hs.row 1 _ rfl, hs.row 12 _ rfl⟩
 by_cases hc : (eW s f).2 = 0
 ·have HR := iD (mL hb hu hc (by rw [xB]; simp only; omega))
  rw [hc, bG] at ny
  obtain ⟨f', DD⟩ := ex (eW s f).1
  have HF' := iD DD
  rw [DD] at ny iO HR
  clear h ho hb hu he DB hw hc DD
  go_enter func92, ntmps92
  go_wp2_with (fail)
  go_region_held3 (fun w' => w'.cell? ⟨S.D, 0, none⟩ = some (.pointer (some ⟨L.d, 0, none⟩)) ∧ w'.cell? ⟨S.D, 1, none⟩ = some (.int .i64 s.first) ∧ w'.cell? ⟨S.D, 12, none⟩ = some (.int .i64 s.bH)) (first | go_keep | exact iO _ uu) (first
   | (go_at_call 60; refine (ny _ (by repeat (first | exact Below.refl _ _ | refine Below.drew ?_ | refine Below.drewN ?_ _))).mono ?_; rintro e we ⟨rfl, uu, kU⟩))
  have jQ := iD uu
  have xd : Hid (ah (bS L S) w we) := (ah.ak (by repeat (first | exact Below.refl _ _ | refine Below.drew ?_ | refine Below.drewN ?_ _))).trans kU
  clear uu kU
  have e15 := jQ.row 15 _ rfl
  have DH := jQ.row 14 _ rfl
  have Ak := jQ.row 10 _ rfl
  have YB := jQ.fz 15
  rw [fA] at Ak
  have JD := iD (jQ.er false)
  rw [← xB] at JD
  go_wp2
  go_quiet (fail)
  go_wp2
  go_ret2
  unfold lL
  rw [HR]
  exact ⟨rfl, ⟨S, rfl, rfl, JD.1.ab (Below.drewN bV _)⟩, (xd.trans JD.2).trans (ah.ak (Below.drewN bV _))⟩
 have HR := iD (mM (k := 0) hb hu hc)
 have HE := iD (dJ hc)
 rw [HE] at ny
 obtain ⟨f', DD⟩ := ex (eW s f).1
 have HF' := iD DD
 rw [DD] at ny iO HR
 generalize (eW s f).2 = kk at *
 clear h ho hb hu he DB hw hc DD
 go_enter func92, ntmps92
 go_wp2_with (fail)
 go_region_held3 (fun w' => w'.cell? ⟨S.D, 0, none⟩ = some (.pointer (some ⟨L.d, 0, none⟩)) ∧ w'.cell? ⟨S.D, 1, none⟩ = some (.int .i64 s.first) ∧ w'.cell? ⟨S.D, 12, none⟩ = some (.int .i64 s.bH)) (first | go_keep | exact iO _ uu) (first
  | (go_at_call 60; refine (ny _ (by repeat (first | exact Below.refl _ _ | refine Below.drew ?_ | refine Below.drewN ?_ _))).mono ?_; rintro e we ⟨rfl, uu, kU⟩))
 have jQ := iD uu
 have xd : Hid (ah (bS L S) w we) := (ah.ak (by repeat (first | exact Below.refl _ _ | refine Below.drew ?_ | refine Below.drewN ?_ _))).trans kU
 clear uu kU
 have e15 := jQ.row 15 _ rfl
 have e9 := jQ.row 9 _ rfl
 have YB := jQ.fz 15
 have z9 := jQ.fz 9
 have JD := iD (jQ.er false)
 have M0 := iD (JD.1.br true)
 go_wp2
 go_ret2
 unfold lL
 rw [HR, xB]
 exact ⟨rfl, ⟨S, rfl, rfl, M0.1⟩, (xd.trans JD.2).trans M0.2⟩
end
section
variable {w0 w : World} {L : Lc} {S : Sc} {f : Fl} {s : St}
theorem bL.dn (h : bL w0 w L S f s) (k : Nat) :
 bL w0 (w.setCell ⟨S.D, 14, none⟩ (.int .i64 k)) L S f { s with done := k } ∧ ah (bS L S) w (w.setCell ⟨S.D, 14, none⟩ (.int .i64 k)) :=
 h.cell 14 (.int .i64 k) S { s with done := k } rfl rfl rfl rfl rfl (h.sl.qh _ rfl rfl rfl rfl)
theorem bL.sq (h : bL w0 w L S f s) (k : Int) :
 bL w0 (w.setCell ⟨S.D, 6, none⟩ (.int .i64 k)) L S f { s with seq := k } ∧ ah (bS L S) w (w.setCell ⟨S.D, 6, none⟩ (.int .i64 k)) :=
 h.cell 6 (.int .i64 k) S { s with seq := k } rfl rfl rfl rfl rfl (h.sl.qh _ rfl rfl rfl rfl)
theorem bL.bs (h : bL w0 w L S f s) (b : Nat) (j : Int) :
 bL w0 ((w.setCell ⟨S.D, 7, none⟩ (.int .i64 b)).setCell ⟨S.D, 8, none⟩ (.int .i64 j)) L S f { s with block := b, slot := j } ∧ ah (bS L S) w ((w.setCell ⟨S.D, 7, none⟩ (.int .i64 b)).setCell ⟨S.D, 8, none⟩ (.int .i64 j)) := by
 obtain ⟨a1, a2⟩ := h.cell 7 (.int .i64 b) S { s with block := b } rfl rfl rfl rfl rfl (h.sl.qh _ rfl rfl rfl rfl)
 obtain ⟨b1, b2⟩ := a1.cell 8 (.int .i64 j) S { s with block := b, slot := j } rfl rfl rfl rfl rfl (a1.sl.qh _ rfl rfl rfl rfl)
 exact ⟨b1, a2.trans b2⟩
theorem bL.sv (h : bL w0 w L S f s) :
 bL w0 ((w.setCell ⟨S.D, 4, none⟩ (.slice S.Au s.values.length S.cu)).setCell ⟨S.D, 16, none⟩ (.bool false)) L { S with Av := S.Au, cv := S.cu } f { s with saved := s.values, bt := false } ∧
 ah (bS L S) w ((w.setCell ⟨S.D, 4, none⟩ (.slice S.Au s.values.length S.cu)).setCell ⟨S.D, 16, none⟩ (.bool false)) := by
 obtain ⟨a1, a2⟩ := h.cell 4 (.slice S.Au s.values.length S.cu) { S with Av := S.Au, cv := S.cu } { s with saved := s.values } rfl rfl rfl rfl rfl
  ⟨h.sl.sp, h.sl.Qj, h.sl.Qi, h.sl.vv, h.sl.RK, h.sl.RJ, h.sl.pp, h.sl.Up, h.sl.Uo, h.sl.vv, h.sl.RK, h.sl.RJ⟩
 obtain ⟨b1, b2⟩ := a1.cell 16 (.bool false) { S with Av := S.Au, cv := S.cu } { s with saved := s.values, bt := false } rfl rfl rfl rfl rfl (a1.sl.qh _ rfl rfl rfl rfl)
 exact ⟨b1, a2.trans b2⟩
theorem Eg (h : bL w0 w L S f s) (ho : bC f s) (hb : s.af = false) (hu : s.bt = true) (he : s.erase = false) :
 ∃ b off Q c p, S.Ap = some ⟨b, off, none⟩ ∧ w.cell? ⟨b, off + s.done, none⟩ = some (.slice Q 64 c) ∧ (∀ W', bL w0 W' L S (eW s f).1 s → ah (bS L S) w W' → W'.cell? ⟨b, off + s.done, none⟩ = some (.slice Q 64 c)) ∧
 (eW s f = bz f ((aG s f s.bH s.bg + s.done : Nat) : Int) p) ∧
 ∀ W', bW w W' → Calls prog 62 #[.pointer (some ⟨L.d, 0, none⟩), .int .i64 ((aG s f s.bH s.bg + s.done : Nat) : Int), .slice Q 64 c] W' fun e w' => e = .returned (fx (eW s f).2) ∧ bL w0 w' L S (eW s f).1 s ∧ ah (bS L S) W' w' := by
 have hd := ho.dn hu hb
 have fA := ho.pl hu
 obtain ⟨p, hp⟩ := getElem?_of_lt (l := s.cf) (k := s.done) oM
 obtain ⟨hl, tX⟩ := ho.pb p (List.mem_of_getElem? hp)
 obtain ⟨vs, e1, e2, e3⟩ := h.sl.pp
 obtain ⟨Q, m, c, d1, d2, d3, d4, d5⟩ := e3 s.done p hp
 rw [hl] at d2
 subst d2
 obtain ⟨b, off, ha, aY, hX, hc⟩ := e1 (by intro e; rw [e] at d1; simp at d1)
 have oI : eW s f = bz f ((aG s f s.bH s.bg + s.done : Nat) : Int) p := by
  unfold eW
  rw [iN (by rw [he]; decide), hp]
  rfl
 refine ⟨b, off, Q, c, p, ha, hc _ _ d1, fun W' hs hx => (cell_of_block (hx.block b aY (fun h5 => hX (.inl h5)))).trans (hc _ _ d1), oI, fun W' cB => ?_⟩
 have hs := h.ab cB
 rw [oI]
 refine (nJ hs.fl _ Q 64 c p ((d5.ao (.ak cB)).apart (ea.fl L S)) hl d3 d4 tX).mono ?_
 rintro e w' ⟨a, bb, cc⟩
 exact ⟨a, hs.EP bb cc (nK _ _ _), .ka cc (bS.fl L S)⟩
theorem ss (h : bL w0 w L S f s) (ho : bC f s) (hb : s.af = false) (hu : s.bt = true) (he : s.erase = false) :
 Calls prog 92 #[.pointer (some ⟨S.D, 0, none⟩)] w (lL w0 w L S (aI s f)) := by
 have h1 := kK S.D
 have g1 := ne_nil
 have g2 := fT
 have c0 := h.row 0 _ rfl
 have c9 := h.row 9 _ rfl
 have ua := h.row 10 _ rfl
 have Mm := h.row 12 _ rfl
 have DI := h.row 13 _ rfl
 have Ml := h.row 14 _ rfl
 have UP := h.row 15 _ rfl
 have Xj := h.row 16 _ rfl
 rw [hb] at c9
 rw [hu] at Xj
 rw [he] at UP
 have hw := h.fl.ok.b2
 have DB := ho.fb
 have YK := ho.tb
 have Aa := ho.b2
 have Sj := ho.ts
 have lR := BF ho h.fl.ok
 have qo := ho.dn hu hb
 have jE := ho.k8
 have fA := ho.pl hu
 have nC := ho.oG YK Sj
 have aas := gx h.fl.ok
 obtain ⟨b, off, Q, c, p, hA, eI, QJ, oI, QQ⟩ := Eg h ho hb hu he
 rw [hA] at ua
 rw [fA] at ua
 have jh : Hid (∀ W', bW w W' → Calls prog 113 #[.pointer (some ⟨S.D, 0, none⟩), .int .i64 (s.bH : Int), .int .i64 (s.bg : Int)] W' fun e w' => e = .returned (.int .i64 (aG s f s.bH s.bg : Nat)) ∧ ∃ q, w' = W'.drewN q) :=
  fun W' cB => sx (h.ab cB) ho (s.bH : Int) (s.bg : Int) s.bH s.bg rfl rfl oM oM
 have mA := iD QQ
 have Ry := iD QJ
 have xB : Hid (ct s = { s with done := s.done + 1 }) := by unfold ct; rw [Hid, iN (by rw [he]; decide)]
 have Dv := ho.q1
 have A0 := ho.q2
 obtain ⟨pn, zV⟩ := ex (aG s f s.bH s.bg)
 rw [zV] at jh mA nC
 obtain ⟨d, hd⟩ := ex s.done
 have NA := iD hd
 rw [hd] at mA xB qo Ml eI Ry
 obtain ⟨K, hK⟩ := ex s.k
 rw [hK] at qo jE fA nC ua
 have t0 : IntKind.i64.wrap ((pn : Int) + (d : Int)) = ((pn + d : Nat) : Int) := by
  rw [IntWalk.i64_in _ oM]
  push_cast
  rfl
 have pC := iD (show ∀ W', bW w W' → W'.cell? ⟨S.D, 0, none⟩ = some (.pointer (some ⟨L.d, 0, none⟩)) ∧ W'.cell? ⟨S.D, 12, none⟩ = some (.int .i64 s.bH) ∧ W'.cell? ⟨S.D, 13, none⟩ = some (.int .i64 s.bg) ∧ W'.cell? ⟨S.D, 14, none⟩ = some (.int .i64 d) ∧ W'.cell? ⟨S.D, 10, none⟩ = some (.slice (some ⟨b, off, none⟩) K S.cp) ∧ W'.cell? ⟨b, off + d, none⟩ = some (.slice Q 64 c) from
  fun W' cB => by
   have hs := h.ab cB
   have Ak := hs.row 10 _ rfl
   have DH := hs.row 14 _ rfl
   rw [hA, fA] at Ak
   rw [hd] at DH
   exact ⟨hs.row 0 _ rfl, hs.row 12 _ rfl, hs.row 13 _ rfl, DH, Ak, (cB.cell (p := ⟨b, off + d, none⟩) (World.block_lt_of_cell? w _ eI)).trans eI⟩)
 have iO := iD (show ∀ W', bL w0 W' L S (eW s f).1 s → ah (bS L S) w W' → W'.cell? ⟨S.D, 0, none⟩ = some (.pointer (some ⟨L.d, 0, none⟩)) ∧ W'.cell? ⟨S.D, 12, none⟩ = some (.int .i64 s.bH) ∧ W'.cell? ⟨S.D, 13, none⟩ = some (.int .i64 s.bg) ∧ W'.cell? ⟨S.D, 14, none⟩ = some (.int .i64 d) ∧ W'.cell? ⟨S.D, 10, none⟩ = some (.slice (some ⟨b, off, none⟩) K S.cp) ∧ W'.cell? ⟨b, off + d, none⟩ = some (.slice Q 64 c) from
  fun W' hs hx => by
   have Ak := hs.row 10 _ rfl
   have DH := hs.row 14 _ rfl
   rw [hA, fA] at Ak
   rw [hd] at DH
   exact ⟨hs.row 0 _ rfl, hs.row 12 _ rfl, hs.row 13 _ rfl, DH, Ak, Ry W' hs hx⟩)
 have tk : (d : Int) < (K : Int) := oM
 have tk0 : (0 : Int) ≤ (d : Int) := oM
 have HAA := iD hA
 have lV := iD fA
 have G0 := iD (fun hc => mM (f := f) (s := s) (k := 0) hb hu hc)
 have GW := iD (mL (f := f) (s := s) hb hu)
 have GX := iD (vj (f := f) (s := s) hb hu)
 have T4 : Hid (∀ W', bW w W' → ah (bS L S) w W') := fun W' cB => .ak cB
 clear h ho hb hu he DB hw oI QQ QJ hA fA zV hd hK aas Sj lR
 by_cases hc : (eW s f).2 = 0
 ·rw [hc, bG] at mA
  by_cases hlast : d + 1 < K
  ·have HR := iD (GW hc (by rw [xB]; simp only; rw [lV]; exact hlast))
   obtain ⟨f', DD⟩ := ex (eW s f).1
   rw [DD] at mA iO HR
   clear hc DD GW GX G0
   go_enter func92, ntmps92
   go_wp2_with (fail)
   go_region_held3 (fun w' => w'.cell? ⟨S.D, 0, none⟩ = some (.pointer (some ⟨L.d, 0, none⟩)) ∧ w'.cell? ⟨S.D, 12, none⟩ = some (.int .i64 s.bH) ∧ w'.cell? ⟨S.D, 13, none⟩ = some (.int .i64 s.bg) ∧ w'.cell? ⟨S.D, 14, none⟩ = some (.int .i64 d) ∧ w'.cell? ⟨S.D, 10, none⟩ = some (.slice (some ⟨b, off, none⟩) K S.cp) ∧ w'.cell? ⟨b, off + d, none⟩ = some (.slice Q 64 c)) (first | go_keep | exact iO _ uu Li) (first
    | (go_at_call 113; refine (jh _ (by repeat (first | exact Below.refl _ _ | refine Below.drew ?_ | refine Below.drewN ?_ _))).mono ?_; rintro e wp ⟨rfl, q1, rfl⟩)
    | (go_at_call 62; refine (mA _ (by repeat (first | exact Below.refl _ _ | refine Below.drew ?_ | refine Below.drewN ?_ _))).mono ?_; rintro e we ⟨rfl, uu, kU⟩; have Li := (T4 _ (Below.drewN (Below.refl w.heap.size w) _)).trans kU))
   have jQ := iD uu
   have J0 := iD Li
   clear uu kU Li
   have DH := jQ.row 14 _ rfl
   have Ak := jQ.row 10 _ rfl
   have Ha := jQ.fz 14
   rw [lV] at Ak
   rw [NA] at DH
   have xg := iD (jQ.dn (d + 1))
   rw [← xB] at xg
   go_wp2
   have tl : ((d : Int) + 1 < (K : Int)) := oM
   go_quiet (fail)
   go_wp2
   go_ret2
   unfold lL
   rw [HR]
   exact ⟨rfl, ⟨S, rfl, rfl, xg.1.ab (Below.drewN bV _)⟩, (J0.trans xg.2).trans (ah.ak (Below.drewN bV _))⟩
  have HR := iD (GX hc (by rw [xB]; simp only; rw [lV]; exact hlast))
  obtain ⟨f', DD⟩ := ex (eW s f).1
  rw [DD] at mA iO HR
  clear hc DD GW GX G0
  go_enter func92, ntmps92
  go_wp2_with (fail)
  go_region_held3 (fun w' => w'.cell? ⟨S.D, 0, none⟩ = some (.pointer (some ⟨L.d, 0, none⟩)) ∧ w'.cell? ⟨S.D, 12, none⟩ = some (.int .i64 s.bH) ∧ w'.cell? ⟨S.D, 13, none⟩ = some (.int .i64 s.bg) ∧ w'.cell? ⟨S.D, 14, none⟩ = some (.int .i64 d) ∧ w'.cell? ⟨S.D, 10, none⟩ = some (.slice (some ⟨b, off, none⟩) K S.cp) ∧ w'.cell? ⟨b, off + d, none⟩ = some (.slice Q 64 c)) (first | go_keep | exact iO _ uu Li) (first
   | (go_at_call 113; refine (jh _ (by repeat (first | exact Below.refl _ _ | refine Below.drew ?_ | refine Below.drewN ?_ _))).mono ?_; rintro e wp ⟨rfl, q1, rfl⟩)
   | (go_at_call 62; refine (mA _ (by repeat (first | exact Below.refl _ _ | refine Below.drew ?_ | refine Below.drewN ?_ _))).mono ?_; rintro e we ⟨rfl, uu, kU⟩; have Li := (T4 _ (Below.drewN (Below.refl w.heap.size w) _)).trans kU))
  have jQ := iD uu
  have J0 := iD Li
  clear uu kU Li
  have DH := jQ.row 14 _ rfl
  have Ak := jQ.row 10 _ rfl
  have Ha := jQ.fz 14
  rw [lV] at Ak
  rw [NA] at DH
  have xg := iD (jQ.dn (d + 1))
  rw [← xB] at xg
  have hKd : K = d + 1 := oM
  subst hKd
  go_wp2
  go_quiet (fail)
  have TY : Hid (bL w0 (we.setCell ⟨S.D, 14, none⟩ (.int .i64 ((d : Int) + 1))) L S f' (ct s) ∧ ah (bS L S) we (we.setCell ⟨S.D, 14, none⟩ (.int .i64 ((d : Int) + 1)))) := xg
  obtain ⟨W, hW⟩ := ex ((we.setCell ⟨S.D, 14, none⟩ (.int .i64 ((d : Int) + 1))).drewN nq)
  have rN : Hid (bL w0 W L S f' (ct s) ∧ ah (bS L S) w W) := by
   have kG := Below.drewN (Below.refl (we.setCell ⟨S.D, 14, none⟩ (.int .i64 ((d : Int) + 1))).heap.size (we.setCell ⟨S.D, 14, none⟩ (.int .i64 ((d : Int) + 1)))) nq
   rw [← hW]
   exact ⟨TY.1.ab kG, (J0.trans TY.2).trans (.ak kG)⟩
  rw [hW]
  clear hW xg TY J0 jQ Ak DH Ha
  have rO : (ct s).seq = s.seq := by rw [xB]
  have hsd : (ct s).bH = s.bH := by rw [xB]
  have dX : (ct s).bg = s.bg := by rw [xB]
  have e6 := rN.1.row 6 _ rfl
  have z6 := rN.1.fz 6
  rw [rO] at e6
  have oW := iD (rN.1.sq (s.seq + 1))
  obtain ⟨W2, lX⟩ := ex (W.setCell ⟨S.D, 6, none⟩ (.int .i64 (s.seq + 1)))
  rw [lX] at oW
  have e12 := oW.1.row 12 _ rfl
  have e13 := oW.1.row 13 _ rfl
  have e7 := oW.1.row 7 _ rfl
  have e8 := oW.1.row 8 _ rfl
  have z7 := oW.1.fz 7
  have z8 := oW.1.fz 8
  simp only [hsd, dX] at e12 e13
  clear rO hsd dX
  go_wp2
  go_region
  obtain ⟨W3, mC⟩ := ex ((W2.setCell ⟨S.D, 7, none⟩ (.int .i64 s.bH)).setCell ⟨S.D, 8, none⟩ (.int .i64 s.bg)).drew
  have TD : Hid (bL w0 W3 L S f' { ct s with seq := s.seq + 1, block := s.bH, slot := s.bg } ∧ ah (bS L S) W2 W3) := by
   obtain ⟨a1, a2⟩ := oW.1.bs s.bH (s.bg : Int)
   have kG := Below.drew (Below.refl ((W2.setCell ⟨S.D, 7, none⟩ (.int .i64 s.bH)).setCell ⟨S.D, 8, none⟩ (.int .i64 s.bg)).heap.size ((W2.setCell ⟨S.D, 7, none⟩ (.int .i64 s.bH)).setCell ⟨S.D, 8, none⟩ (.int .i64 s.bg)))
   rw [← mC]
   exact ⟨a1.ab kG, a2.trans (.ak kG)⟩
  rw [mC]
  clear lX mC e6 z6 e7 z7 e8 z8 e12 e13
  have e11 := TD.1.row 11 _ rfl
  have e4 := TD.1.row 4 _ rfl
  have e16 := TD.1.row 16 _ rfl
  have z4 := TD.1.fz 4
  have z16 := TD.1.fz 16
  have Zk := iD TD.1.sv
  go_wp2
  go_ret2
  unfold lL
  rw [HR]
  refine ⟨rfl, ⟨{ S with Av := S.Au, cv := S.cu }, rfl, rfl, ?_⟩, ((rN.2.trans oW.2).trans TD.2).trans Zk.2⟩
  have := Zk.out.1
  unfold kM
  simp only [xB.out] at this ⊢
  exact this
 have HR := iD (G0 hc)
 have HE := iD (dJ hc)
 rw [HE] at mA
 obtain ⟨f', DD⟩ := ex (eW s f).1
 rw [DD] at mA iO HR
 generalize (eW s f).2 = kk at *
 clear hc DD GW GX G0
 go_enter func92, ntmps92
 go_wp2_with (fail)
 go_region_held3 (fun w' => w'.cell? ⟨S.D, 0, none⟩ = some (.pointer (some ⟨L.d, 0, none⟩)) ∧ w'.cell? ⟨S.D, 12, none⟩ = some (.int .i64 s.bH) ∧ w'.cell? ⟨S.D, 13, none⟩ = some (.int .i64 s.bg) ∧ w'.cell? ⟨S.D, 14, none⟩ = some (.int .i64 d) ∧ w'.cell? ⟨S.D, 10, none⟩ = some (.slice (some ⟨b, off, none⟩) K S.cp) ∧ w'.cell? ⟨b, off + d, none⟩ = some (.slice Q 64 c)) (first | go_keep | exact iO _ uu Li) (first
  | (go_at_call 113; refine (jh _ (by repeat (first | exact Below.refl _ _ | refine Below.drew ?_ | refine Below.drewN ?_ _))).mono ?_; rintro e wp ⟨rfl, q1, rfl⟩)
  | (go_at_call 62; refine (mA _ (by repeat (first | exact Below.refl _ _ | refine Below.drew ?_ | refine Below.drewN ?_ _))).mono ?_; rintro e we ⟨rfl, uu, kU⟩; have Li := (T4 _ (Below.drewN (Below.refl w.heap.size w) _)).trans kU))
 have jQ := iD uu
 have J0 := iD Li
 clear uu kU Li
 have DH := jQ.row 14 _ rfl
 have Ak := jQ.row 10 _ rfl
 have Ha := jQ.fz 14
 rw [lV] at Ak
 rw [NA] at DH
 have xg := iD (jQ.dn (d + 1))
 rw [← xB] at xg
 have e9 := jQ.row 9 _ rfl
 have z9 := jQ.fz 9
 have M0 := iD (xg.1.br true)
 go_wp2
 go_ret2
 unfold lL
 rw [HR]
 exact ⟨rfl, ⟨S, rfl, rfl, M0.1⟩, (J0.trans xg.2).trans M0.2⟩
end
theorem D0 (s : St) : (ct s).bt = s.bt ∧ (ct s).af = s.af ∧ (ct s).cf = s.cf := by unfold ct; split <;> exact ⟨rfl, rfl, rfl⟩
theorem sI (ho : bC f s) (hb : s.af = false) (hu : s.bt = true) (hd : (aI s f).2.2.1 = false) (he : (aI s f).2.2.2 = 0) :
 iU (aI s f).1 + 1 = iU s ∧ (aI s f).1.bt = true ∧ (aI s f).1.af = false := by
 unfold aI at hd he ⊢
 rw [iN (by rw [hb]; decide), iN (by rw [hu]; decide)] at hd he ⊢
 by_cases h0 : (eW s f).2 ≠ 0
 ·rw [iP h0] at he
  cases he
 rw [iN h0] at hd he ⊢
 by_cases hl : (ct s).done < (ct s).cf.length
 ·rw [iP hl] at hd he ⊢
  obtain ⟨e1, e2, e3⟩ := D0 s
  refine ⟨?_, by rw [e1]; exact hu, by rw [e2]; exact hb⟩
  have qo := ho.dn hu hb
  have fA := ho.pl hu
  unfold iU ct
  by_cases he : s.erase = true
  ·rw [iP he, iP he]
   simp
  rw [iN he, iN he]
  simp only
  omega
 rw [iN hl] at hd
 cases hd
theorem qU (ho : bC f s) (hb : s.af = false) (hu : s.bt = true) : 1 ≤ iU s := by
 have qo := ho.dn hu hb
 have fA := ho.pl hu
 unfold iU
 omega
theorem fq (n : Nat) (s : St) (f : Fl) : ja (n + 1) s f = if (aI s f).2.2.1 = true ∨ (aI s f).2.2.2 ≠ 0 then ((aI s f).1, (aI s f).2.1, (aI s f).2.2.2) else ja n (aI s f).1 (aI s f).2.1 := rfl
section
variable {w0 w : World} {L : Lc} {S : Sc} {f : Fl} {s : St}
theorem BC (h : bL w0 w L S f s) (ho : bC f s) : Calls prog 92 #[.pointer (some ⟨S.D, 0, none⟩)] w (lL w0 w L S (aI s f)) := by
 by_cases hb : s.af = true
 ·have HR : Hid (aI s f = (s, f, false, 20)) := by unfold aI; rw [Hid, iP hb]
  have h1 := kK S.D
  have c9 := h.row 9 _ rfl
  rw [hb] at c9
  have H := iD h
  clear h ho hb
  go_enter func92, ntmps92
  go_wp2
  go_ret2
  unfold lL
  rw [HR]
  exact ⟨rfl, ⟨S, rfl, rfl, H⟩, ah.refl _ _⟩
 have dO : s.af = false := by simpa using hb
 by_cases hu : s.bt = true
 ·by_cases he : s.erase = true
  ·exact pU h ho dO hu he
  exact ss h ho dO hu (by simpa using he)
 have ql : s.bt = false := by simpa using hu
 have HR : Hid (aI s f = (s, f, false, 12)) := by unfold aI; rw [Hid, iN hb, iP ql]
 have h1 := kK S.D
 have c9 := h.row 9 _ rfl
 have Xj := h.row 16 _ rfl
 rw [dO] at c9
 rw [ql] at Xj
 have H := iD h
 clear h ho hb dO hu ql
 go_enter func92, ntmps92
 go_wp2
 go_ret2
 unfold lL
 rw [HR]
 exact ⟨rfl, ⟨S, rfl, rfl, H⟩, ah.refl _ _⟩
def Cf (D : Nat) (w : World) : Nat :=
 (match w.cell? ⟨D, 10, none⟩ with | some (.slice _ n _) => n | _ => 0) - (match w.cell? ⟨D, 14, none⟩ with | some (.int _ d) => d.toNat | _ => 0) + (match w.cell? ⟨D, 15, none⟩ with | some (.bool true) => 1 | _ => 0)
theorem bL.left (h : bL w0 w L S f s) : Cf S.D w = iU s := by
 unfold Cf iU
 rw [h.row 10 _ rfl, h.row 14 _ rfl, h.row 15 _ rfl]
 simp only [Int.toNat_natCast]
 cases s.erase <;> rfl
def nk (w0 w : World) (L : Lc) (S : Sc) (q : St × Fl × Int) (e : Ending) (w' : World) : Prop :=
 e = .returned (fx q.2.2) ∧ (∃ S', S'.D = S.D ∧ S'.G = S.G ∧ bL w0 w' L S' q.2.1 q.1) ∧ ah (bS L S) w w'
structure wX (w0 w wr : World) (L : Lc) (S : Sc) (q : St × Fl × Int) (n : Nat) (S' : Sc) (s' : St) (f' : Fl) : Prop where
 d : S'.D = S.D
 g : S'.G = S.G
 st : bL w0 wr L S' f' s'
 ok : bC f' s'
 b : s'.af = false
 u : s'.bt = true
 left : iU s' ≤ n
 run : q = ja n s' f'
 only : ah (bS L S) w wr
theorem wM (h : bL w0 w L S f s) (ho : bC f s) : Calls prog 67 #[.pointer (some ⟨S.D, 0, none⟩)] w (nk w0 w L S (ay s f)) := by
 have g1 := ne_nil
 have g2 := fT
 have HB := iD (zd h ho)
 by_cases hE : aO s f = 0
 ·have HC : Hid (ay s f = ja 10 (aZ s f) f) := by unfold ay; rw [Hid, iN (by rw [hE]; decide)]
  have AL := iD (my (f := f) ho)
  have Bl : Hid ((aZ s f).af = false ∧ (aZ s f).bt = true ∧ iU (aZ s f) ≤ 10) := by
   obtain ⟨a, b, _, _, e⟩ := jD hE
   have hk := AL.k8
   have hb : (aZ s f).bt = true := by unfold aZ; rw [iP hE]
   have hp := AL.pl hb
   refine ⟨?_, hb, ?_⟩
   ·unfold aZ
    rw [iP hE]
    show (bj (fX s f) f).af = false
    have : (bj (fX s f) f).af = (fX s f).af := by unfold bj; split <;> rfl
    rw [this]
    unfold fX
    rw [a, b]
    rfl
   unfold iU
   split <;> omega
  rw [HC]
  obtain ⟨q, hq⟩ := ex (ja 10 (aZ s f) f)
  have HQ := iD hq
  rw [hq]
  have HE := iD hE
  unfold qD at HB
  rw [hE, bG] at HB
  clear h ho hE hq
  go_enter func67, ntmps67
  go_wp2_with (fail)
  refine HB.mono ?_
  rintro e w1 ⟨rfl, ⟨S1, xz, tW, gF⟩, lW⟩
  have HU : Hid (wX w0 w w1 L S q 10 S1 (aZ s f) f) := ⟨xz, tW, gF, AL, Bl.1, Bl.2.1, Bl.2.2, HQ.symm, lW⟩
  clear xz tW gF lW
  go_wp2
  go_loopw [4] (fun _ wr => ∃ n S' s' f', wX w0 w wr L S q n S' s' f') (fun _ wr => Cf S.D wr)
  case atStart => exact ⟨_, _, _, _, HU⟩
  case round =>
   obtain ⟨n, S', s', f', hU⟩ := hrel
   have HV := iD hU
   have HLF : Hid (Cf S.D wr = iU s') := by rw [← hU.d]; exact hU.st.left
   have eX := iD (BC hU.st hU.ok)
   have hn : 1 ≤ n := Nat.le_trans (qU hU.ok hU.b hU.u) hU.left
   obtain ⟨m, rfl⟩ : ∃ m, n = m + 1 := ⟨n - 1, oM⟩
   have py := iD hU.run
   rw [fq] at py
   rw [hU.d] at eX
   have J4 := iD (sI hU.ok hU.b hU.u)
   have gX := iD (mc hU.ok)
   clear hU hn
   obtain ⟨r, hr⟩ := ex (aI s' f')
   rw [hr] at eX py J4 gX
   obtain ⟨rs, rf, rd, re⟩ := r
   clear hr
   simp only at py J4 gX
   unfold lL at eX
   simp only at eX
   by_cases qo : rd = true
   ·subst qo
    have HF : Hid (q = (rs, rf, re)) := by rw [Hid, py, iP (.inl rfl)]
    go_wp2_with (fail)
    refine eX.mono ?_
    rintro e w2 ⟨rfl, ⟨S2, qp, vT, je⟩, kV⟩
    have sc := iD je
    have mB := iD kV
    have G4 : Hid (S2.D = S.D ∧ S2.G = S.G) := ⟨qp.trans HV.d, vT.trans HV.g⟩
    clear je kV qp vT
    generalize QN : fx re = ev
    have oX := iD QN
    clear QN
    go_wp2
    go_ret
    unfold nk
    rw [HF]
    exact ⟨by rw [oX]; rfl, ⟨S2, G4.1, G4.2, sc⟩, HV.only.trans (by rw [← bS.same HV.d HV.g]; exact mB)⟩
   have hdf : rd = false := by simpa using qo
   subst hdf
   by_cases he : re = 0
   ·subst he
    have HF : Hid (q = ja m rs rf) := by rw [Hid, py, iN (by simp)]
    obtain ⟨l1, l2, l3⟩ := J4 rfl rfl
    have HL := iD l1
    have HL2 := iD l2
    have HL3 := iD l3
    rw [bG] at eX
    clear l1 l2 l3
    go_wp2_with (fail)
    refine eX.mono ?_
    rintro e w2 ⟨rfl, ⟨S2, qp, vT, je⟩, kV⟩
    have TO : Hid (wX w0 w w2 L S q m S2 rs rf) :=
     ⟨qp.trans HV.out.d, vT.trans HV.out.g, je, gX.out, HL3.out, HL2.out, by have := HV.out.left; have := HL.out; omega, HF.out, HV.out.only.trans (by rw [← bS.same HV.out.d HV.out.g]; exact kV)⟩
    clear je kV qp vT
    go_wp2
    go_roundw
    case rel => exact ⟨_, _, _, _, TO⟩
    case measure =>
     have e1 : Cf S.D w2 = iU rs := by rw [← TO.d]; exact TO.st.left
     rw [e1, HLF]
     have := HL.out
     omega
   have HF : Hid (q = (rs, rf, re)) := by rw [Hid, py, iP (.inr he)]
   have U7 := iD (dJ he)
   rw [U7] at eX
   clear he
   go_wp2_with (fail)
   refine eX.mono ?_
   rintro e w2 ⟨rfl, ⟨S2, qp, vT, je⟩, kV⟩
   have sc := iD je
   have mB := iD kV
   have G4 : Hid (S2.D = S.D ∧ S2.G = S.G) := ⟨qp.trans HV.d, vT.trans HV.g⟩
   clear je kV qp vT
   go_wp2
   go_ret
   unfold nk
   rw [HF]
   exact ⟨by rw [U7]; rfl, ⟨S2, G4.1, G4.2, sc⟩, HV.only.trans (by rw [← bS.same HV.d HV.g]; exact mB)⟩
 have HC : Hid (ay s f = (aZ s f, f, aO s f)) := by unfold ay; rw [Hid, iP hE]
 unfold qD at HB
 have HE := iD (dJ hE)
 rw [HE] at HB
 rw [HC]
 clear h ho hE
 generalize aO s f = k at *
 go_enter func67, ntmps67
 go_wp2_with (fail)
 refine HB.mono ?_
 rintro e w1 ⟨rfl, gF, lW⟩
 have l4 := iD gF
 have iL := iD lW
 clear gF lW
 go_wp2
 go_ret
 unfold nk
 exact ⟨by rw [HE]; rfl, l4, iL⟩
end
end Go.Proofs.YtjdknddnanopaaaGreat
