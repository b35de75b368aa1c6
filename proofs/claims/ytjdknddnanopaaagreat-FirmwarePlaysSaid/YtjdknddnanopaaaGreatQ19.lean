/-
  Part 19 of the proof.
-/
import Derived.Test.YtjdknddnanopaaaGreatQ18
namespace Go.Proofs.YtjdknddnanopaaaGreat
open Go.RowKit Tryz
set_option maxRecDepth 100000
set_option maxHeartbeats 16000000
set_option linter.all false
variable {w w' : World} {b : Bk} {X Y : Nat → Prop} {B N i k p : Nat} {r : Rb} {f g : Fl} {x : Rc} {t : TypeId} {C : Array Value} {v : Value}
structure AA (X : Nat → Prop) (B N k : Nat) (w : World) (r : Rb) (b : Bk) (p : Nat) : Prop where
 a : gP (XF X N k) B w r b p
 e : ∀ g, (Value.slice r.E r.ne r.ce).ownBlock = some g → g < N
theorem AA.ao (h : AA X B N k w r b p) (ho : ah (XF (fun _ => False) N k) w w') : AA X B N k w' r b p :=
 ⟨h.a.ao ho (fun g hg => hg.elim False.elim .inr) (fun g hg hy => by
  have := h.e g hg
  rcases hy with hy | hy
  ·exact hy
  omega), h.e⟩
theorem AA.below (h : AA X B N k w r b p) (hb : bW w w') : AA X B N k w' r b p := ⟨h.a.below hb, h.e⟩
theorem AA.fin (h : AA X B N k w r b p) : gP X B w r b p := h.a.dQ (fun _ _ hx => .inl hx)
theorem AA.of (h : gP X B w r b p) (hb : bW w w') (he : ∀ g, (Value.slice r.E r.ne r.ce).ownBlock = some g → g < w.heap.size) : AA X B w.heap.size k w' r b p := ⟨(h.dQ (zp k)).below hb, he⟩
theorem DU {e : Int} {l : List Int} (Dn : ar b f = b) (hb : b.af = false) (he : b.erase = e :: l) : aK b f = if (aT f e).2 ≠ 0 then ({ b with af := true }, (aT f e).1, false, 20) else ({ b with erase := l }, (aT f e).1, !bO { b with erase := l }, 0) := by
 obtain ⟨_, _, _, _, _, _, _, _, _, _, _, _, _, _⟩ := b
 simp only at he hb
 subst he hb
 unfold aK
 rw [Dn]
 rfl
theorem DT {d : List Int} (Dn : ar b f = b) (hb : b.af = false) (he : b.erase = []) (hd : b.data = some d) : aK b f = if (bz f b.page d).2 ≠ 0 then ({ b with af := true }, (bz f b.page d).1, false, 20) else ({ b with data := none }, (bz f b.page d).1, !bO { b with data := none }, 0) := by
 obtain ⟨_, _, _, _, _, _, _, _, _, _, _, _, _, _⟩ := b
 simp only at he hd hb
 subst he hd hb
 unfold aK
 rw [Dn]
 rfl
theorem He (Dn : ar b f = b) (hb : b.af = false) (he : b.erase = []) (hd : b.data = none) (hr : b.bh = true) : aK b f = if (aI b.st f).2.2.2 ≠ 0 then ({ b with st := (aI b.st f).1, af := true }, (aI b.st f).2.1, false, 20)
 else ({ b with st := (aI b.st f).1, bh := !(aI b.st f).2.2.1 }, (aI b.st f).2.1, (aI b.st f).2.2.1, 0) := by
 obtain ⟨_, _, _, _, _, _, _, _, _, _, _, _, _, _⟩ := b
 simp only at he hd hb hr
 subst he hd hb hr
 unfold aK
 rw [Dn]
 rfl
theorem Fr.RS {wr : World} {p q r s : Array Value × TypeId} (h : Fr w wr [p, q, r, s]) : w.heap.size + 4 ≤ wr.heap.size := h.len
theorem Hb (r : Rb) (b : Bk) (x : Rc) (g : Fl) (hz : (ar b g).af = true) (w : World) :
 Calls prog 54 #[.agg (ba r b), .agg (xa x g)] w fun e w' => e = .returned (.tuple #[.agg (ba r (ar b g)), .agg (xa x g), .bool false, .int .i64 20]) ∧ bW w w' := by
 obtain ⟨C, hC⟩ := ex (ba r b)
 obtain ⟨F, hF⟩ := ex (xa x g)
 obtain ⟨C1, jg⟩ := ex (ba r (ar b g))
 have HD := iD (fun w => fY r b x g w)
 rw [hC, hF, jg] at HD
 rw [hz] at HD
 have HS : Hid (C.size = 26) := by rw [← hC]; exact bC _ _
 have lW : Hid (C1.size = 26) := by rw [← jg]; exact bC _ _
 have uH : Hid (F.size = 6) := by rw [← hF]; exact aQ _ _
 have HOF : Hid (F.all (·.oneCell') = true) := by rw [← hF]; exact mE _ _
 have iH : Hid (C1.all (·.oneCell') = true) := by rw [← jg]; exact eX _ _
 rw [hC, hF, jg]
 clear hC hF jg hz
 obtain ⟨W, hW⟩ := ex ((((w.alloc (.cells C 45)).alloc (.cells F 35)).alloc (.cells zB 45)).alloc (.cells zF 35))
 have H0 := iD (Fr.four hW)
 go_enter func54, ntmps54
 go_upto_region 1 with (fail)
 try rw [hW]
 clear hW
 refine wp_region_list ?_
 refine lB H0.aC HS ?_
 refine lF H0.dL uH ?_
 refine cP (HD W) ?_
 rintro e v1 ⟨rfl, dB⟩
 have H2 := iD (H0.ab dB)
 clear dB
 refine rP ?_
 refine wV (.tuple #[.agg C1, .bool true]) ?_
 refine wV (.agg C1) ?_
 refine wV (.bool true) ?_
 refine sP 0 H2 fun w3 _ H3 => ?_
 go_upto_region 3 with (fail)
 refine rV H3 ?_ (h5 := lW) (h6 := uH)
 exact fun _ o H6 => ⟨rfl, H6.below⟩
theorem NO (h : gP X B w r b g.pg) (hR : cf X w x g) (hX : ∀ b, X b → b < w.heap.size) (ho : bS g b) (hw : Wk g b) (uV : (aK b g).1.af = false → (aK b g).1.st.af = false ∧ (aK b g).1.bh = (aK b g).1.st.bt ∧ bD (aK b g).2.1 (aK b g).1.st) (zX : ∀ k, (Value.slice r.E r.ne r.ce).ownBlock = some k → k < w.heap.size) (e0 : Int) (l : List Int) (hE : b.erase = e0 :: l) :
 Calls prog 54 #[.agg (bq r b r.q b.st), .agg (xa x g)] w (rE X B w r g.pg (aK b g).1 (aK b g).2.1 (.bool (aK b g).2.2.1) (aK b g).2.2.2) := by
 obtain ⟨Sx, -⟩ := h.er hw.br
 rw [hE] at Sx
 obtain ⟨ge, oe, ce, hv, Oz, Qx, eI, AY⟩ := Sx.front
 have aW : ge < w.heap.size := zX ge (by rw [hv]; rfl)
 have wg : ∀ q s, (bq r b q s)[24]? = some (.slice (some ⟨ge, oe, none⟩) (l.length + 1) ce) := fun q s => by
  show some (Value.slice r.E r.ne r.ce) = _
  rw [hv]
 obtain ⟨g1, ub⟩ := ex (aT g e0).1
 obtain ⟨k1, xv⟩ := ex (aT g e0).2
 have hQ : aK b g = if k1 ≠ 0 then ({ b with af := true }, g1, false, 20) else ({ b with erase := l }, g1, !bO { b with erase := l }, 0) := by
  rw [← xv, ← ub]
  exact DU hw.rd hw.br hE
 have Y7 := fun (W : World) (hb : bW w W) (hl : w.heap.size + 4 ≤ W.heap.size) => ql (hR.xf hb 4) (XF.lt hX hl) e0
 rw [ub, xv] at Y7
 simp only [← uw] at Y7
 have nn := iD Y7
 have J7 := iD (fun (V9 : World) (hb : bW w V9) => (hb.cell (p := ⟨ge, oe, none⟩) aW).trans eI)
 have xg := iD wg
 obtain ⟨E1, c1, Ul⟩ : ∃ E1 c1, (if ce = 1 then Value.slice (some ⟨ge, oe, none⟩) l.length 0 else Value.slice (some ⟨ge, oe + 1, none⟩) l.length (ce - 1)) = .slice E1 l.length c1 := by
  split
  ·exact ⟨_, _, rfl⟩
  exact ⟨_, _, rfl⟩
 obtain ⟨r1, qR⟩ : ∃ r1 : Rb, { r with E := E1, ne := l.length, ce := c1 } = r1 := ⟨_, rfl⟩
 have xA : Hid (∀ k, (Value.slice r1.E r1.ne r1.ce).ownBlock = some k → (Value.slice r.E r.ne r.ce).ownBlock = some k) := by
  rw [← qR, hv]
  show ∀ k, (Value.slice E1 l.length c1).ownBlock = some k → _
  rw [← Ul]
  intro k hk
  split at hk
  ·exact hk
  exact hk
 have UG : Hid (r1.q = r.q) := by rw [← qR]; rfl
 have Nt : Hid ((bq r b r.q b.st).setIfInBounds 24 (if ce = 1 then Value.slice (some ⟨ge, oe, none⟩) l.length 0 else Value.slice (some ⟨ge, oe + 1, none⟩) l.length (ce - 1)) = bq r1 b r1.q b.st) := by rw [Ul, ← qR]; rfl
 have PF : Hid (∀ (V9 : World), bW w V9 → AA X B w.heap.size 4 V9 r1 { b with erase := l } g.pg) := fun V9 hb => by
  refine AA.of (r := r1) (b := { b with erase := l }) ?_ hb (fun k hk => zX k (xA k hk))
  rw [Ul] at AY
  rw [← qR]
  exact ⟨h.v, fun e => ⟨AY, rfl⟩, h.dt⟩
 have Bm : Hid (({ b with erase := l } : Bk).af = false) := hw.br
 have HD := iD (fun w => fY r b x g w)
 rw [hw.rd, hw.br, kU] at HD
 obtain ⟨q, lk⟩ := ex (aK b g)
 rw [lk] at uV ⊢
 have iA := (gv b g).p
 rw [lk] at iA
 have Ju := iD uV
 have HX := iD hX
 have HH := iD h
 have zi := iD hR
 have gV := iD ho
 have Np := iD hw
 have rM : Hid (∀ (r : Rb) (q : Qv) (s : St), (bq r b q s).setIfInBounds 18 (.bool true) = bq r { b with af := true } q s) := fun r q s => rfl
 have uL : Hid (∀ (r : Rb) q s, (bq r b q s)[18]? = some (.bool b.af)) := fun _ _ _ => rfl
 rw [lk] at hQ
 have HQ := iD hQ
 have HR1 := iD qR
 obtain ⟨W, hW⟩ := ex ((((w.alloc (.cells (bq r b r.q b.st) 45)).alloc (.cells (xa x g) 35)).alloc (.cells zB 45)).alloc (.cells zF 35))
 have H0 := iD (Fr.four hW)
 clear wg hv eI AY Ul qR Sx hQ Y7 ub xv hX h hR ho hw lk uV hE zX
 go_enter func54, ntmps54
 go_upto_region 1 with (fail)
 try rw [hW]
 clear hW
 refine wp_region_list ?_
 refine jM H0.aC ?_
 refine xr H0.dL ?_
 refine cP (HD W) ?_
 rintro e v1 ⟨rfl, dB⟩
 have H2 := iD (H0.ab dB)
 clear dB
 refine rP ?_
 refine wV (.tuple #[.agg (bq r b r.q b.st), .bool false]) ?_
 refine wV (.agg (bq r b r.q b.st)) ?_
 refine wV (.bool false) ?_
 refine sP 0 H2 fun w3 _ H3 => ?_
 have d24 := H3.cell0 24 (xg r.q b.st)
 have n0 : (0 : Int) < (l.length : Int) + 1 := oM
 go_upto_region 6 with (fail)
 have H4 := iD (H3.ab fT)
 refine mh (by kernel_rfl) (fun w' => w'.heap[w.heap.size]? = some (.cells (bq r b r.q b.st) 45 (0, 0)) ∧ w'.heap[w.heap.size + 1]? = some (.cells (xa x g) 35 (0, 0)) ∧ w'.cell? ⟨ge, oe, none⟩ = some (.int .i64 e0)) 9 ?_
 refine tM 0 _ rfl (jT (fun _ hS => hS.2.1) ((aQ x g))) (⟨H4.aC, H4.dL, J7 _ H4.below⟩) ?_
 refine kP 1 w.heap.size 24 (⟨H4.aC, H4.dL, J7 _ H4.below⟩) ?_
 refine tM 2 _ rfl (yC fun _ hS => gH hS.1 (xg r.q b.st)) (⟨H4.aC, H4.dL, J7 _ H4.below⟩) ?_
 refine tK 3 (.pointer (some ⟨ge, oe, none⟩)) (⟨H4.aC, H4.dL, J7 _ H4.below⟩) ?_
 refine tM 4 (.int .i64 e0) rfl (YB (by rfl) _ rfl ge oe rfl (.int .i64 e0) (fun w' hS => ZR hS.2.2)) (⟨H4.aC, H4.dL, J7 _ H4.below⟩) ?_
 refine kI 5 (cW (nn _ H4.below (Fr.RS H4)) ?_)
 rintro e v5 ⟨y5, rfl, Gj, gD⟩
 have H5 := iD (H4.ab gD)
 have Xr := iD Gj
 clear gD Gj
 refine rX ⟨H5.aC, H5.dL, J7 _ H5.below⟩ ?_
 refine tK 6 (.tuple #[.agg (xa y5 g1), .int .i64 k1]) (⟨H5.aC, H5.dL, J7 _ H5.below⟩) ?_
 refine kA 7 (xa y5 g1) (⟨H5.aC, H5.dL, J7 _ H5.below⟩) ?_
 refine kN 8 (k1) (⟨H5.aC, H5.dL, J7 _ H5.below⟩) ?_
 refine kL (sW 1 H5 fun w6 o H6 => ?_)
 have Pp := iD (Xr.ao (NX o))
 refine vN 10 (k1) trivial ?_
 refine wD ?_
 have d24 := H6.cell0 24 (xg r.q b.st)
 have f24 := H6.sZ 24
 have GM := iD (Pp.ao (ah.set w6 ⟨w.heap.size, 24, none⟩ (if ce = 1 then Value.slice (some ⟨ge, oe, none⟩) l.length 0 else Value.slice (some ⟨ge, oe + 1, none⟩) l.length (ce - 1)) (pJ X _)))
 by_cases mB : ce = 1
 ·subst mB
  obtain rfl : l = [] := List.eq_nil_of_length_eq_zero oM
  simp only [if_true, List.length_nil] at GM Nt
  go_upto_region 13 with (fail)
  clear d24 f24
  have H7 := iD (H6.iC 24 (.slice (some ⟨ge, oe, none⟩) 0 0))
  rw [Nt] at H7
  generalize (w6.setCell ⟨w.heap.size, 24, none⟩ (.slice (some ⟨ge, oe, none⟩) 0 0)) = w7 at H7 GM ⊢
  have ov := iD (PF w7 H7.below)
  by_cases hk : k1 = 0
  rotate_left
  ·have hk' : (k1 != 0) = true := by simpa using hk
   have L8 := H7.cell0 18 (uL r1 r1.q b.st)
   have f18 := H7.sZ 18
   go_upto_region 15 with (fail)
   clear L8 f18
   have jY := iD ((ov.a.v).ao (ah.set w7 ⟨w.heap.size, 18, none⟩ (.bool true) (pJ X _)))
   have iG := iD (GM.ao (ah.set w7 ⟨w.heap.size, 18, none⟩ (.bool true) (pJ X _)))
   have H8 := iD (H7.iC 18 (.bool true))
   rw [rM r1 r1.q b.st] at H8
   generalize (w7.setCell ⟨w.heap.size, 18, none⟩ (.bool true)) = w8 at H8 jY iG ⊢
   refine rV H8 ?_
   exact fun _ o kW => (by rw [HQ, iP hk]; exact ⟨r1, y5, rfl, gP.dead ((jY.ao (o _)).cX (fun _ => .inl)) rfl, (iG.ao (o _)).cX (fun _ => .inl), xA, kW.below⟩)
  have hk' : (k1 != 0) = false := by simpa using hk
  subst hk
  rw [HQ, iN (by simp)] at Ju
  obtain ⟨j1, j2, j3⟩ := Ju Bm
  have jP := iD (fun w3 => mG ov.a Bm j1 j2 j3 w3)
  have ka : ba r1 { b with erase := [] } = bq r1 b r1.q b.st := rfl
  rw [ka] at jP
  clear ka
  obtain ⟨wb, zP⟩ := ex (bO { b with erase := [] })
  rw [zP] at jP
  have kZ := iD zP
  clear zP j1 j2 j3
  go_upto_region 16 with (fail)
  have AN := iD (ov.below fT)
  have tn := iD (GM.below fT)
  refine rF H7 fun H8 => ?_
  refine tL 0 _ rfl (iK (fun _ hS => hS.1) ((aY r1 b r1.q b.st))) H8.fN ?_
  refine tL 1 _ rfl (jT (fun _ hS => hS.2) ((aQ y5 g1))) H8.fN ?_
  refine tL 2 _ rfl (iK (fun _ hS => hS.1) ((aY r1 b r1.q b.st))) H8.fN ?_
  refine wI 3 (cW (jP _) ?_)
  rintro e tC ⟨rfl, jq⟩
  have H9 := iD (H8.ab jq)
  have AM := iD (AN.below jq)
  have uF := iD (tn.below jq)
  clear jq
  refine rW H9.fN ?_
  refine tV 4 (.bool (!wb)) H9.fN ?_
  refine rY H9 ?_
  exact fun _ o kW => (by rw [HQ, iN (by simp), kZ]; exact ⟨r1, y5, rfl, (AM.ao (o _)).fin, (uF.ao (o _)).cX (fun _ => .inl), xA, kW.below⟩)
 simp only [iN mB] at GM Nt
 have z1 : ¬ (ce = 1) := mB
 have z2 : (1 : Int) ≤ (l.length : Int) + 1 := oM
 have z3 : (l.length : Int) + 1 ≤ (ce : Int) := oM
 go_upto_region 13 with (fail)
 clear d24 f24
 have H7 := iD (H6.iC 24 (.slice (some ⟨ge, oe + 1, none⟩) l.length (ce - 1)))
 rw [Nt] at H7
 generalize (w6.setCell ⟨w.heap.size, 24, none⟩ (.slice (some ⟨ge, oe + 1, none⟩) l.length (ce - 1))) = w7 at H7 GM ⊢
 have ov := iD (PF w7 H7.below)
 by_cases hk : k1 = 0
 rotate_left
 ·have hk' : (k1 != 0) = true := by simpa using hk
  have L8 := H7.cell0 18 (uL r1 r1.q b.st)
  have f18 := H7.sZ 18
  go_upto_region 15 with (fail)
  clear L8 f18
  have jY := iD ((ov.a.v).ao (ah.set w7 ⟨w.heap.size, 18, none⟩ (.bool true) (pJ X _)))
  have iG := iD (GM.ao (ah.set w7 ⟨w.heap.size, 18, none⟩ (.bool true) (pJ X _)))
  have H8 := iD (H7.iC 18 (.bool true))
  rw [rM r1 r1.q b.st] at H8
  generalize (w7.setCell ⟨w.heap.size, 18, none⟩ (.bool true)) = w8 at H8 jY iG ⊢
  refine rV H8 ?_
  exact fun _ o kW => (by rw [HQ, iP hk]; exact ⟨r1, y5, rfl, gP.dead ((jY.ao (o _)).cX (fun _ => .inl)) rfl, (iG.ao (o _)).cX (fun _ => .inl), xA, kW.below⟩)
 have hk' : (k1 != 0) = false := by simpa using hk
 subst hk
 rw [HQ, iN (by simp)] at Ju
 obtain ⟨j1, j2, j3⟩ := Ju Bm
 have jP := iD (fun w3 => mG ov.a Bm j1 j2 j3 w3)
 have ka : ba r1 { b with erase := l } = bq r1 b r1.q b.st := rfl
 rw [ka] at jP
 clear ka
 obtain ⟨wb, zP⟩ := ex (bO { b with erase := l })
 rw [zP] at jP
 have kZ := iD zP
 clear zP j1 j2 j3
 go_upto_region 16 with (fail)
 have AN := iD (ov.below fT)
 have tn := iD (GM.below fT)
 refine rF H7 fun H8 => ?_
 refine tL 0 _ rfl (iK (fun _ hS => hS.1) ((aY r1 b r1.q b.st))) H8.fN ?_
 refine tL 1 _ rfl (jT (fun _ hS => hS.2) ((aQ y5 g1))) H8.fN ?_
 refine tL 2 _ rfl (iK (fun _ hS => hS.1) ((aY r1 b r1.q b.st))) H8.fN ?_
 refine wI 3 (cW (jP _) ?_)
 rintro e tC ⟨rfl, jq⟩
 have H9 := iD (H8.ab jq)
 have AM := iD (AN.below jq)
 have uF := iD (tn.below jq)
 clear jq
 refine rW H9.fN ?_
 refine tV 4 (.bool (!wb)) H9.fN ?_
 refine rY H9 ?_
 exact fun _ o kW => (by rw [HQ, iN (by simp), kZ]; exact ⟨r1, y5, rfl, (AM.ao (o _)).fin, (uF.ao (o _)).cX (fun _ => .inl), xA, kW.below⟩)
theorem NN (h : gP X B w r b g.pg) (hR : cf X w x g) (hX : ∀ b, X b → b < w.heap.size) (ho : bS g b) (hw : Wk g b) (uV : (aK b g).1.af = false → (aK b g).1.st.af = false ∧ (aK b g).1.bh = (aK b g).1.st.bt ∧ bD (aK b g).2.1 (aK b g).1.st) (zX : ∀ k, (Value.slice r.E r.ne r.ce).ownBlock = some k → k < w.heap.size) (d : List Int) (hE : b.erase = []) (ED : b.data = some d) (Up : uu g.pg b) :
 Calls prog 54 #[.agg (bq r b r.q b.st), .agg (xa x g)] w (rE X B w r g.pg (aK b g).1 (aK b g).2.1 (.bool (aK b g).2.2.1) (aK b g).2.2.2) := by
 obtain ⟨Lp, Wb⟩ := Up.pg d ED
 obtain ⟨-, LF⟩ := h.er hw.br
 rw [hE] at LF
 have fR : r.ne = 0 := LF.symm
 have vX := h.dt hw.br
 rw [ED] at vX
 obtain ⟨gp, op, hP, Dn, yP, Wl, Wj⟩ : ∃ gp op, r.P = some ⟨gp, op, none⟩ ∧ cn X w r.P (ag .u8 d) ∧ d.length = r.np ∧ r.np ≤ r.cp ∧ r.cp ≤ maxLen := by
  rcases vX with ⟨e, _⟩ | ⟨d', gp, op, e1, e2, e3, e4, e5, e6⟩
  ·cases e
  injection e1 with e1
  subst e1
  exact ⟨gp, op, e2, e3, e4, e5, e6⟩
 obtain ⟨Ct, Wh⟩ := ho.dt d ED
 have wg : (bq r b r.q b.st)[24]? = some (.slice r.E 0 r.ce) := by
  show some (Value.slice r.E r.ne r.ce) = _
  rw [fR]
 have vZ : (bq r b r.q b.st)[25]? = some (.slice (some ⟨gp, op, none⟩) 64 r.cp) := by
  show some (Value.slice r.P r.np r.cp) = _
  rw [hP, ← yP, Ct]
 have Cv : (bq r b r.q b.st)[0]? = some (.int .i64 b.first) := rfl
 have mB : (bq r b r.q b.st)[1]? = some (.int .i64 b.aa) := rfl
 have wh : (bq r b r.q b.st)[20]? = some (.int .i64 b.dst) := rfl
 have xO : (bq r b r.q b.st)[23]? = some (.int .i64 b.cH) := rfl
 obtain ⟨g1, ub⟩ := ex (bz g b.page d).1
 obtain ⟨k1, xv⟩ := ex (bz g b.page d).2
 have hQ : aK b g = if k1 ≠ 0 then ({ b with af := true }, g1, false, 20) else ({ b with data := none }, g1, !bO { b with data := none }, 0) := by
  rw [← xv, ← ub]
  exact DT hw.rd hw.br hE ED
 have Be := ho.dst
 have JR := hR.ok
 have lG := JR.b2
 have Ds := ho.fw
 have sU := ho.bk
 have nf := ho.page
 have Wa := ho.cH
 have Uf : b.length ≤ 8192 := Nat.le_trans ho.len (by rw [ho.bk]; exact ec JR ho.k8)
 obtain ⟨P0, JU⟩ := ex (cI b b.dst * g.pg)
 rw [JU] at Lp
 have jk : Hid (∀ W : World, Calls prog 28 #[.agg (xa x g), .int .i64 (b.first : Int), .int .i64 (b.aa : Int), .int .i64 (b.dst : Int)] W fun e w' => e = .returned (.int .i64 (P0 : Int)) ∧ bW W w') := fun W => by
  have := uQ hR b.k b.first b.dst ho.k8 Be oM (b.first : Int) (b.aa : Int) (b.dst : Int) rfl (by rw [sU]) rfl W
  rw [show (b.first + 2 + b.dst * b.k) * g.pg = P0 from JU] at this
  exact this
 have mz : Hid (∀ W : World, bW w W → w.heap.size + 4 ≤ W.heap.size → Calls prog 27 #[.agg (xa x g), .int .i64 (b.page : Int), .slice (some ⟨gp, op, none⟩) 64 r.cp] W fun e w' => ∃ y : Rc, e = .returned (.tuple #[.agg (xa y g1), .int .i64 k1]) ∧ cf (XF X w.heap.size 4) w' y g1 ∧ bW W w') := fun W hb hl => by
  have := ml (hR.xf hb 4) (XF.lt hX hl) (b.page : Int) (some ⟨gp, op, none⟩) 64 r.cp d (by rw [← hP]; exact (Dn.below hb).rd) Ct (by rw [← Ct, yP]; exact Wl) Wj Wh
  rw [ub, xv] at this
  exact this
 obtain ⟨r1, qR⟩ : ∃ r1 : Rb, { r with P := none, np := 0, cp := 0 } = r1 := ⟨_, rfl⟩
 have xA : Hid (∀ k, (Value.slice r1.E r1.ne r1.ce).ownBlock = some k → (Value.slice r.E r.ne r.ce).ownBlock = some k) := by
  rw [← qR]
  exact fun k hk => hk
 have Nt : Hid ((bq r b r.q b.st).setIfInBounds 25 (.slice none 0 0) = bq r1 b r1.q b.st) := by rw [← qR]; rfl
 have PF : Hid (∀ (V9 : World), bW w V9 → AA X B w.heap.size 4 V9 r1 { b with data := none } g.pg) := fun V9 hb => by
  refine AA.of (r := r1) (b := { b with data := none }) ?_ hb (fun k hk => zX k (xA k hk))
  rw [← qR]
  exact ⟨h.v, h.er, fun _ => .inl ⟨rfl, rfl, rfl, rfl⟩⟩
 have Bm : Hid (({ b with data := none } : Bk).af = false) := hw.br
 have HD := iD (fun w => fY r b x g w)
 rw [hw.rd, hw.br, kU] at HD
 obtain ⟨q, lk⟩ := ex (aK b g)
 rw [lk] at uV ⊢
 have iA := (gv b g).p
 rw [lk] at iA
 have Ju := iD uV
 have HX := iD hX
 have HH := iD h
 have zi := iD hR
 have gV := iD ho
 have Np := iD hw
 have rM : Hid (∀ (r : Rb) (q : Qv) (s : St), (bq r b q s).setIfInBounds 18 (.bool true) = bq r { b with af := true } q s) := fun r q s => rfl
 have uL : Hid (∀ (r : Rb) q s, (bq r b q s)[18]? = some (.bool b.af)) := fun _ _ _ => rfl
 rw [lk] at hQ
 have HQ := iD hQ
 have xg := iD wg
 have tx := iD vZ
 have DE := iD Cv
 have uq := iD mB
 have PQ := iD wh
 have Dj := iD xO
 obtain ⟨fd, Iv⟩ := ex b.cH
 obtain ⟨pn, zU⟩ := ex b.page
 rw [Iv] at Lp Wb Dj Wa
 rw [zU] at Lp mz nf
 have q1 : IntKind.i64.wrap ((fd : Int) - 1) = (fd : Int) - 1 := IntWalk.i64_in _ oM
 have q2 : ((fd : Int) - 1).tdiv 64 = (((fd - 1) / 64 : Nat) : Int) := by rw [Int.tdiv_eq_ediv_of_nonneg oM]; omega
 have q2' : ((fd : Int) - 1) / 64 = (((fd - 1) / 64 : Nat) : Int) := oM
 obtain ⟨pd, YM⟩ := ex ((fd - 1) / 64)
 rw [YM] at q2 q2' Lp
 have q3 : IntKind.i64.wrap ((P0 : Int) + (pd : Int)) = (pn : Int) := by rw [IntWalk.i64_in _ oM]; omega
 have q3' : IntKind.i64.wrap (pd : Int) = (pd : Int) := IntWalk.i64_in _ oM
 obtain ⟨W, hW⟩ := ex ((((w.alloc (.cells (bq r b r.q b.st) 45)).alloc (.cells (xa x g) 35)).alloc (.cells zB 45)).alloc (.cells zF 35))
 have H0 := iD (Fr.four hW)
 have Dr : ∀ V9 : World, (binOp .neq 32 (.slice (some ⟨gp, op, none⟩) 64 r.cp) (.slice none 0 0)).run prog V9 = .ok (.bool true) V9 := fun V9 => by kernel_rfl
 have FA := iD Dr
 clear Dr wg vZ Cv mB wh xO LF fR vX hP Dn yP Wl Wj Ct Wh qR hQ ub xv hX h hR ho hw lk uV hE zX ED Up JU Lp Iv zU YM sU Ds lG nf Wa Uf Wb Be
 go_enter func54, ntmps54
 go_upto_region 1 with (fail)
 try rw [hW]
 clear hW
 refine wp_region_list ?_
 refine jM H0.aC ?_
 refine xr H0.dL ?_
 refine cP (HD W) ?_
 rintro e v1 ⟨rfl, dB⟩
 have H2 := iD (H0.ab dB)
 clear dB
 refine rP ?_
 refine wV (.tuple #[.agg (bq r b r.q b.st), .bool false]) ?_
 refine wV (.agg (bq r b r.q b.st)) ?_
 refine wV (.bool false) ?_
 refine sP 0 H2 fun w3 _ H3 => ?_
 have d24 := H3.cell0 24 xg
 have d25 := H3.cell0 25 tx
 have Dr := FA w3
 go_upto_region 9 with (fail)
 clear d24 d25 Dr
 refine rG H3 20 fun H4 => ?_
 refine tM 0 _ rfl (jT (fun _ hS => hS.2) ((aQ x g))) H4.fN ?_
 refine tM 1 _ rfl (jT (fun _ hS => hS.2) ((aQ x g))) H4.fN ?_
 refine kP 2 w.heap.size 0 H4.fN ?_
 refine tM 3 _ rfl (yC fun _ hS => gH hS.1 DE) H4.fN ?_
 refine kP 4 w.heap.size 1 H4.fN ?_
 refine tM 5 _ rfl (yC fun _ hS => gH hS.1 uq) H4.fN ?_
 refine kP 6 w.heap.size 20 H4.fN ?_
 refine tM 7 _ rfl (yC fun _ hS => gH hS.1 PQ) H4.fN ?_
 refine kP 9 w.heap.size 23 H4.fN ?_
 refine tM 10 _ rfl (yC fun _ hS => gH hS.1 Dj) H4.fN ?_
 refine tK 11 (.int .i64 ((fd : Int) - 1)) H4.fN ?_
 refine tK 12 (.int .i64 ((pd : Int))) H4.fN ?_
 refine kP 14 w.heap.size 25 H4.fN ?_
 refine tM 15 _ rfl (yC fun _ hS => gH hS.1 tx) H4.fN ?_
 refine kI 8 (cW (jk _) ?_)
 rintro e v4 ⟨rfl, iT⟩
 have H5 := iD (H4.ab iT)
 clear iT
 refine rX H5.fN ?_
 refine tK 13 (.int .i64 ((pn : Int))) H5.fN ?_
 refine kI 16 (cW (mz _ H5.below (Fr.RS H5)) ?_)
 rintro e v5 ⟨y5, rfl, Gj, gD⟩
 have H6 := iD (H5.ab gD)
 have Xr := iD Gj
 clear gD Gj
 refine rX H6.fN ?_
 refine tK 17 (.tuple #[.agg (xa y5 g1), .int .i64 k1]) H6.fN ?_
 refine kA 18 (xa y5 g1) H6.fN ?_
 refine kN 19 (k1) H6.fN ?_
 refine kL (sW 1 H6 fun w7 o H7 => ?_)
 have aaZ := iD (Xr.ao (NX o))
 refine vN 21 (k1) trivial ?_
 refine wD ?_
 have d25 := H7.cell0 25 tx
 have f25 := H7.sZ 25
 have GM := iD (aaZ.ao (ah.set w7 ⟨w.heap.size, 25, none⟩ (.slice none 0 0) (pJ X _)))
 go_upto_region 13 with (fail)
 clear d25 f25
 have H8 := iD (H7.iC 25 (.slice none 0 0))
 rw [Nt] at H8
 generalize (w7.setCell ⟨w.heap.size, 25, none⟩ (.slice none 0 0)) = w8 at H8 GM ⊢
 have ov := iD (PF w8 H8.below)
 by_cases hk : k1 = 0
 rotate_left
 ·have hk' : (k1 != 0) = true := by simpa using hk
  have L8 := H8.cell0 18 (uL r1 r1.q b.st)
  have f18 := H8.sZ 18
  go_upto_region 15 with (fail)
  clear L8 f18
  have jY := iD ((ov.a.v).ao (ah.set w8 ⟨w.heap.size, 18, none⟩ (.bool true) (pJ X _)))
  have iG := iD (GM.ao (ah.set w8 ⟨w.heap.size, 18, none⟩ (.bool true) (pJ X _)))
  have H9 := iD (H8.iC 18 (.bool true))
  rw [rM r1 r1.q b.st] at H9
  generalize (w8.setCell ⟨w.heap.size, 18, none⟩ (.bool true)) = w9 at H9 jY iG ⊢
  refine rV H9 ?_
  exact fun _ o yd => (by rw [HQ, iP hk]; exact ⟨r1, y5, rfl, gP.dead ((jY.ao (o _)).cX (fun _ => .inl)) rfl, (iG.ao (o _)).cX (fun _ => .inl), xA, yd.below⟩)
 have hk' : (k1 != 0) = false := by simpa using hk
 subst hk
 rw [HQ, iN (by simp)] at Ju
 obtain ⟨j1, j2, j3⟩ := Ju Bm
 have jP := iD (fun w3 => mG ov.a Bm j1 j2 j3 w3)
 have ka : ba r1 { b with data := none } = bq r1 b r1.q b.st := rfl
 rw [ka] at jP
 clear ka
 obtain ⟨wb, zP⟩ := ex (bO { b with data := none })
 rw [zP] at jP
 have kZ := iD zP
 clear zP j1 j2 j3
 go_upto_region 16 with (fail)
 have AN := iD (ov.below fT)
 have tn := iD (GM.below fT)
 refine rF H8 fun H9 => ?_
 refine tL 0 _ rfl (iK (fun _ hS => hS.1) ((aY r1 b r1.q b.st))) H9.fN ?_
 refine tL 1 _ rfl (jT (fun _ hS => hS.2) ((aQ y5 g1))) H9.fN ?_
 refine tL 2 _ rfl (iK (fun _ hS => hS.1) ((aY r1 b r1.q b.st))) H9.fN ?_
 refine wI 3 (cW (jP _) ?_)
 rintro e tC ⟨rfl, jq⟩
 have nk := iD (H9.ab jq)
 have AM := iD (AN.below jq)
 have uF := iD (tn.below jq)
 clear jq
 refine rW nk.fN ?_
 refine tV 4 (.bool (!wb)) nk.fN ?_
 refine rY nk ?_
 exact fun _ o yd => (by rw [HQ, iN (by simp), kZ]; exact ⟨r1, y5, rfl, (AM.ao (o _)).fin, (uF.ao (o _)).cX (fun _ => .inl), xA, yd.below⟩)
theorem NM (h : gP X B w r b g.pg) (hR : cf X w x g) (hX : ∀ b, X b → b < w.heap.size) (ho : bS g b) (hw : Wk g b) (uV : (aK b g).1.af = false → (aK b g).1.st.af = false ∧ (aK b g).1.bh = (aK b g).1.st.bt ∧ bD (aK b g).2.1 (aK b g).1.st) (zX : ∀ k, (Value.slice r.E r.ne r.ce).ownBlock = some k → k < w.heap.size) (hE : b.erase = []) (ED : b.data = none) (QB : b.bh = true) :
 Calls prog 54 #[.agg (bq r b r.q b.st), .agg (xa x g)] w (rE X B w r g.pg (aK b g).1 (aK b g).2.1 (.bool (aK b g).2.2.1) (aK b g).2.2.2) := by
 obtain ⟨-, LF⟩ := h.er hw.br
 rw [hE] at LF
 have fR : r.ne = 0 := LF.symm
 have vX := h.dt hw.br
 rw [ED] at vX
 obtain ⟨hP, yP, zY⟩ : r.P = none ∧ r.np = 0 ∧ r.cp = 0 := by
  rcases vX with ⟨_, e2, e3, e4⟩ | ⟨d', gp, op, e1, _⟩
  ·exact ⟨e2, e3, e4⟩
  cases e1
 have wg : (bq r b r.q b.st)[24]? = some (.slice r.E 0 r.ce) := by
  show some (Value.slice r.E r.ne r.ce) = _
  rw [fR]
 have vZ : (bq r b r.q b.st)[25]? = some (.slice none 0 0) := by
  show some (Value.slice r.P r.np r.cp) = _
  rw [hP, yP, zY]
 have Ix : (bq r b r.q b.st)[11]? = some (.slice r.q.Q5 r.q.n5 r.q.c5) := rfl
 have nS := hw.rc
 rw [QB] at nS
 have JN : 0 < r.q.n5 := by
  have h1 := (h.v.wr hw.sb nS.symm).pl
  have h2 := ho.ok.dn nS.symm hw.sb
  have h3 := ho.ok.pl nS.symm
  rw [List.length_drop] at h1
  omega
 obtain ⟨⟨s1, g1, dn, k1⟩, dV⟩ := ex (aI b.st g)
 have hQ : aK b g = if k1 ≠ 0 then ({ b with st := s1, af := true }, g1, false, 20) else ({ b with st := s1, bh := !dn }, g1, dn, 0) := by
  rw [He hw.rd hw.br hE ED QB, dV]
 have eW : Hid (∀ W : World, bW w W → w.heap.size + 4 ≤ W.heap.size → Calls prog 84 #[.agg (sa r.q b.st), .agg (xa x g)] W fun e w' => ∃ (q' : Qv) (y : Rc), e = .returned (.tuple #[.agg (sa q' s1), .agg (xa y g1), .bool dn, .int .i64 k1]) ∧ ic (XF X w.heap.size 4) w' q' s1 g.pg ∧ cf (XF X w.heap.size 4) w' y g1 ∧ bW W w') := fun W hb hl => by
  have := Rw (h.v.xf hb 4) (hR.xf hb 4) ho.ok (XF.lt hX hl)
  rw [dV] at this
  exact this
 have Bm : Hid (({ b with st := s1, bh := !dn } : Bk).af = false) := hw.br
 have xA : Hid (∀ k, (Value.slice r.E r.ne r.ce).ownBlock = some k → (Value.slice r.E r.ne r.ce).ownBlock = some k) := fun k hk => hk
 have DD : Hid (dn = !bO { b with st := s1, bh := !dn }) := by
  rw [Hid]
  unfold bO
  rw [hE, ED]
  simp
 have PL := iD zX
 have n5 : (0 : Int) < (r.q.n5 : Int) := oM
 have HD := iD (fun w => fY r b x g w)
 rw [hw.rd, hw.br, kU] at HD
 obtain ⟨q, lk⟩ := ex (aK b g)
 rw [lk] at uV ⊢
 have iA := (gv b g).p
 rw [lk] at iA
 have Ju := iD uV
 have HX := iD hX
 have HH := iD h
 have zi := iD hR
 have gV := iD ho
 have Np := iD hw
 have rM : Hid (∀ (r : Rb) (q : Qv) (s : St), (bq r b q s).setIfInBounds 18 (.bool true) = bq r { b with af := true } q s) := fun r q s => rfl
 have uL : Hid (∀ (r : Rb) q s, (bq r b q s)[18]? = some (.bool b.af)) := fun _ _ _ => rfl
 rw [lk] at hQ
 have HQ := iD hQ
 have xg := iD wg
 have tx := iD vZ
 have TE := iD Ix
 obtain ⟨W, hW⟩ := ex ((((w.alloc (.cells (bq r b r.q b.st) 45)).alloc (.cells (xa x g) 35)).alloc (.cells zB 45)).alloc (.cells zF 35))
 have H0 := iD (Fr.four hW)
 have Dr : ∀ V9 : World, (binOp .neq 32 (.slice none 0 0) (.slice none 0 0)).run prog V9 = .ok (.bool false) V9 := fun V9 => by kernel_rfl
 have FA := iD Dr
 clear dV Dr wg vZ Ix LF fR vX hP yP zY hQ hX h hR ho hw lk uV hE ED QB nS JN zX
 go_enter func54, ntmps54
 go_upto_region 1 with (fail)
 try rw [hW]
 clear hW
 refine wp_region_list ?_
 refine jM H0.aC ?_
 refine xr H0.dL ?_
 refine cP (HD W) ?_
 rintro e v1 ⟨rfl, dB⟩
 have H2 := iD (H0.ab dB)
 clear dB
 refine rP ?_
 refine wV (.tuple #[.agg (bq r b r.q b.st), .bool false]) ?_
 refine wV (.agg (bq r b r.q b.st)) ?_
 refine wV (.bool false) ?_
 refine sP 0 H2 fun w3 _ H3 => ?_
 have d24 := H3.cell0 24 xg
 have d25 := H3.cell0 25 tx
 have d11 := H3.cell0 11 TE
 have Dr := FA w3
 go_upto_region 12 with (fail)
 clear d24 d25 d11 Dr
 refine wp_region_list ?_
 refine wV (.pointer (some ⟨w.heap.size, 2, none⟩)) ?_
 refine Ig rfl _ rfl w.heap.size rfl (bq r b r.q b.st) (sa r.q b.st) H3.aC (CV r b r.q b.st) (cD r.q b.st) ?_
 refine xr H3.dL ?_
 refine cP (eW w3 H3.below (Fr.RS H3)) ?_
 rintro e v5 ⟨q1, y5, rfl, Vx, Gj, gD⟩
 have H4 := iD (H3.ab gD)
 have o7 := iD Vx
 have Xr := iD Gj
 clear Vx Gj gD
 refine rP ?_
 refine wV (.tuple #[.agg (sa q1 s1), .agg (xa y5 g1), .bool dn, .int .i64 k1]) ?_
 refine wV (.agg (sa q1 s1)) ?_
 refine wV (.agg (xa y5 g1)) ?_
 refine wV (.bool dn) ?_
 refine wV (.int .i64 k1) ?_
 refine wV (.pointer (some ⟨w.heap.size, 2, none⟩)) ?_
 refine Hf rfl _ _ rfl rfl w.heap.size (sa q1 s1) rfl rfl _ (bq r b q1 s1) H4.aC (cD q1 s1) (aY r b r.q b.st) (gK q1 s1) (wR r b r.q q1 b.st s1) ?_
 have H5 := iD (H4.BL (bq r b q1 s1))
 have Xw := iD (o7.ao (ah.row v5 w.heap.size (bq r b q1 s1) (pJ _ _)))
 have Xq := iD (Xr.ao (ah.row v5 w.heap.size (bq r b q1 s1) (pJ _ _)))
 generalize v5.setRow w.heap.size (bq r b q1 s1) = w5 at H5 Xw Xq ⊢
 refine sP 1 H5 fun w6 o H6 => ?_
 have aa1 := iD (Xw.ao (NX o))
 have Pp := iD (Xq.ao (NX o))
 have ov : Hid (AA X B w.heap.size 4 w6 { r with q := q1 } { b with st := s1, bh := !dn } g.pg) := ⟨⟨aa1, (AA.of (k := 4) HH H6.below PL).a.er, (AA.of (k := 4) HH H6.below PL).a.dt⟩, PL⟩
 by_cases hk : k1 = 0
 rotate_left
 ·have hk' : (k1 != 0) = true := by simpa using hk
  have L8 := H6.cell0 18 (uL r q1 s1)
  have f18 := H6.sZ 18
  go_upto_region 15 with (fail)
  clear L8 f18
  have jY := iD ((ov.a.v).ao (ah.set w6 ⟨w.heap.size, 18, none⟩ (.bool true) (pJ X _)))
  have iG := iD (Pp.ao (ah.set w6 ⟨w.heap.size, 18, none⟩ (.bool true) (pJ X _)))
  have H7 := iD (H6.iC 18 (.bool true))
  rw [rM r q1 s1] at H7
  generalize (w6.setCell ⟨w.heap.size, 18, none⟩ (.bool true)) = w7 at H7 jY iG ⊢
  refine rV H7 ?_
  exact fun _ o nk => (by rw [HQ, iP hk]; exact ⟨{ r with q := q1 }, y5, rfl, gP.dead ((jY.ao (o _)).cX (fun _ => .inl)) rfl, (iG.ao (o _)).cX (fun _ => .inl), xA, nk.below⟩)
 have hk' : (k1 != 0) = false := by simpa using hk
 subst hk
 rw [HQ, iN (by simp)] at Ju
 obtain ⟨j1, j2, j3⟩ := Ju Bm
 have jP := iD (fun w3 => mG ov.a Bm j1 j2 j3 w3)
 have ka : ba { r with q := q1 } { b with st := s1, bh := !dn } = bq r b q1 s1 := rfl
 rw [ka] at jP
 clear ka
 obtain ⟨wb, zP⟩ := ex (bO { b with st := s1, bh := !dn })
 rw [zP] at jP
 have kZ := iD zP
 clear zP j1 j2 j3
 go_upto_region 16 with (fail)
 have AN := iD (ov.below fT)
 have tn := iD (Pp.below fT)
 refine rF H6 fun H7 => ?_
 refine tL 0 _ rfl (iK (fun _ hS => hS.1) ((aY r b q1 s1))) H7.fN ?_
 refine tL 1 _ rfl (jT (fun _ hS => hS.2) ((aQ y5 g1))) H7.fN ?_
 refine tL 2 _ rfl (iK (fun _ hS => hS.1) ((aY r b q1 s1))) H7.fN ?_
 refine wI 3 (cW (jP _) ?_)
 rintro e tC ⟨rfl, jq⟩
 have H8 := iD (H7.ab jq)
 have AM := iD (AN.below jq)
 have uF := iD (tn.below jq)
 clear jq
 refine rW H8.fN ?_
 refine tV 4 (.bool (!wb)) H8.fN ?_
 refine rY H8 ?_
 exact fun _ o nk => (by rw [HQ, iN (by simp)]; exact ⟨{ r with q := q1 }, y5, (by rw [← kZ, ← DD] <;> rfl), (AM.ao (o _)).fin, (uF.ao (o _)).cX (fun _ => .inl), xA, nk.below⟩)
theorem NL (h : gP X B w r b g.pg) (hR : cf X w x g) (hX : ∀ b, X b → b < w.heap.size) (ho : bS g b) (hw : Wk g b) (uV : (aK b g).1.af = false → (aK b g).1.st.af = false ∧ (aK b g).1.bh = (aK b g).1.st.bt ∧ bD (aK b g).2.1 (aK b g).1.st) (zX : ∀ k, (Value.slice r.E r.ne r.ce).ownBlock = some k → k < w.heap.size) (hE : b.erase = []) (ED : b.data = none) (QB : b.bh = false) :
 Calls prog 54 #[.agg (bq r b r.q b.st), .agg (xa x g)] w (rE X B w r g.pg (aK b g).1 (aK b g).2.1 (.bool (aK b g).2.2.1) (aK b g).2.2.2) := by
 obtain ⟨-, LF⟩ := h.er hw.br
 rw [hE] at LF
 have fR : r.ne = 0 := LF.symm
 have vX := h.dt hw.br
 rw [ED] at vX
 obtain ⟨hP, yP, zY⟩ : r.P = none ∧ r.np = 0 ∧ r.cp = 0 := by
  rcases vX with ⟨_, e2, e3, e4⟩ | ⟨d', gp, op, e1, _⟩
  ·exact ⟨e2, e3, e4⟩
  cases e1
 have wg : (bq r b r.q b.st)[24]? = some (.slice r.E 0 r.ce) := by
  show some (Value.slice r.E r.ne r.ce) = _
  rw [fR]
 have vZ : (bq r b r.q b.st)[25]? = some (.slice none 0 0) := by
  show some (Value.slice r.P r.np r.cp) = _
  rw [hP, yP, zY]
 have Ix : (bq r b r.q b.st)[11]? = some (.slice r.q.Q5 r.q.n5 r.q.c5) := rfl
 have nS := hw.rc
 rw [QB] at nS
 have JN : r.q.n5 = 0 := h.v.no hw.sb nS.symm
 have hQ : aK b g = (b, g, true, 0) := by
  unfold aK
  rw [hw.rd, iN (by rw [hw.br]; decide), hE, ED, QB]
  rfl
 have xA : Hid (∀ k, (Value.slice r.E r.ne r.ce).ownBlock = some k → (Value.slice r.E r.ne r.ce).ownBlock = some k) := fun k hk => hk
 have PF : Hid (∀ (V9 : World), bW w V9 → AA X B w.heap.size 4 V9 r b g.pg) := fun V9 hb => AA.of h hb zX
 have Bm : Hid (b.af = false) := hw.br
 have DD : Hid (true = !bO b) := by
  rw [Hid]
  unfold bO
  rw [hE, ED, QB]
  rfl
 rw [JN] at Ix
 have HD := iD (fun w => fY r b x g w)
 rw [hw.rd, hw.br, kU] at HD
 obtain ⟨q, lk⟩ := ex (aK b g)
 rw [lk] at uV ⊢
 have iA := (gv b g).p
 rw [lk] at iA
 have Ju := iD uV
 have HX := iD hX
 have HH := iD h
 have zi := iD hR
 have gV := iD ho
 have Np := iD hw
 have rM : Hid (∀ (r : Rb) (q : Qv) (s : St), (bq r b q s).setIfInBounds 18 (.bool true) = bq r { b with af := true } q s) := fun r q s => rfl
 have uL : Hid (∀ (r : Rb) q s, (bq r b q s)[18]? = some (.bool b.af)) := fun _ _ _ => rfl
 rw [lk] at hQ
 have HQ := iD hQ
 have xg := iD wg
 have tx := iD vZ
 have TE := iD Ix
 obtain ⟨W, hW⟩ := ex ((((w.alloc (.cells (bq r b r.q b.st) 45)).alloc (.cells (xa x g) 35)).alloc (.cells zB 45)).alloc (.cells zF 35))
 have H0 := iD (Fr.four hW)
 have Dr : ∀ V9 : World, (binOp .neq 32 (.slice none 0 0) (.slice none 0 0)).run prog V9 = .ok (.bool false) V9 := fun V9 => by kernel_rfl
 have FA := iD Dr
 clear Dr wg vZ Ix LF fR vX hP yP zY hQ hX h hR ho hw lk uV hE ED QB nS JN zX
 go_enter func54, ntmps54
 go_upto_region 1 with (fail)
 try rw [hW]
 clear hW
 refine wp_region_list ?_
 refine jM H0.aC ?_
 refine xr H0.dL ?_
 refine cP (HD W) ?_
 rintro e v1 ⟨rfl, dB⟩
 have H2 := iD (H0.ab dB)
 clear dB
 refine rP ?_
 refine wV (.tuple #[.agg (bq r b r.q b.st), .bool false]) ?_
 refine wV (.agg (bq r b r.q b.st)) ?_
 refine wV (.bool false) ?_
 refine sP 0 H2 fun w3 _ H3 => ?_
 have d24 := H3.cell0 24 xg
 have d25 := H3.cell0 25 tx
 have d11 := H3.cell0 11 TE
 have Dr := FA w3
 have ov := iD (PF w3 H3.below)
 have GM := iD (zi.xf H3.below 4)
 rw [HQ] at Ju
 obtain ⟨j1, j2, j3⟩ := Ju Bm
 have jP := iD (fun w3 => mG ov.a Bm j1 j2 j3 w3)
 have ka : ba r b = bq r b r.q b.st := rfl
 rw [ka] at jP
 clear ka
 obtain ⟨wb, zP⟩ := ex (bO b)
 rw [zP] at jP
 have kZ := iD zP
 clear zP j1 j2 j3
 go_upto_region 16 with (fail)
 clear d24 d25 d11 Dr
 have AN := iD (ov.below fT)
 have tn := iD (GM.below fT)
 refine rF H3 fun H4 => ?_
 refine tL 0 _ rfl (iK (fun _ hS => hS.1) ((aY r b r.q b.st))) H4.fN ?_
 refine tL 1 _ rfl (jT (fun _ hS => hS.2) ((aQ x g))) H4.fN ?_
 refine tL 2 _ rfl (iK (fun _ hS => hS.1) ((aY r b r.q b.st))) H4.fN ?_
 refine wI 3 (cW (jP _) ?_)
 rintro e tC ⟨rfl, jq⟩
 have H5 := iD (H4.ab jq)
 have AM := iD (AN.below jq)
 have uF := iD (tn.below jq)
 clear jq
 refine rW H5.fN ?_
 refine tV 4 (.bool (!wb)) H5.fN ?_
 refine rY H5 ?_
 exact fun _ o H7 => (by rw [HQ, DD, kZ]; exact ⟨r, x, rfl, (AM.ao (o _)).fin, (uF.ao (o _)).cX (fun _ => .inl), xA, H7.below⟩)
theorem Ha (h : gP X B w r b g.pg) (hR : cf X w x g) (hX : ∀ b, X b → b < w.heap.size) (ho : bS g b) (hw : Wk g b) (Up : uu g.pg b) (uV : (aK b g).1.af = false → (aK b g).1.st.af = false ∧ (aK b g).1.bh = (aK b g).1.st.bt ∧ bD (aK b g).2.1 (aK b g).1.st) (zX : ∀ k, (Value.slice r.E r.ne r.ce).ownBlock = some k → k < w.heap.size) :
 Calls prog 54 #[.agg (bq r b r.q b.st), .agg (xa x g)] w (rE X B w r g.pg (aK b g).1 (aK b g).2.1 (.bool (aK b g).2.2.1) (aK b g).2.2.2) := by
 cases hE : b.erase with
 | cons e0 l => exact NO h hR hX ho hw uV zX e0 l hE
 | nil =>
  cases hD : b.data with
  | some d => exact NN h hR hX ho hw uV zX d hE hD Up
  | none =>
   cases Gy : b.bh with
   | true => exact NM h hR hX ho hw uV zX hE hD Gy
   | false => exact NL h hR hX ho hw uV zX hE hD Gy
theorem Ks {n : Int} (h : gP X B w r b g.pg) (hR : cf X w x g) (hX : ∀ b, X b → b < w.heap.size) (ho : bS g b) (Up : uu g.pg b) (hJ : b.af = false → jJ g b n) (zX : ∀ k, (Value.slice r.E r.ne r.ce).ownBlock = some k → k < w.heap.size) :
 Calls prog 54 #[.agg (ba r b), .agg (xa x g)] w (rE X B w r g.pg (aK b g).1 (aK b g).2.1 (.bool (aK b g).2.2.1) (aK b g).2.2.2) := by
 by_cases hz : (ar b g).af = true
 ·refine (Hb r b x g hz w).mono ?_
  rintro e w' ⟨he, hb⟩
  have : aK b g = (ar b g, g, false, 20) := by unfold aK; rw [iP hz]
  rw [this]
  exact rE.same (h.fk g) hR hb he
 have hw := Wk.of hz hJ
 refine Ha h hR hX ho hw Up (fun hb => ?_) zX
 have uV := FQ (hJ hw.br)
 obtain ⟨h1, h2⟩ := uV.lv hb (uV.dn hb)
 exact ⟨h1.br, h2, h1.ok⟩
structure Gr (N : Nat) (wr : World) (l : List (Array Value × TypeId)) : Prop where
 len : N + l.length ≤ wr.heap.size
 row : ∀ i C t, l[i]? = some (C, t) → wr.heap[N + i]? = some (.cells C t (0, 0))
section
variable {N : Nat} {w wr w' : World} {l : List (Array Value × TypeId)} {C : Array Value} {t : TypeId}
theorem Fr.gr (h : Fr w wr l) : Gr w.heap.size wr l := ⟨h.len, h.row⟩
theorem Gr.lt (h : Gr N wr l) (hi : l[i]? = some (C, t)) : N + i < wr.heap.size := (Array.getElem?_eq_some_iff.1 (h.row i C t hi)).1
theorem Gr.ab (h : Gr N wr l) (hb : bW wr w') : Gr N w' l :=
 ⟨Nat.le_trans h.len hb.size, fun i C t hi => (hb.block _ (h.lt hi)).trans (h.row i C t hi)⟩
theorem Gr.ao (h : Gr N wr l) (hb : ah Y wr w') (hY : ∀ i, i < l.length → ¬ Y (N + i)) : Gr N w' l :=
 ⟨Nat.le_trans h.len hb.size, fun i C t hi => (hb.block _ (h.lt hi) (hY i (List.getElem?_eq_some_iff.1 hi).1)).trans (h.row i C t hi)⟩
theorem Gr.put (h : Gr N wr l) (i : Nat) (C : Array Value) {D : Array Value} (hi : l[i]? = some (D, t)) {l' : List (Array Value × TypeId)} (hl : l.set i (C, t) = l') : Gr N (wr.setRow (N + i) C) l' := by
 subst hl
 refine ⟨by rw [List.length_set, size_setRow]; exact h.len, fun j E u hj => ?_⟩
 rw [List.getElem?_set] at hj
 by_cases hij : i = j
 ·subst hij
  rw [iP rfl, iP (List.getElem?_eq_some_iff.1 hi).1] at hj
  simp only [Option.some.injEq, Prod.mk.injEq] at hj
  obtain ⟨rfl, rfl⟩ := hj
  exact setRow_heap _ _ D _ t _ (h.row i D t hi)
 rw [iN hij] at hj
 rw [setRow_other _ _ _ _ oM]
 exact h.row j E u hj
theorem Gr.set (h : Gr N wr l) (i j : Nat) (hi : l[i]? = some (C, t)) (v : Value) {l' : List (Array Value × TypeId)} (hl : l.set i (C.setIfInBounds j v, t) = l') : Gr N (wr.setCell ⟨N + i, j, none⟩ v) l' := by
 rw [lz (h.row i C t hi)]
 exact h.put i _ hi hl
theorem Gr.aC (h : Gr N wr ((C, t)::l)) : wr.heap[N]? = some (.cells C t (0, 0)) := h.row 0 C t rfl
theorem Gr.cell0 (h : Gr N wr ((C, t)::l)) (j : Nat) (hj : C[j]? = some v) : wr.cell? ⟨N, j, none⟩ = some v := (cell_of_row wr _ j C t (0, 0) (h.aC)).trans hj
theorem Gr.sZ (h : Gr N wr ((C, t)::l)) (j : Nat) : wr.frozen? ⟨N, j, none⟩ = false := frozen_of_row wr _ j C t h.aC
theorem Gr.iC (h : Gr N wr ((C, t)::l)) (j : Nat) (v : Value) : Gr N (wr.setCell ⟨N, j, none⟩ v) ((C.setIfInBounds j v, t)::l) := h.set 0 j (t := t) rfl v rfl
theorem Gr.dL {x0 : Array Value × TypeId} (h : Gr N wr (x0::(C, t)::l)) : wr.heap[N + 1]? = some (.cells C t (0, 0)) := h.row 1 C t rfl
theorem Gr.eT {x0 x1 : Array Value × TypeId} (h : Gr N wr (x0::x1::(C, t)::l)) : wr.heap[N + 2]? = some (.cells C t (0, 0)) := h.row 2 C t rfl
theorem Gr.NU {x0 x1 : Array Value × TypeId} (h : Gr N wr (x0::x1::(C, t)::l)) (D : Array Value) : Gr N (wr.setRow (N + 2) D) (x0::x1::(D, t)::l) := h.put 2 D (t := t) rfl rfl
end
section
variable {ops : Array Oper} {Q : Exit → Go.Act → World → Prop} {i : Nat} {oi : Oper} {a : Go.Act} {w : World} {K : Go.Act → World → Prop}
theorem EX (hi : ops[i]? = some oi) (wi : Region.wanted oi (yielded ops a.tmps) = true) (x : Operand) (ho : oi.op = .buildSlice 33 1 #[(0, x)]) (z : Int) (hx : a.eval x = .int .i64 z) (h : K (a.put oi.dst (.slice (some ⟨w.heap.size, 0, none⟩) 1 1)) (w.alloc (.cells #[.int .i64 z] 3))) : wpOp prog ops Q i K a w := by
 refine wpOp_step hi (fun K' hK => ?_)
 rw [iP wi]
 obtain ⟨i3, vU, kE, jN, lh⟩ := info_parts mq
 refine wp_buildSlice 33 3 1 _ ho #[.int .i64 z] i3 (.int .i64 0) underlying33 vU kE (by rw [jN]; decide) (by rw [jN]; decide) ?_ (hK _ _ h)
 rw [jN]
 simp only [List.map_toArray, List.map_cons, List.map_nil, hx]
 simp [Instr.fill, Value.cells, show Array.range 1 = #[0] from rfl]
theorem Ak {P : Program} (hi : ops[i]? = some oi) (wi : Region.wanted oi (yielded ops a.tmps) = true) (s xo : Operand) (t : TypeId) (ho : oi.op = .call { callee := .builtin .append, args := #[s, xo], argTypes := #[t, t] }) 
 (B : Nat) (e : TypeId) (ie : TypeInfo) (z : Value) (ht : P.underlying t = some (.slice e)) (hie : P.info? e = some ie) (hz : ie.zero = some z)
 (gJ : ie.size = 1) (uc : ie.bytes = 8) (Cd : z.cells.size = 1)
 (v : Value) (q : List Int) (hs : a.eval s = v) (hq : QS w e B v q) (x : Int) (ad : Addr) (c : Nat) (T7 : a.eval xo = .slice (some ad) 1 c) (hx : w.cell? ad = some (.int .i64 x))
 (hl : q.length + 1 ≤ 1000000000) (hB : B ≤ w.heap.size)
 (h : ∀ v' w', QS w' e B v' (q ++ [x]) → w.grownBy w' v.ownBlock → (v'.ownBlock = v.ownBlock ∨ v'.ownBlock = some w.heap.size) → K (a.put oi.dst v') w') : wpOp P ops Q i K a w := by
 refine wpOp_step hi (fun K' hK => ?_)
 rw [iP wi]
 obtain ⟨v', w', nP, h2, h3, h4⟩ := py (P := P) w B t oi.type e ie z ht hie hz gJ uc Cd v q hq x ad c hx hl hB
 unfold Oper.wp execOp
 simp only [ho, resolve, invoke, builtin, Sem.run_bind, Sem.run_pure, Result.andThen_ok, List.map_toArray, List.map_cons, List.map_nil, hs, T7, nP]
 exact hK _ _ (h v' w' h2 h3 h4)
theorem IY (hi : ops[i]? = some oi) (wi : Region.wanted oi (yielded ops a.tmps) = true) (di : oi.dst = none) (x y : Operand) (ho : oi.op = .store 33 x y) (p : Addr) (A : Option Addr) (n c : Nat) (dX : Value) (hx : a.eval x = .pointer (some p)) (hy : a.eval y = .slice A n c) (hc : w.cell? p = some dX) (hf : w.frozen? p = false) (h : K a (w.setCell p (.slice A n c))) : wpOp prog ops Q i K a w := by
 refine wpOp_step hi (fun K' hK => ?_)
 rw [iP wi]
 have fB : (storeVar 33 p (.slice A n c)).run prog w = .ok () (w.setCell p (.slice A n c)) := by
  go_simp
 unfold Oper.wp execOp
 simp only [ho, hx, hy, Instr.storeAt, Instr.sureAddr, Sem.run_bind, Sem.run_pure, Result.andThen_ok, fB]
 refine hK _ _ ?_
 rw [di]
 exact h
end
def tm (X : Nat → Prop) (B : Nat) (w : World) (r : Rb) (g : Fl) (q : Bk × Int) (e : Ending) (w' : World) : Prop :=
 ∃ r' : Rb, e = .returned (.tuple #[.agg (ba r' q.1), .int .i64 q.2]) ∧ gP X B w' r' q.1 g.pg ∧ (∀ k, (Value.slice r'.E r'.ne r'.ce).ownBlock = some k → (Value.slice r.E r.ne r.ce).ownBlock = some k ∨ (w.heap.size ≤ k ∧ k < w'.heap.size)) ∧ ah (fun k => (Value.slice r.E r.ne r.ce).ownBlock = some k) w w' ∧ Below B w w'
theorem tm.same (h : gP X B w r b g.pg) (hB : B ≤ w.heap.size) (hb : bW w w') (k : Int) {e : Ending} (he : e = .returned (.tuple #[.agg (ba r b), .int .i64 k])) : tm X B w r g (b, k) e w' := ⟨r, he, h.below hb, fun _ hk => .inl hk, .ak hb, hb.mono hB⟩
theorem ah.step {E : Nat → Prop} {a b : World} (h : ah E w a) (k : ah Y a b) (hY : ∀ g, g < w.heap.size → Y g → E g) : ah E w b :=
 ⟨Nat.le_trans h.size k.size, fun i hi hx => (k.block i (Nat.lt_of_lt_of_le hi h.size) (fun y => hx (hY i hi y))).trans (h.block i hi hx)⟩
structure Qg (B : Nat) (w wr : World) (r : Rb) (A : Option Addr) (j cc : Nat) (l : List Int) : Prop where
 only : ah (fun k => (Value.slice r.E r.ne r.ce).ownBlock = some k) w wr
 below : Below B w wr
 q : QS wr 3 B (.slice A j cc) l
 gh : ∀ k, (Value.slice A j cc).ownBlock = some k → (Value.slice r.E r.ne r.ce).ownBlock = some k ∨ w.heap.size + 3 ≤ k
 dX : ∀ k, (Value.slice r.E r.ne r.ce).ownBlock = some k → k < w.heap.size
 hB : B ≤ w.heap.size
section
variable {B : Nat} {w wr w' : World} {r : Rb} {A : Option Addr} {j cc : Nat} {l : List Int}
theorem Qg.ab (h : Qg B w wr r A j cc l) (hb : bW wr w') : Qg B w w' r A j cc l :=
 ⟨h.only.step (Y := fun _ => False) (.ak hb) (fun _ _ => False.elim), h.below.trans (hb.mono (Nat.le_trans h.hB h.only.size)), h.q.block (fun g hg => hb.block g (h.q.lt hg).2), h.gh, h.dX, h.hB⟩
theorem Qg.ne (h : Qg B w wr r A j cc l) (hi : i < 3) (hk : (Value.slice A j cc).ownBlock = some (w.heap.size + i)) : False := by
 rcases h.gh _ hk with h1 | h1
 ·have := h.dX _ h1
  omega
 omega
theorem Qg.eT (h : Qg B w wr r A j cc l) (C : Array Value) : Qg B w (wr.setRow (w.heap.size + 2) C) r A j cc l := by
 have ho : ah (fun g => g = w.heap.size + 2) wr (wr.setRow (w.heap.size + 2) C) := ah.row wr (w.heap.size + 2) C rfl
 refine ⟨h.only.step ho (fun g hg e => oM), below_setRow h.below (by have := h.hB; omega) _, h.q.block (fun g hg => ho.block g (h.q.lt hg).2 (fun e => ?_)), h.gh, h.dX, h.hB⟩
 subst e
 exact h.ne (i := 2) oM hg
theorem Qg.append (h : Qg B w wr r A j cc l) {w8 : World} {A8 : Option Addr} {j8 E8 : Nat} {l8 : List Int} (hq : QS w8 3 B (.slice A8 j8 E8) l8) (hg : wr.grownBy w8 (Value.slice A j cc).ownBlock) (hv : (Value.slice A8 j8 E8).ownBlock = (Value.slice A j cc).ownBlock ∨ (Value.slice A8 j8 E8).ownBlock = some wr.heap.size) (hl : w.heap.size + 3 ≤ wr.heap.size) (v : Value) :
 ah (fun k => (Value.slice A j cc).ownBlock = some k) wr w8 ∧ Qg B w (w8.setCell ⟨w.heap.size, 24, none⟩ v) r A8 j8 E8 l8 := by
 have iF : ah (fun k => (Value.slice A j cc).ownBlock = some k) wr w8 := ⟨hg.size, fun k hk hn => hg.block k hk (fun e => hn e.symm)⟩
 have kd : ah (fun g => g = w.heap.size) w8 (w8.setCell ⟨w.heap.size, 24, none⟩ v) := .set w8 ⟨w.heap.size, 24, none⟩ v rfl
 have kH : ∀ k, (Value.slice A8 j8 E8).ownBlock = some k → (Value.slice r.E r.ne r.ce).ownBlock = some k ∨ w.heap.size + 3 ≤ k := fun k hk => by
  rcases hv with e | e
  ·exact h.gh k (e ▸ hk)
  rw [e] at hk
  injection hk with hk
  subst hk
  exact .inr hl
 refine ⟨iF, (h.only.step iF (fun g hg hy => (h.gh g hy).elim id (fun e => oM))).step kd (fun g hg e => oM), (h.below.grown hg (Nat.le_trans h.hB h.only.size) (fun k hk => (h.q.lt hk).1)).setCell (p := ⟨w.heap.size, 24, none⟩) h.hB v, hq.block (fun g YT => kd.block g (hq.lt YT).2 (fun e => ?_)), kH, h.dX, h.hB⟩
 subst e
 rcases kH _ YT with h1 | h1
 ·have := h.dX _ h1
  omega
 omega
theorem gP.Z0 {b' : Bk} (h : gP X B w r b p) (hg : Qg B w wr r A j cc l) (hX : ∀ k, (Value.slice r.E r.ne r.ce).ownBlock = some k → X k) (hl : b'.erase = l) (hj : l.length = j) (hs : b'.st = b.st) (hd : b'.data = b.data) (hb : b'.af = false → b.af = false) : gP X B wr { r with E := A, ne := j, ce := cc } b' p :=
 ⟨by rw [hs]; exact h.v.ao (hg.only.more hX), fun e => by rw [hl]; exact ⟨hg.q, hj⟩, fun e => by
  rw [hd]
  rcases h.dt (hb e) with h1 | ⟨d, g, o, h1, h2, h3, h4⟩
  ·exact .inl h1
  exact .inr ⟨d, g, o, h1, h2, h3.ao (hg.only.more hX), h4⟩⟩
end
theorem Fe (r : Rb) (b : Bk) (x : Rc) (g : Fl) (hz : (ar b g).af = true) (v n : Int) (w : World) :
 Calls prog 37 #[.agg (ba r b), .agg (xa x g), .int .i64 v, .int .i64 n] w fun e w' => e = .returned (.tuple #[.agg (ba r (ar b g)), .int .i64 20]) ∧ bW w w' := by
 obtain ⟨C, hC⟩ := ex (ba r b)
 obtain ⟨F, hF⟩ := ex (xa x g)
 obtain ⟨C1, jg⟩ := ex (ba r (ar b g))
 have HD := iD (fun w => fY r b x g w)
 rw [hC, hF, jg] at HD
 rw [hz] at HD
 have HS : Hid (C.size = 26) := by rw [← hC]; exact bC _ _
 have lW : Hid (C1.size = 26) := by rw [← jg]; exact bC _ _
 have uH : Hid (F.size = 6) := by rw [← hF]; exact aQ _ _
 have iH : Hid (C1.all (·.oneCell') = true) := by rw [← jg]; exact eX _ _
 rw [hC, hF, jg]
 clear hC hF jg hz
 obtain ⟨W, hW⟩ := ex (((w.alloc (.cells C 45)).alloc (.cells F 35)).alloc (.cells zB 45))
 have H0 := iD (Fr.three hW)
 go_enter func37, ntmps37
 go_upto_region 1 with (fail)
 try rw [hW]
 clear hW
 refine wp_region_list ?_
 refine lB H0.aC HS ?_
 refine lF H0.dL uH ?_
 refine cP (HD W) ?_
 rintro e v1 ⟨rfl, dB⟩
 have H2 := iD (H0.ab dB)
 clear dB
 refine rP ?_
 refine wV (.tuple #[.agg C1, .bool true]) ?_
 refine wV (.agg C1) ?_
 refine wV (.bool true) ?_
 refine sP 0 H2 fun w3 _ H3 => ?_
 go_upto_region 3 with (fail)
 refine rQ H3 ?_ lW
 exact fun w4 H4 => ⟨rfl, H4.below⟩
theorem BJ (F : Nat → Int) (j : Nat) : (List.range (j + 1)).map F = (List.range j).map F ++ [F j] := by rw [List.range_succ, List.map_append]; rfl
theorem Fc (h : gP X B w r b g.pg) (hR : cf X w x g) (ho : bS g b) (hw : Wk g b) (Uv : B ≤ w.heap.size) (YZ : ∀ k, (Value.slice r.E r.ne r.ce).ownBlock = some k → X k) (v n : Int) (hvi : dH v) (hni : dH n) :
 Calls prog 37 #[.agg (bq r b r.q b.st), .agg (xa x g), .int .i64 v, .int .i64 n] w (tm X B w r g (cA b g v n)) := by
 obtain ⟨b9, o9, tY, aW, fB⟩ := km h.v ho.JK
 have yR : (bq r b r.q b.st)[6]? = some (.slice (some ⟨b9, o9, none⟩) 9 r.q.c3) := by
  show some (Value.slice r.q.Q3 b.st.an.length r.q.c3) = _
  rw [tY, ho.JK]
 have qW : (bq r b r.q b.st)[17]? = some (.int .i64 b.av) := rfl
 have oY : (bq r b r.q b.st)[19]? = some (.bool b.au) := rfl
 have mB : (bq r b r.q b.st)[1]? = some (.int .i64 b.aa) := rfl
 have HD := iD (fun w => fY r b x g w)
 rw [hw.rd, hw.br, kU] at HD
 obtain ⟨fp, gC, je⟩ := ho.T2
 obtain ⟨q, lk⟩ := ex (cA b g v n)
 obtain ⟨va, Er⟩ := ex (aU b 0)
 obtain ⟨vt, JL⟩ := ex (aU b 1)
 rw [Er] at fp
 obtain ⟨t, hta⟩ : ∃ t : Nat, 1 - va = t := ⟨(1 - va).toNat, oM⟩
 have htn : 1 - va.toNat = t := oM
 obtain ⟨SZ, Y2⟩ := ex (aN g b.aa)
 obtain ⟨n0, xu⟩ := ex b.av
 obtain ⟨up, gM⟩ := ex b.au
 have fU : Hid (q = if n0 = 2 ∨ vt ≠ 2 ∨ up = true then (b, 12) else if bO b = true then (b, 14) else if ¬ (1 ≤ v ∧ v ≤ 1073741824) ∨ ¬ (1 ≤ n ∧ n ≤ (SZ : Nat)) then (b, 3) else
  ({ b with au := true, dst := t, version := v, length := n.toNat, cH := 0, erase := (List.range b.k).map fun i => ((cI b t + i : Nat) : Int) }, 0)) := by
  subst xu gM
  rw [Hid, ← lk]
  unfold cA
  rw [hw.rd, iN (by rw [hw.br]; decide), JL, Er, htn, Y2]
 rw [lk]
 have jP := iD (fun w2 w3 (hb : bW w w2) => mG (h.below hb) hw.br hw.sb hw.rc ho.ok w3)
 rw [kU] at jP
 have pa := iD (fun W : World => uP hR b.k ho.k8 (b.aa : Int) (by rw [← ho.bk]) W)
 rw [← ho.bk, Y2] at pa
 have xV := iD (fun (V9 : World) (hb : bW w V9) (j : Nat) (hj : j < 9) => (hb.cell (p := ⟨b9, o9 + j, none⟩) aW).trans (fB j hj))
 have Py : Hid (b.st.an[0]?.getD 0 = va ∧ b.st.an[1]?.getD 0 = vt) := ⟨Er, JL⟩
 have abR : SZ ≤ 8192 := by rw [← Y2, ho.bk]; exact ec hR.ok ho.k8
 rw [xu] at qW
 rw [gM] at oY
 have qQ := ho.av
 rw [xu] at qQ
 have HH := iD h
 have zi := iD hR
 have J9 := iD Uv
 have Nw := iD yR
 have AP := iD qW
 have uK := iD oY
 have uq := iD mB
 have gV := iD ho
 have Np := iD hw
 obtain ⟨W, hW⟩ := ex (((w.alloc (.cells (bq r b r.q b.st) 45)).alloc (.cells (xa x g) 35)).alloc (.cells zB 45))
 have H0 := iD (Fr.three hW)
 have HXE := iD YZ
 clear yR qW oY mB tY fB Er JL h hR ho hw lk xu gM Uv YZ Y2 htn
 go_enter func37, ntmps37
 go_upto_region 1 with (fail)
 try rw [hW]
 clear hW
 refine wp_region_list ?_
 refine jM H0.aC ?_
 refine xr H0.dL ?_
 refine cP (HD W) ?_
 rintro e v1 ⟨rfl, dB⟩
 have H2 := iD (H0.ab dB)
 clear dB
 refine rP ?_
 refine wV (.tuple #[.agg (bq r b r.q b.st), .bool false]) ?_
 refine wV (.agg (bq r b r.q b.st)) ?_
 refine wV (.bool false) ?_
 refine sP 0 H2 fun w3 _ H3 => ?_
 have d6 := H3.cell0 6 Nw
 have d17 := H3.cell0 17 AP
 have d19 := H3.cell0 19 uK
 have s1 := xV _ H3.below 1 oM
 rw [Py.2] at s1
 by_cases h2 : n0 = 2
 ·have LH : ((n0 : Int) == 2) = true := by simp; omega
  go_upto_region 5 with (fail)
  refine rQ H3 ?_
  exact fun w4 H4 => (by rw [fU, iP (.inl h2)]; exact tm.same HH J9 H4.below 12 rfl)
 have LH : ((n0 : Int) == 2) = false := by simp; omega
 by_cases h3 : vt = 2
 rotate_left
 ·have Uw : (vt != 2) = true := by simpa using h3
  go_upto_region 5 with (fail)
  refine rQ H3 ?_
  exact fun w4 H4 => (by rw [fU, iP (.inr (.inl h3))]; exact tm.same HH J9 H4.below 12 rfl)
 subst h3
 cases up with
 | true =>
  go_upto_region 5 with (fail)
  refine rQ H3 ?_
  exact fun w4 H4 => (by rw [fU, iP (by simp)]; exact tm.same HH J9 H4.below 12 rfl)
 | false =>
  go_upto_region 6 with (fail)
  refine wp_region_list ?_
  refine jM H3.aC ?_
  refine cP (jP w3 w3 H3.below) ?_
  rintro e v4 ⟨rfl, iT⟩
  have H4 := iD (H3.ab iT)
  clear iT d6 d17 d19 s1
  refine rP ?_
  obtain ⟨wk, Ep⟩ := ex (bO b)
  rw [Ep]
  have kZ := iD Ep
  clear Ep
  cases wk with
  | true =>
   go_upto_region 7 with (fail)
   refine rQ H4 ?_
   exact fun w5 H5 => (by rw [fU, iN (by rintro (e | e | e); exact h2 e; exact e rfl; cases e), iP kZ.out]; exact tm.same HH J9 H5.below 14 rfl)
  | false =>
   by_cases v1 : v < 1
   ·go_upto_region 9 with (fail)
    refine rQ H4 ?_
    exact fun w5 H5 => (by rw [fU, iN (by rintro (e | e | e); exact h2 e; exact e rfl; cases e), iN (by rw [kZ]; decide), iP (.inl oM)]; exact tm.same HH J9 H5.below 3 rfl)
   by_cases v2 : 1073741824 < v
   ·go_upto_region 9 with (fail)
    refine rQ H4 ?_
    exact fun w5 H5 => (by rw [fU, iN (by rintro (e | e | e); exact h2 e; exact e rfl; cases e), iN (by rw [kZ]; decide), iP (.inl oM)]; exact tm.same HH J9 H5.below 3 rfl)
   by_cases n1 : n < 1
   ·go_upto_region 9 with (fail)
    refine rQ H4 ?_
    exact fun w5 H5 => (by rw [fU, iN (by rintro (e | e | e); exact h2 e; exact e rfl; cases e), iN (by rw [kZ]; decide), iP (.inr oM)]; exact tm.same HH J9 H5.below 3 rfl)
   obtain ⟨m, rfl⟩ : ∃ m : Nat, n = m := ⟨n.toNat, oM⟩
   have f0 := H4.od 0 (show (xa x g)[0]? = some (.slice x.A g.img.length x.c) from rfl)
   have f1 := H4.od 1 (show (xa x g)[1]? = some (.int .i64 g.pg) from rfl)
   have f2 := H4.od 2 (show (xa x g)[2]? = some (.slice x.B g.aq.length x.d) from rfl)
   have f3 := H4.od 3 (show (xa x g)[3]? = some (.bool g.aF) from rfl)
   have f4 := H4.od 4 (show (xa x g)[4]? = some (.int .i64 g.be) from rfl)
   have f5 := H4.od 5 (show (xa x g)[5]? = some (.slice x.P g.az.length x.r) from rfl)
   have d1 := H4.cell0 1 uq
   go_upto_region 8 with (fail)
   go_wp2_with (fail)
   refine (pa _).mono ?_
   rintro e v6 ⟨rfl, fx⟩
   have H5 := iD (H4.ab fx)
   clear fx f0 f1 f2 f3 f4 f5 d1
   by_cases n3 : SZ < m
   ·have n2 : (SZ : Int) < (m : Int) := oM
    go_upto_region 9 with (fail)
    refine rQ H5 ?_
    exact fun w6 H6 => (by rw [fU, iN (by rintro (e | e | e); exact h2 e; exact e rfl; cases e), iN (by rw [kZ]; decide), iP (.inr oM)]; exact tm.same HH J9 H6.below 3 rfl)
   have n2 : ¬ (SZ : Int) < (m : Int) := oM
   obtain ⟨kk, vT⟩ := ex b.k
   have zk : Hid (b.k = kk ∧ b.aa = 2 * kk + 2) := ⟨vT, by rw [← vT]; exact gV.bk⟩
   have jG : kk ≤ 8 := by rw [← vT]; exact gV.k8
   have JR : b.first ≤ 64 := by have h1 := gV.fw; have h2 := zi.ok.b2; omega
   have JM : t ≤ 1 := oM
   have Gk : t * kk ≤ 8 := by have := Nat.mul_le_mul JM jG; omega
   have nA : cI b t ≤ 82 := by unfold cI; rw [vT]; omega
   have AL : Hid (q = ({ { b with au := true, dst := t, version := v, length := m, cH := 0 } with erase := (List.range kk).map fun i => ((cI b t + i : Nat) : Int) }, 0)) := by
    rw [fU, iN (by rintro (e | e | e); exact h2 e; exact e rfl; cases e), iN (by rw [kZ]; decide), iN (by rintro (e | e) <;> exact e oM), vT]
    rfl
   have nn : Hid (b.erase = [] ∧ r.ne = 0) := by
    have h1 := kZ.out
    unfold bO at h1
    simp only [Bool.or_eq_false_iff, Bool.not_eq_false', List.isEmpty_iff] at h1
    have h2 := (HH.er Np.br).2
    rw [h1.1.1] at h2
    exact ⟨h1.1.1, h2.symm⟩
   have Zp : Hid (QS w 3 B (.slice r.E r.ne r.ce) []) := by rw [Hid, ← nn.1]; exact (HH.er Np.br).1
   rw [nn.2] at Zp
   obtain ⟨nb, zV⟩ := ex b.aa
   obtain ⟨fi, lX⟩ := ex b.first
   have Bj : Hid (∀ (r9 : Rb) (q s), (bq r9 { b with au := true, dst := t, version := v, length := m, cH := 0 } q s)[1]? = some (.int .i64 nb)) := fun _ _ _ => by rw [← zV]; rfl
   have Rf : Hid (∀ (r9 : Rb) (q s), (bq r9 { b with au := true, dst := t, version := v, length := m, cH := 0 } q s)[0]? = some (.int .i64 fi)) := fun _ _ _ => by rw [← lX]; rfl
   have dZ : nb = 2 * kk + 2 := by rw [← zV]; exact zk.2
   have q0 : IntKind.i64.wrap (1 - va) = (t : Int) := by rw [IntWalk.i64_in _ oM]; exact hta
   have jk : Hid (∀ W : World, Calls prog 28 #[.agg (xa x g), .int .i64 (fi : Int), .int .i64 (nb : Int), .int .i64 (t : Int)] W fun e w' => e = .returned (.int .i64 ((cI b t * g.pg : Nat) : Int)) ∧ bW W w') := fun W => by
    have := uQ zi b.k b.first t gV.k8 JM oM (fi : Int) (nb : Int) (t : Int) (by rw [lX]) (by rw [← zV, ← gV.bk]) rfl W
    exact this
   have Ir : 1 ≤ g.pg ∧ g.pg ≤ 16 := ⟨zi.ok.p1, zi.ok.p2⟩
   obtain ⟨pg, iA⟩ := ex g.pg
   rw [iA] at jk Ir
   have HXP : Hid ((xa x g)[1]? = some (.int .i64 pg)) := by rw [← iA]; rfl
   obtain ⟨Ir, abW⟩ := Ir
   obtain ⟨bb, SC⟩ := ex (cI b t)
   have ur := iD SC
   rw [SC] at jk AL nA
   have q5 : ((bb : Int) * (pg : Int)).tdiv (pg : Int) = (bb : Int) := Int.mul_tdiv_cancel _ oM
   have q6 : ∀ j : Nat, j < kk → IntKind.i64.wrap ((bb : Int) + (j : Int)) = ((bb + j : Nat) : Int) := fun j hj => by rw [IntWalk.i64_in _ oM]; push_cast; rfl
   have q7 : IntKind.i64.wrap (bb : Int) = (bb : Int) := IntWalk.i64_in _ oM
   clear vT Gk JR zV lX iA SC
   have e6 := H5.cell0 6 Nw
   have s0 := xV _ H5.below 0 oM
   rw [Py.1, Nat.add_zero] at s0
   have e19 := H5.cell0 19 (show (bq r b r.q b.st)[19]? = some (.bool b.au) from rfl)
   have g19 := H5.sZ 19
   have e20 := H5.cell0 20 (show (bq r b r.q b.st)[20]? = some (.int .i64 b.dst) from rfl)
   have g20 := H5.sZ 20
   have Uz := H5.cell0 21 (show (bq r b r.q b.st)[21]? = some (.int .i64 b.version) from rfl)
   have g21 := H5.sZ 21
   have Zc := H5.cell0 22 (show (bq r b r.q b.st)[22]? = some (.int .i64 b.length) from rfl)
   have g22 := H5.sZ 22
   have SW := H5.cell0 23 (show (bq r b r.q b.st)[23]? = some (.int .i64 b.cH) from rfl)
   have g23 := H5.sZ 23
   go_upto_region 10 with (fail)
   go_region
   clear e6 s0 e19 g19 e20 g20 Uz g21 Zc g22 SW g23
   have Yl : Hid (((((((bq r b r.q b.st).setIfInBounds 19 (.bool true)).setIfInBounds 20 (.int .i64 t)).setIfInBounds 21 (.int .i64 v)).setIfInBounds 22 (.int .i64 m)).setIfInBounds 23 (.int .i64 0)) = (bq r { b with au := true, dst := t, version := v, length := m, cH := 0 } r.q b.st)) := rfl
   have H6 := iD (((((H5.iC 19 (.bool true)).iC 20 (.int .i64 t)).iC 21 (.int .i64 v)).iC 22 (.int .i64 m)).iC 23 (.int .i64 0))
   rw [Yl] at H6
   generalize (((((v6.setCell ⟨w.heap.size, 19, none⟩ (.bool true)).setCell ⟨w.heap.size, 20, none⟩ (.int .i64 t)).setCell ⟨w.heap.size, 21, none⟩ (.int .i64 v)).setCell ⟨w.heap.size, 22, none⟩ (.int .i64 m)).setCell ⟨w.heap.size, 23, none⟩ (.int .i64 0)) = w6 at H6 ⊢
   have H7 := iD (H6.ab fT)
   clear n2 n3 LH
   have d1 := H7.cell0 1 (Bj _ _ _)
   have q8 : IntKind.i64.wrap ((nb : Int) - 2) = 2 * (kk : Int) := by rw [IntWalk.i64_in _ oM]; omega
   have q9 : (2 * (kk : Int)).tdiv 2 = (kk : Int) := by rw [Int.tdiv_eq_ediv_of_nonneg oM]; omega
   have q9' : IntKind.i64.wrap (kk : Int) = (kk : Int) := IntWalk.i64_in _ oM
   clear dZ q0
   go_upto_region 12 with (fail)
   clear d1
   generalize w6.drew = W5 at H7 ⊢
   have Dc : Hid (∃ (A : Option Addr) (cc : Nat), Gr w.heap.size W5 [(bq { r with E := A, ne := 0, ce := cc } { b with au := true, dst := t, version := v, length := m, cH := 0 } r.q b.st, 45), (xa x g, 35), (zB, 45)] ∧ Qg B w W5 r A 0 cc ((List.range 0).map fun (i : Nat) => ((bb + i : Nat) : Int))) := by
    refine ⟨r.E, r.ce, ?_, .ak H7.below, H7.below.mono J9, Zp.block (fun k hk => H7.below.block k (Zp.lt hk).2), fun k hk => .inl (by rw [nn.2]; exact hk), fun k hk => (Zp.lt (by rw [nn.2] at hk; exact hk)).2, J9⟩
    have e : bq { r with E := r.E, ne := 0, ce := r.ce } { b with au := true, dst := t, version := v, length := m, cH := 0 } r.q b.st = (bq r { b with au := true, dst := t, version := v, length := m, cH := 0 } r.q b.st) := by
     unfold bq ba
     simp only [nn.out.2]
    rw [e]
    exact H7.gr
   clear H7
   go_loopw [79] (fun i wr => ∃ j : Nat, j ≤ kk ∧ i = .int .i64 j ∧ ∃ (A : Option Addr) (cc : Nat), Gr w.heap.size wr [(bq { r with E := A, ne := j, ce := cc } { b with au := true, dst := t, version := v, length := m, cH := 0 } r.q b.st, 45), (xa x g, 35), (zB, 45)] ∧ Qg B w wr r A j cc ((List.range j).map fun (i : Nat) => ((bb + i : Nat) : Int))) (fun i _ => kk - (intOf i).toNat)
   case atStart => exact ⟨0, Nat.zero_le _, rfl, Dc⟩
   case round =>
    obtain ⟨j, hj, rfl, A, cc, h1, h2⟩ := hrel
    have G1 := iD h1
    have HG := iD h2
    clear h1 h2
    by_cases aW : j < kk
    ·have q6 := q6 j aW
     have Dq : ¬ pg = 0 := oM
     have AZ : ¬ (pg : Int) = 0 := oM
     have sO : ((pg : Int) == 0) = false := by simp; omega
     go_upto_region 14 with (fail)
     have HG0 := iD (HG.ab fT)
     have uN := iD (G1.ab fT)
     refine mh (by kernel_rfl) (fun w' => w'.heap[w.heap.size]? = some (.cells (bq { r with E := A, ne := j, ce := cc } { b with au := true, dst := t, version := v, length := m, cH := 0 } r.q b.st) 45 (0, 0)) ∧ w'.heap[w.heap.size + 1]? = some (.cells (xa x g) 35 (0, 0))) 18 ?_
     refine kP 0 w.heap.size 24 (⟨uN.aC, uN.dL⟩) ?_
     refine tM 1 _ rfl (yC fun _ hS => gH hS.1 (show ((bq { r with E := A, ne := j, ce := cc } { b with au := true, dst := t, version := v, length := m, cH := 0 } r.q b.st))[24]? = some (.slice A j cc) from rfl)) (⟨uN.aC, uN.dL⟩) ?_
     refine tM 2 _ rfl (jT (fun _ hS => hS.2) ((aQ x g))) (⟨uN.aC, uN.dL⟩) ?_
     refine kP 3 w.heap.size 0 (⟨uN.aC, uN.dL⟩) ?_
     refine tM 4 _ rfl (yC fun _ hS => gH hS.1 (Rf _ _ _)) (⟨uN.aC, uN.dL⟩) ?_
     refine kP 5 w.heap.size 1 (⟨uN.aC, uN.dL⟩) ?_
     refine tM 6 _ rfl (yC fun _ hS => gH hS.1 (Bj _ _ _)) (⟨uN.aC, uN.dL⟩) ?_
     refine kP 7 w.heap.size 20 (⟨uN.aC, uN.dL⟩) ?_
     refine tM 8 _ rfl (yC fun _ hS => gH hS.1 (show ((bq { r with E := A, ne := j, ce := cc } { b with au := true, dst := t, version := v, length := m, cH := 0 } r.q b.st))[20]? = some (.int .i64 (t : Int)) from rfl)) (⟨uN.aC, uN.dL⟩) ?_
     refine kP 10 (w.heap.size + 1) 1 (⟨uN.aC, uN.dL⟩) ?_
     refine tM 11 _ rfl (yC fun _ hS => gH hS.2 HXP) (⟨uN.aC, uN.dL⟩) ?_
     refine tK 13 (.int .i64 ((j : Int))) (⟨uN.aC, uN.dL⟩) ?_
     refine kI 9 (cW (jk _) ?_)
     rintro e v4 ⟨rfl, iT⟩
     have TP := iD (uN.ab iT)
     have abq := iD (HG0.ab iT)
     clear iT
     refine rX ⟨TP.aC, TP.dL⟩ ?_
     refine tK 12 (.int .i64 ((bb : Int))) (⟨TP.aC, TP.dL⟩) ?_
     refine tK 14 (.int .i64 (((bb + j : Nat) : Int))) (⟨TP.aC, TP.dL⟩) ?_
     refine kI 15 ?_
     refine EX rfl (by rfl) _ rfl ((bb + j : Nat) : Int) rfl ?_
     have RU := cm v4 #[Value.int .i64 ((bb + j : Nat) : Int)] 3 0 _ _ rfl rfl
     have Yx := iD (TP.ab ((Below.refl v4.heap.size v4).alloc cV (.cells #[.int .i64 ((bb + j : Nat) : Int)] 3)))
     have Jw := iD (abq.ab ((Below.refl v4.heap.size v4).alloc cV (.cells #[.int .i64 ((bb + j : Nat) : Int)] 3)))
     obtain ⟨Kg, Og⟩ := ex (v4.alloc (.cells #[.int .i64 ((bb + j : Nat) : Int)] 3))
     obtain ⟨m15, Sk⟩ := ex v4.heap.size
     rw [Og] at Yx Jw
     try rw [Og, Sk] at RU
     try rw [Og]
     try rw [Sk]
     clear Og Sk
     refine ⟨⟨Yx.aC, Yx.dL⟩, ?_⟩
     change fF _ _ _ _ _ _ _ _ (Act.put _ (some 97) _) _
     simp only [nm]
     refine kI 16 ?_
     obtain ⟨i3, vU, kE, jN, lh⟩ := info_parts mq
     refine Ak rfl (by rfl) _ _ 33 rfl B 3 i3 (.int .i64 0) underlying33 vU kE jN lh rfl (.slice A j cc) _ rfl Jw.q ((bb + j : Nat) : Int) ⟨m15, 0, none⟩ 1 rfl RU (by rw [List.length_map, List.length_range]; omega) (Nat.le_trans Jw.hB Jw.only.size) ?_
     intro v8 w8 hq8 Gu Of
     obtain ⟨A8, E8, rfl, EA, Ez⟩ := hq8.form
     have hlen : (((List.range j).map fun (i : Nat) => ((bb + i : Nat) : Int)) ++ [((bb + j : Nat) : Int)]).length = j + 1 := by simp
     rw [hlen] at hq8 Of
     try rw [hlen]
     obtain ⟨iF, Dw⟩ := Jw.append hq8 Gu Of Yx.len (.slice A8 (j + 1) E8)
     have HG9 := iD Dw
     have TO := iD (Yx.ao iF (fun i hi hy => Jw.ne hi hy))
     clear Dw iF hq8 Gu Of EA Ez hlen RU vU kE jN lh
     refine ⟨⟨TO.aC, TO.dL⟩, ?_⟩
     change fF _ _ _ _ _ _ _ _ (Act.put _ (some 98) _) _
     simp only [nm]
     refine kP 17 w.heap.size 24 (⟨TO.aC, TO.dL⟩) ?_
     refine kL ?_
     have Nt : Hid (((bq { r with E := A, ne := j, ce := cc } { b with au := true, dst := t, version := v, length := m, cH := 0 } r.q b.st)).setIfInBounds 24 (.slice A8 (j + 1) E8) = (bq { r with E := A8, ne := j + 1, ce := E8 } { b with au := true, dst := t, version := v, length := m, cH := 0 } r.q b.st)) := rfl
     refine IY rfl (by rfl) rfl _ _ rfl ⟨w.heap.size, 24, none⟩ A8 (j + 1) E8 _ rfl rfl (TO.cell0 24 (show ((bq { r with E := A, ne := j, ce := cc } { b with au := true, dst := t, version := v, length := m, cH := 0 } r.q b.st))[24]? = some (.slice A j cc) from rfl)) (TO.sZ 24) ?_
     have H25 := iD (TO.iC 24 (.slice A8 (j + 1) E8))
     rw [Nt] at H25
     generalize w8.setCell ⟨w.heap.size, 24, none⟩ (.slice A8 (j + 1) E8) = w9 at H25 HG9 ⊢
     refine wD ?_
     go_wp2
     go_roundw
     case rel => exact ⟨j + 1, oM, by go_num, A8, E8, H25, by rw [BJ]; exact HG9⟩
     case measure => simp [intOf]; omega
    obtain rfl : j = kk := oM
    go_upto_region 16 with (fail)
    refine wp_region_list ?_
    refine jM (G1.aC) ?_
    refine Va rfl _ _ rfl rfl (w.heap.size + 2) (bq { r with E := A, ne := j, ce := cc } { b with au := true, dst := t, version := v, length := m, cH := 0 } r.q b.st) rfl rfl _ (G1.eT) (aY { r with E := A, ne := j, ce := cc } { b with au := true, dst := t, version := v, length := m, cH := 0 } r.q b.st) (rfl : zB.size = 26) (E9 { r with E := A, ne := j, ce := cc } { b with au := true, dst := t, version := v, length := m, cH := 0 } r.q b.st) ?_
    have H30 := iD (G1.NU (bq { r with E := A, ne := j, ce := cc } { b with au := true, dst := t, version := v, length := m, cH := 0 } r.q b.st))
    have Ye := iD (HG.eT (bq { r with E := A, ne := j, ce := cc } { b with au := true, dst := t, version := v, length := m, cH := 0 } r.q b.st))
    go_wp2
    (try simp only [Exit.inBlock, Exit.then])
    refine rI rfl H30.eT (gE (aY { r with E := A, ne := j, ce := cc } { b with au := true, dst := t, version := v, length := m, cH := 0 } r.q b.st)) ?_
    rw [AL]
    exact ⟨{ r with E := A, ne := j, ce := cc }, rfl, HH.Z0 Ye HXE rfl (by simp) rfl rfl id, fun k hk => (Ye.gh k hk).imp id (fun e => ⟨oM, (Ye.q.lt hk).2⟩), Ye.only, Ye.below⟩
theorem Jb {n0 : Int} (h : gP X B w r b g.pg) (hR : cf X w x g) (ho : bS g b) (hJ : b.af = false → jJ g b n0) (Uv : B ≤ w.heap.size) (YZ : ∀ k, (Value.slice r.E r.ne r.ce).ownBlock = some k → X k) (v n : Int) (hvi : dH v) (hni : dH n) :
 Calls prog 37 #[.agg (ba r b), .agg (xa x g), .int .i64 v, .int .i64 n] w (tm X B w r g (cA b g v n)) := by
 by_cases hz : (ar b g).af = true
 ·refine (Fe r b x g hz v n w).mono ?_
  rintro e w' ⟨he, hb⟩
  have : cA b g v n = (ar b g, 20) := by unfold cA; rw [iP hz]
  rw [this]
  exact tm.same (h.fk g) Uv hb 20 he
 exact Fc h hR ho (Wk.of hz hJ) Uv YZ v n hvi hni
theorem DW (h : cf X w x g) :
 Calls prog 51 #[x.v g] w fun e w' => e = .returned (x.v (cY g)) ∧ bW w w' := by
 obtain ⟨A, c, B, d, P, r⟩ := x
 show Calls prog 51 #[.agg #[.slice A g.img.length c, .int .i64 g.pg, .slice B g.aq.length d, .bool g.aF, .int .i64 g.be, .slice P g.az.length r]] w _
 unfold cY
 clear h
 cases hd : g.aF
 ·rw [iN (by simp)]
  show Calls _ _ _ _ fun e w' => e = .returned (.agg #[.slice A g.img.length c, .int .i64 g.pg, .slice B g.aq.length d, .bool g.aF, .int .i64 g.be, .slice P g.az.length r]) ∧ _
  rw [hd]
  go_enter func51, ntmps51
  go_wp2
  (try simp only [Exit.inBlock, Exit.then])
  refine bodyPost_ret (v := .agg #[.slice A g.img.length c, .int .i64 g.pg, .slice B g.aq.length d, .bool false, .int .i64 g.be, .slice P g.az.length r]) ?_ rfl ⟨rfl, ck _ _ _⟩
  rw [jm rfl]
  go_simp
 rw [iP rfl]
 show Calls _ _ _ _ fun e w' => e = .returned (.agg #[.slice A g.img.length c, .int .i64 g.pg, .slice B g.aq.length d, .bool false, .int .i64 (-1), .slice P g.az.length r]) ∧ _
 go_enter func51, ntmps51
 go_wp2
 (try simp only [Exit.inBlock, Exit.then])
 refine bodyPost_ret (v := .agg #[.slice A g.img.length c, .int .i64 g.pg, .slice B g.aq.length d, .bool false, .int .i64 (-1), .slice P g.az.length r]) ?_ rfl ⟨rfl, ck _ _ _⟩
 rw [jm rfl]
 go_simp
theorem IF (h : cf X w x g) (hX : ∀ b, X b → b < w.heap.size) (n : Int) (yQ : -9223372036854775808 ≤ n) (qS : n < 9223372036854775808) (Q : Option Addr) (m q : Nat) (p : List Int) (hQ : Rd w w.heap.size Q (ag .u8 p)) (hm : p.length = m) (Qm : m ≤ 140737488351232) (hp : Bytes p) :
 Calls prog 49 #[x.v g, .int .i64 n, .slice Q m q] w fun e w' => ∃ y : Rc, e = .returned (y.v (fM g n p)) ∧ cf X w' y (fM g n p) ∧ bW w w' := by
 have H := iD h
 have HX := iD hX
 have HQ := iD hQ
 have HM := iD hm
 have HP := iD hp
 have gV : Hid (fM g n p).ok := nW h.ok hp qS
 obtain ⟨A, c, B, d, P, r⟩ := x
 show Calls prog 49 #[.agg #[.slice A g.img.length c, .int .i64 g.pg, .slice B g.aq.length d, .bool g.aF, .int .i64 g.be, .slice P g.az.length r], _, _] w _
 obtain ⟨V, hV⟩ := ex ((w.alloc (.cells #[.slice A g.img.length c, .int .i64 g.pg, .slice B g.aq.length d, .bool g.aF, .int .i64 g.be, .slice P g.az.length r] 35)).alloc (.cells Bh 35))
 have pG : Hid (bW w V) := by rw [← hV]; exact ck _ _ _
 have h6 := uO w (.slice A g.img.length c) (.int .i64 g.pg) (.slice B g.aq.length d) (.bool g.aF) (.int .i64 g.be) (.slice P g.az.length r) (.slice none 0 0) (.int .i64 0) (.slice none 0 0) (.bool false) (.int .i64 0) (.slice none 0 0) 35 35
 rw [hV] at h6
 have H6 := iD h6
 have hgV : w.heap.size + 1 < V.heap.size := h6.2.lt
 have zj : Hid ((ag .u8 p).length = m * 1) := by rw [Hid, aE, hm, Nat.mul_one]
 obtain ⟨i5, rR, jc, jb, ja⟩ := info_parts kD
 have nQ : 0 ≤ maxLen := Nat.zero_le _
 obtain ⟨F, hF⟩ := ex (max n (-1))
 clear h hX hQ hm hp h6
 go_enter func49, ntmps49
 go_wp2_with (first | (at_builtin; (try rw [hV]); refine aM _ rfl _ _ 32 rfl V.heap.size 5 i5 (.int .u8 0) 1 1 underlying32 rR jc jb ja rfl oM _ 0 [] rfl (World.ownsRow_lit V #[] 0 cV nQ rfl) w.heap.size _ m _ (ag .u8 p) rfl (HQ.below (pG.alloc pG.size _) cV) zj (cZ _ _) (by unfold maxLen; omega) oM (by simp) ?_))
 intro v' w2 bX hgrow kj
 have fK : Hid (bW V w2) := ((Below.refl V.heap.size V).alloc cV _).grown hgrow (by simp) (fun k hk => by have hk' : some V.heap.size = some k := hk; injection hk'; omega)
 try simp only [Nat.zero_add, List.nil_append] at bX
 obtain ⟨A2, c2, rfl, uE, nR, oF⟩ := bL bX
 have HO := iD bX
 obtain ⟨a0, a1, a2, a3, a4, a5, a6⟩ := H6.1.below fK oM
 obtain ⟨b0, b1, b2, b3, b4, b5, b6⟩ := H6.2.below fK oM
 have f4 := a6 4
 have f5 := a6 5
 have e0 := b6 0
 have e1 := b6 1
 have e2 := b6 2
 have e3 := b6 3
 have e4 := b6 4
 have e5 := b6 5
 clear bX hgrow kj oF a6 b6
 go_wp2
 (try simp only [Exit.inBlock, Exit.then])
 refine bodyPost_ret (v := (Rc.mk A c B d A2 c2).v (fM g n p)) ?_ rfl ⟨⟨A, c, B, d, A2, c2⟩, rfl, ?_, ?_⟩
 ·rw [jm rfl]
  simp only [Rc.v, fM, HM.out, hF]
  go_simp
 ·refine ⟨gV, cn.cX (X := X2 X w.heap.size) ?_ (fun _ => .inl), H.a1, H.a2, cn.cX (X := X2 X w.heap.size) ?_ (fun _ => .inl), H.b1, H.b2, cn.cX (X := X2 X w.heap.size) ?_ (fun _ => .inl), by simp only [fM, HM.out]; exact uE, nR⟩
  ·(repeat (refine cn.setCell ?_ _ _ (by first | exact fj _ _ | exact jl _ _)))
   exact H.a.two.below (pG.trans (fK.mono pG.size))
  ·(repeat (refine cn.setCell ?_ _ _ (by first | exact fj _ _ | exact jl _ _)))
   exact H.b.two.below (pG.trans (fK.mono pG.size))
  (repeat (refine cn.setCell ?_ _ _ (by first | exact fj _ _ | exact jl _ _)))
  exact cn.new (tA HX hgV) cV (by rw [aE]; exact HM) HO
 (repeat (refine Below.setCell ?_ (by simp only; omega) _))
 exact pG.trans (fK.mono pG.size)
def kT (A B : Int) (b : Bk) : List Int := if B < 0 then fg A (-(dT B (-100) 0)).toNat else ((fg b.version (min b.length 2000)).drop (min b.cH (min b.length 2000))).take 64
def abD (w : World) (l : List Int) (e : Ending) (w' : World) : Prop := ∃ A n c, e = .returned (.slice A n c) ∧ l.length = n ∧ n ≤ c ∧ c ≤ maxLen ∧ (∀ Y : Nat → Prop, (∀ b, Y b → b < w.heap.size) → cn Y w' A (ag .u8 l)) ∧ bW w w'
theorem BX {base : Nat} {e : TypeId} {size : Nat} {n : Nat} {xs : List Value} (h : w.ownsRow base e size v n xs) {g : Nat} (hg : v.ownBlock = some g) : base ≤ g := by
 rcases h.2 with ⟨rfl, rfl⟩ | ⟨g', cap, cur, rfl, hb, -⟩
 ·cases hg
 injection hg with hg
 subst hg
 exact hb
theorem O5 (r : Rb) (b : Bk) (k A B : Int) (hB : dH B) (P : Option Addr) (np cp : Nat) (w : World) : Calls prog 38 #[.agg #[.int .u8 k, .int .i64 A, .int .i64 B, .slice P np cp], .agg (ba r b)] w (abD w (kT A B b)) := by
 obtain ⟨F, hF⟩ := ex (#[.int .u8 k, .int .i64 A, .int .i64 B, .slice P np cp] : Array Value)
 have Df : Hid (F[1]? = some (.int .i64 A)) := by rw [← hF]; rfl
 have um : Hid (F[2]? = some (.int .i64 B)) := by rw [← hF]; rfl
 obtain ⟨q, hq⟩ := ex (kT A B b)
 have HQ := iD hq
 rw [hF, hq]
 clear hF hq
 obtain ⟨W, hW⟩ := ex ((w.alloc (.cells F 52)).alloc (.cells (ba r b) 45))
 have H0 := iD (Fr.two hW)
 go_enter func38, ntmps38
 have d2 := H0.cell0 2 um
 have e7 := H0.od 21 (show (ba r b)[21]? = some (.int .i64 b.version) from rfl)
 have e8 := H0.od 22 (show (ba r b)[22]? = some (.int .i64 b.length) from rfl)
 by_cases hn : B < 0
 ·obtain ⟨M, hM⟩ : ∃ M : Nat, -(dT B (-100) 0) = M := ⟨(-(dT B (-100) 0)).toNat, by unfold dT; omega⟩
  have Ad : M ≤ 100 := by unfold dT at hM; omega
  obtain ⟨V, hV⟩ := ex (dT B (-100) 0)
  rw [hV] at hM
  have Dh : Hid (∀ W : World, Calls prog 23 #[.int .i64 B, .int .i64 (-100), .int .i64 0] W fun e w' => e = .returned (.int .i64 V) ∧ W = w') := fun W => by rw [← hV]; exact mw B (-100) 0 W
  have hq : q = fg A M := by rw [← HQ]; unfold kT; rw [iP hn, hV, hM]; rfl
  have q1 : IntKind.i64.wrap (-V) = (M : Int) := by rw [IntWalk.i64_in _ oM]; exact hM
  have Rg : Hid (∀ W : World, Calls prog 11 #[.int .i64 A, .int .i64 (M : Int)] W fun e w' => ∃ A1, e = .returned (.slice A1 M M) ∧ w'.ownsRow W.heap.size 5 1 (.slice A1 M M) M (ag .u8 (fg A M)) ∧ bW W w') := fun W => wM A (M : Int) M (by unfold dT; omega) W
  subst hq
  clear HQ hM hV hB
  go_upto_region 2 with (fail)
  try rw [hW]
  clear hW d2 e7 e8
  have H2 := iD (H0.ab fT)
  refine wp_region_held_drew (S := fun w' => w'.heap[w.heap.size]? = some (.cells F 52 (0, 0))) (by kernel_rfl) H2.aC (fun _ => ?_)
  refine vP 0 w.heap.size 1 H2.aC ?_
  refine tL 1 _ rfl (yC fun _ hS => gH hS Df) H2.aC ?_
  refine vP 2 w.heap.size 2 H2.aC ?_
  refine tL 3 _ rfl (yC fun _ hS => gH hS um) H2.aC ?_
  refine wI 4 (cW (Dh _) ?_)
  rintro e v4 ⟨rfl, rfl⟩
  refine rW H2.aC ?_
  refine vN 5 (M : Int) H2.aC ?_
  refine wI 6 (cW (Rg _) ?_)
  rintro e v5 ⟨A1, rfl, ke, gD⟩
  have H3 := iD (H2.ab gD)
  have uk := iD ke
  clear gD ke
  refine rW H3.aC ?_
  refine tV 7 (.slice A1 M M) H3.aC ?_
  refine wD ?_
  go_wp2
  try go_ret
  exact ⟨A1, M, M, rfl, dy _ _, Nat.le_refl _, by unfold maxLen; omega, fun Y hY => cn.own (by rw [aE, dy]) uk (fun g hg hy => by
   have h1 := hY g hy
   have hl := H2.len
   have hf := BX uk hg
   omega), H3.below⟩
 obtain ⟨L, hL⟩ := ex (min b.length 2000)
 obtain ⟨at_, kj⟩ := ex (min b.cH L)
 obtain ⟨hi, hhi⟩ := ex (min (at_ + 64) L)
 obtain ⟨fd, Iv⟩ := ex b.cH
 have Yl : Hid ((ba r b)[23]? = some (.int .i64 fd)) := by rw [← Iv]; rfl
 have hq : q = ((fg b.version L).drop at_).take 64 := by rw [← HQ]; unfold kT; rw [iN hn, hL, kj]
 have AY : ((fg b.version L).drop at_).take 64 = ((fg b.version L).drop at_).take (hi - at_) := by
  by_cases EF : at_ + 64 ≤ L
  ·rw [show hi - at_ = 64 by omega]
  rw [List.take_of_length_le (by rw [List.length_drop, dy]; omega), List.take_of_length_le (by rw [List.length_drop, dy]; omega)]
 rw [AY] at hq
 have Jr := iD hq
 have hlq : q.length = hi - at_ := by rw [hq, List.length_take, List.length_drop, dy]; omega
 have m1 : min (fd : Int) (L : Int) = (at_ : Int) := oM
 have m2 : min ((at_ : Int) + 64) (L : Int) = (hi : Int) := oM
 have m3 : IntKind.i64.wrap ((at_ : Int) + 64) = (at_ : Int) + 64 := IntWalk.i64_in _ oM
 have h1 : at_ ≤ hi := oM
 have h2 : hi ≤ L := oM
 have h3 : L ≤ 2000 := oM
 have JY : (at_ : Int) ≤ (hi : Int) := oM
 have LH : (hi : Int) ≤ (L : Int) := oM
 have Rg : Hid (∀ W : World, Calls prog 11 #[.int .i64 b.version, .int .i64 b.length] W fun e w' => ∃ A1, e = .returned (.slice A1 L L) ∧ w'.ownsRow W.heap.size 5 1 (.slice A1 L L) L (ag .u8 (fg b.version L)) ∧ bW W w') := fun W => wM b.version (b.length : Int) L (by unfold dT; omega) W
 clear AY hq hL kj hhi Iv hB HQ
 go_upto_region 3 with (fail)
 try rw [hW]
 clear hW d2
 go_wp2_with (fail)
 refine (Rg _).mono ?_
 rintro e v5 ⟨A1, rfl, ke, gD⟩
 have H2 := iD (H0.ab gD)
 have uk := iD ke
 have HWL := iD H0.len
 clear gD e7 e8
 have e9 := H2.od 23 Yl
 have hlq' := hlq
 clear hlq
 obtain hA | ⟨g, hA⟩ : A1 = none ∨ ∃ g, A1 = some ⟨g, 0, none⟩ := by
  rcases ke.2 with ⟨e, _⟩ | ⟨g', cap, cur, e, hb, -⟩
  ·injection e with e
   exact .inl e
  injection e with e
  exact .inr ⟨g', e⟩
 ·obtain rfl : L = 0 := by
   rcases ke.2 with ⟨e, _⟩ | ⟨g', cap, cur, e, hb, -⟩
   ·injection e
   injection e with e
   rw [hA] at e
   cases e
  subst hA
  clear ke
  obtain rfl : at_ = 0 := oM
  obtain rfl : hi = 0 := oM
  have m4 : min (fd : Int) 0 = 0 := oM
  go_wp2
  try go_ret
  rw [List.eq_nil_of_length_eq_zero hlq']
  exact ⟨_, 0, 0, rfl, rfl, Nat.le_refl _, Nat.zero_le _, fun Y hY hx => absurd rfl hx, H2.below⟩
 subst hA
 have hg := BX ke (g := g) rfl
 clear ke
 have HM2 := iD m2
 go_wp2
 ·try go_ret
  refine ⟨_, hi - at_, _, rfl, hlq', ?_, ?_, fun Y hY hx => ?_, H2.below⟩
  ·omega
  ·unfold maxLen; omega
  exact absurd (by rw [List.eq_nil_of_length_eq_zero (l := q) oM]; rfl) hx
 try go_ret
 refine ⟨_, hi - at_, _, rfl, hlq', ?_, ?_, fun Y hY => ?_, H2.below⟩
 ·omega
 ·unfold maxLen; omega
 rw [Jr]
 intro hx
 have hr := bL uk
 obtain ⟨A3, c3, e3, -, -, hr⟩ := hr
 injection e3 with e31
 subst e31
 obtain ⟨g2, abL, e4, aW, eI⟩ := (hr.part at_ (hi - at_)) hx
 injection e4 with e4
 injection e4 with e5 e6
 subst e5 e6
 refine ⟨_, _, (by rw [Nat.zero_add]), aW, fun hy => ?_, eI⟩
 have h1 := hY _ hy
 have := HWL.out
 simp at this
 omega
end Go.Proofs.YtjdknddnanopaaaGreat
