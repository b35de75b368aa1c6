/-
  Part 22 of the proof.
-/
import Derived.Test.YtjdknddnanopaaaGreatR21
namespace Go.Proofs.YtjdknddnanopaaaGreat
open Go.RowKit Tryz
set_option maxRecDepth 100000
set_option maxHeartbeats 16000000
set_option linter.all false
variable {w : World} {g : Fl}
section
variable {w0 w wr w' : World} {L0 L : Lc} {S0 S : Sc} {K : Kc} {f f' : Fl} {bP bR : Bk} {p : Nat} {V : Array Value} {r : Rb} {y : Rc} {g : Fl} {N : Nat} {A : Array Value}
theorem bo.Ki (h : bo w0 w L S K f bP) {Ap : Option Addr} {cp : Nat} (hs : bL w0 w' { L with Ap := Ap, cp := cp } S f' bP.st) (ho : ah (bS L S) w w') : bo w0 w' { L with Ap := Ap, cp := cp } S K f' bP ∧ bZ w w' L S K { L with Ap := Ap, cp := cp } S K :=
 ⟨h.Vt hs ho, ho.more (fun _ h5 => .inl h5), fun _ _ hk => hk, fun _ _ hk => hk, fun _ hk => hk, rfl, rfl, rfl, rfl⟩
end
variable {w0 w : World} {L : Lc} {S : Sc} {K : Kc} {f g : Fl} {b : Bk} {p : Nat} {r : Rb} {y : Rc} {n k A B : Int} {P : Option Addr} {np cp : Nat} {pk : List Int}
theorem Pd (H : M8 w0 w L S K f g b p r y n k A B P np cp pk) (hk : k % 16 = 12) : zm w0 w L S p f b n k A B P np cp := by
 obtain ⟨h, hs, hp, hn, Bb, hA, hB, hP, fA, Gx, qI⟩ := H
 unfold zm
 obtain ⟨Z, hZ, HZ, xV, oy, Jq, DJ⟩ := M9 k A B P np cp
 have HS := iD hs
 have lV := iD hp
 have tU : bU g b := bU.xI hs hp.ok
 have HH := iD h
 obtain ⟨⟨b5, f5, sl, cd⟩, hq⟩ := ex (cy b f)
 obtain ⟨⟨b6, g5, RV, Tq⟩, Oz⟩ := ex (cy b g)
 obtain ⟨m1, m2, m3⟩ := hs.cy b
 rw [hq, Oz] at m1 m2 m3
 try simp only at m1 m2 m3
 injection m2 with m21 m22
 subst m1 m21 m22
 have HC := iD (fun (wr : World) (hb : bo w0 wr L S K f b) => yZ hb hp.ok)
 rw [hq] at HC
 have HR := iD (fun (wr : World) (L5 : Lc) (S5 : Sc) (K5 : Kc) (hz : Pw w0 wr L5 S5 K5 f5 b6 p (bF L.d K.D (xa y g) (ba r b)) r y g b) => Ts (n := n) hz.rk hz.ra hz.bk.cY tU (fun hb => jJ.xI hs hz.ra.ok (hp.up hb).1) oM)
 rw [Oz] at HR
 have oX := iD (O7 hp)
 rw [hq] at oX
 have lU := iD m3
 have SM := (oq b g).p
 rw [Oz] at SM
 have HG5 : Hid (g5.pg = g.pg) := SM
 clear hq Oz m3 SM
 obtain ⟨W, hW⟩ := ex (w.alloc (.cells Z 52))
 have H0 := iD (Dz.start h Z hW)
 have d0 := (cell_of_row W w.heap.size 0 Z 52 (0, 0) H0.bx.row).trans xV
 rw [hZ]
 clear hZ h hs hp tU hP hA hB
 go_enter func14, ntmps14
 go_upto_region 31 with (fail)
 have d1 := (cell_of_row W p 1 _ 50 (0, 0) H0.pw.row).trans ec
 go_wp2_with (fail)
 refine (HC _ H0.pw.bk).mono ?_
 rintro e v5 ⟨rfl, L5, S5, K5, kH, lG⟩
 have H2 := iD (H0.prog kH lG)
 have uY := iD kH.d
 have Di := iD kH.ld
 clear kH lG
 clear d1
 go_upto_region 33 with (fail)
 refine rK H2 18 fun H3 => ?_
 refine kP 0 p 0 H3.f2 ?_
 refine kP 1 p 0 H3.f2 ?_
 refine kP 2 p 0 H3.f2 ?_
 refine kP 3 p 0 H3.f2 ?_
 refine kP 4 p 8 H3.f2 ?_
 refine tM 5 _ rfl (zn (fun _ hS => hS.1)) H3.f2 ?_
 refine kP 6 p 0 H3.f2 ?_
 refine kP 7 p 0 H3.f2 ?_
 refine kP 8 p 2 H3.f2 ?_
 refine tM 9 _ rfl (vc (fun _ hS => hS.1)) H3.f2 ?_
 refine kI 10 (cW (HR _ _ _ _ H3.pw) ?_)
 rintro e v6 ⟨r6, y6, rfl, kD, Le, xy, fB⟩
 rw [← HG5] at kD
 have H4 := iD (H3.ref fB kD Le xy)
 clear kD Le xy fB
 refine rX H4.f2 ?_
 refine tK 11 (.tuple #[.agg (ba r6 b6), .agg (xa y6 g5), .int .i64 RV, .int .i64 Tq]) H4.f2 ?_
 refine kA 12 (ba r6 b6) H4.f2 ?_
 refine kA 13 (xa y6 g5) H4.f2 ?_
 refine kN 14 RV H4.f2 ?_
 refine kN 15 Tq H4.f2 ?_
 refine kP 16 p 0 H4.f2 ?_
 refine kP 17 p 8 H4.f2 ?_
 refine kL (Ea H4 fun u5 H5 => ?_)
 refine vP 19 p 0 trivial ?_
 refine vP 20 p 2 trivial ?_
 refine wI 21 (RU H5 fun u6 H6 => ?_)
 refine ⟨trivial, ?_⟩
 refine vN 22 RV trivial ?_
 refine vN 23 Tq trivial ?_
 refine wD ?_
 exact dE (gQ H6.pw.row ec) (oB.mk' H6 Di uY lU oX)
theorem ry (H : M8 w0 w L S K f g b p r y n k A B P np cp pk) (hk : k % 16 = 8 ∨ k % 16 = 9 ∨ k % 16 = 10 ∨ k % 16 = 11) : zm w0 w L S p f b n k A B P np cp := by
 obtain ⟨h, hs, hp, hn, Bb, hA, hB, hP, fA, Gx, qI⟩ := H
 unfold zm
 rcases hk with hk | hk | hk | hk
 all_goals
  obtain ⟨Z, hZ, HZ, xV, oy, Jq, DJ⟩ := M9 k A B P np cp
  have HS := iD hs
  have lV := iD hp
  have tU : bU g b := bU.xI hs hp.ok
  have HH := iD h
  obtain ⟨⟨b5, f5, sl, cd⟩, hq⟩ := ex (aK b f)
  obtain ⟨⟨b6, g5, RV, Tq⟩, Oz⟩ := ex (aK b g)
  obtain ⟨m1, m2, m3⟩ := hs.aK b
  rw [hq, Oz] at m1 m2 m3
  try simp only at m1 m2 m3
  injection m2 with m21 m22
  subst m1 m21 m22
  have HC := iD (fun (wr : World) (hb : bo w0 wr L S K f b) => IN hb hp.ok)
  rw [hq] at HC
  have HR := iD (fun (wr : World) (L5 : Lc) (S5 : Sc) (K5 : Kc) (hz : Pw w0 wr L5 S5 K5 f5 b6 p (bF L.d K.D (xa y g) (ba r b)) r y g b) => Kq (n := n) hz.rk hz.ra hz.bk.cY tU (hs.pg ▸ hp.q) (fun hb => jJ.xI hs hz.ra.ok (hp.up hb).1) (fun k hk => hz.bk.eb (hz.eE k hk).1))
  rw [Oz] at HR
  have oX := iD (O2 hp)
  rw [hq] at oX
  have lU := iD m3
  have SM := (gq b g).p
  rw [Oz] at SM
  have HG5 : Hid (g5.pg = g.pg) := SM
  clear hq Oz m3 SM
  obtain ⟨W, hW⟩ := ex (w.alloc (.cells Z 52))
  have H0 := iD (Dz.start h Z hW)
  have d0 := (cell_of_row W w.heap.size 0 Z 52 (0, 0) H0.bx.row).trans xV
  rw [hZ]
  clear hZ h hs hp tU hP hA hB
  go_enter func14, ntmps14
  go_upto_region 4 with (fail)
  have d1 := (cell_of_row W p 1 _ 50 (0, 0) H0.pw.row).trans ec
  go_wp2_with (fail)
  refine (HC _ H0.pw.bk).mono ?_
  rintro e v5 ⟨rfl, L5, S5, K5, kH, lG⟩
  have H2 := iD (H0.prog kH lG)
  have uY := iD kH.d
  have Di := iD kH.ld
  clear kH lG
  clear d1
  go_upto_region 6 with (fail)
  refine rK H2 18 fun H3 => ?_
  refine kP 0 p 0 H3.f2 ?_
  refine kP 1 p 0 H3.f2 ?_
  refine kP 2 p 0 H3.f2 ?_
  refine kP 3 p 0 H3.f2 ?_
  refine kP 4 p 8 H3.f2 ?_
  refine tM 5 _ rfl (zn (fun _ hS => hS.1)) H3.f2 ?_
  refine kP 6 p 0 H3.f2 ?_
  refine kP 7 p 0 H3.f2 ?_
  refine kP 8 p 2 H3.f2 ?_
  refine tM 9 _ rfl (vc (fun _ hS => hS.1)) H3.f2 ?_
  refine kI 10 (cW (HR _ _ _ _ H3.pw) ?_)
  rintro e v6 ⟨r6, y6, rfl, kD, Le, xy, fB⟩
  rw [← HG5] at kD
  have H4 := iD (H3.ref fB kD Le xy)
  clear kD Le xy fB
  refine rX H4.f2 ?_
  refine tK 11 (.tuple #[.agg (ba r6 b6), .agg (xa y6 g5), .bool RV, .int .i64 Tq]) H4.f2 ?_
  refine kA 12 (ba r6 b6) H4.f2 ?_
  refine kA 13 (xa y6 g5) H4.f2 ?_
  refine tK 14 (.bool RV) H4.f2 ?_
  refine kN 15 Tq H4.f2 ?_
  refine kP 16 p 0 H4.f2 ?_
  refine kP 17 p 8 H4.f2 ?_
  refine kL (Ea H4 fun u5 H5 => ?_)
  refine vP 19 p 0 trivial ?_
  refine vP 20 p 2 trivial ?_
  refine wI 21 (RU H5 fun u6 H6 => ?_)
  refine ⟨trivial, ?_⟩
  refine tV 22 (.bool RV) trivial ?_
  refine vN 23 Tq trivial ?_
  refine wD ?_
  exact dE (gQ H6.pw.row ec) (oB.mk' H6 Di uY lU oX)
variable {w0 w : World} {L : Lc} {S : Sc} {K : Kc} {f g : Fl} {b : Bk} {p : Nat} {r : Rb} {y : Rc} {n k A B : Int} {P : Option Addr} {np cp : Nat} {pk : List Int}
theorem Pc (H : M8 w0 w L S K f g b p r y n k A B P np cp pk) (hk : k % 16 = 13) : zm w0 w L S p f b n k A B P np cp := by
 obtain ⟨h, hs, hp, hn, Bb, hA, hB, hP, fA, Gx, qI⟩ := H
 unfold zm
 obtain ⟨Z, hZ, HZ, xV, oy, Jq, DJ⟩ := M9 k A B P np cp
 have HS := iD hs
 have lV := iD hp
 have tU : bU g b := bU.xI hs hp.ok
 have HH := iD h
 have oX := iD (O5 hp (m := A) qI hA.2)
 have lU := iD (hs.fu A pk)
 have HC := iD (fun (wr : World) (hb : bo w0 wr L S K f b) => IK hb.st A hA P np cp pk ((hP.below hb.st.fl.below cV).more hb.n0) fA oM qI)
 have HR := iD (fun (wr : World) (L5 : Lc) (S5 : Sc) (K5 : Kc) (hz : Pw w0 wr L5 S5 K5 (fM f A pk) b p (bF L.d K.D (xa y g) (ba r b)) r y g b) => IL hz.ra hz.bk.cY A hA.1 hA.2 P np cp pk ((hP.below hz.bk.st.fl.below cV).more hz.bk.n0) fA oM qI)
 simp only [← uk] at HR
 obtain ⟨W, hW⟩ := ex (w.alloc (.cells Z 52))
 have H0 := iD (Dz.start h Z hW)
 have d0 := (cell_of_row W w.heap.size 0 Z 52 (0, 0) H0.bx.row).trans xV
 rw [hZ]
 clear hZ h hs hp tU hP hA hB
 go_enter func14, ntmps14
 go_upto_region 38 with (fail)
 refine rD H0 fun H2 => ?_
 refine vP 0 p 0 H2.f2 ?_
 refine vP 1 p 0 H2.f2 ?_
 refine vP 2 p 0 H2.f2 ?_
 refine tL 3 _ rfl (yC fun _ hS => gQ hS.1 uQ) H2.f2 ?_
 refine vP 4 w.heap.size 1 H2.f2 ?_
 refine tL 5 _ rfl (yC fun _ hS => gQ hS.2 oy) H2.f2 ?_
 refine vP 6 w.heap.size 3 H2.f2 ?_
 refine tL 7 _ rfl (yC fun _ hS => gQ hS.2 DJ) H2.f2 ?_
 refine wI 8 (cW (HC _ H2.pw.bk) ?_)
 rintro e v5 ⟨rfl, ⟨Ap5, cp5, dX⟩, kd⟩
 obtain ⟨lG, kH⟩ := H2.pw.bk.Ki dX kd
 have H3 := iD (H2.prog kH lG)
 clear kH lG dX kd
 refine rW H3.f2 ?_
 refine wD ?_
 go_upto_region 39 with (fail)
 refine rK H3 12 fun H4 => ?_
 refine kP 0 p 0 H4.f2 ?_
 refine kP 1 p 0 H4.f2 ?_
 refine kP 2 p 0 H4.f2 ?_
 refine kP 3 p 2 H4.f2 ?_
 refine tM 4 _ rfl (vc (fun _ hS => hS.1)) H4.f2 ?_
 refine kP 5 w.heap.size 1 H4.f2 ?_
 refine tM 6 _ rfl (yC fun _ hS => gQ hS.2 oy) H4.f2 ?_
 refine kP 7 w.heap.size 3 H4.f2 ?_
 refine tM 8 _ rfl (yC fun _ hS => gQ hS.2 DJ) H4.f2 ?_
 refine kI 9 (cW (HR _ _ _ _ H4.pw) ?_)
 rintro e v6 ⟨y6, rfl, Le, fB⟩
 have H5 := iD (H4.ref (g' := fM g A pk) fB (H4.pw.rk.below fB) Le (fun _ hk => hk))
 clear Le fB
 refine rX H5.f2 ?_
 refine kP 10 p 0 H5.f2 ?_
 refine kP 11 p 2 H5.f2 ?_
 refine kL (RU H5 fun u6 H6 => ?_)
 refine wD ?_
 exact dE (gQ H6.pw.row ec) (oB.mk' H6 rfl rfl lU oX)
theorem Me (H : M8 w0 w L S K f g b p r y n k A B P np cp pk) (hk : k % 16 = 15) : zm w0 w L S p f b n k A B P np cp := by
 obtain ⟨h, hs, hp, hn, Bb, hA, hB, hP, fA, Gx, qI⟩ := H
 unfold zm
 obtain ⟨Z, hZ, HZ, xV, oy, Jq, DJ⟩ := M9 k A B P np cp
 have HS := iD hs
 have lV := iD hp
 have tU : bU g b := bU.xI hs hp.ok
 have HH := iD h
 obtain ⟨⟨b5, im, cd⟩, hq⟩ := ex (dr b f A)
 have HC := iD (fun (wr : World) (hb : bo w0 wr L S K f b) => wy hb hp.ok A)
 rw [hq] at HC
 have HR := iD (fun (wr : World) (L5 : Lc) (S5 : Sc) (K5 : Kc) (hz : Pw w0 wr L5 S5 K5 f b5 p (bF L.d K.D (xa y g) (ba r b)) r y g b) => Oj (n := n) hz.rk hz.ra hz.bk.cY tU (fun hb => jJ.xI hs hz.ra.ok (hp.up hb).1) A)
 rw [hs.dr, hq] at HR
 have oX := iD (LW hp A)
 rw [hq] at oX
 clear hq
 obtain ⟨W, hW⟩ := ex (w.alloc (.cells Z 52))
 have H0 := iD (Dz.start h Z hW)
 have d0 := (cell_of_row W w.heap.size 0 Z 52 (0, 0) H0.bx.row).trans xV
 rw [hZ]
 clear hZ h hs hp tU hP hA hB
 go_enter func14, ntmps14
 go_upto_region 49 with (fail)
 refine rD H0 fun H2 => ?_
 refine vP 0 p 0 H2.f2 ?_
 refine vP 1 p 0 H2.f2 ?_
 refine vP 2 p 1 H2.f2 ?_
 refine tL 3 _ rfl (yC fun _ hS => gQ hS.1 ec) H2.f2 ?_
 refine vP 4 w.heap.size 1 H2.f2 ?_
 refine tL 5 _ rfl (yC fun _ hS => gQ hS.2 oy) H2.f2 ?_
 refine wI 6 (cW (HC _ H2.pw.bk) ?_)
 rintro e v5 ⟨A5, n5, c5, rfl, JO, Ns, YS, VE, L5, S5, K5, kH, lG⟩
 have AF : Hid (cn (ea L S) v5 A5 (ag .u8 im)) := VE _ H2.pw.bk.cY
 have XM := iD JO
 have PQ : Hid (ea L S p) := .inr H2.pw.pE
 have H3 := iD (H2.prog kH lG)
 have uY := iD kH.d
 have Di := iD kH.ld
 clear kH lG VE Ns YS JO
 refine rW H3.f2 ?_
 refine tV 7 (.tuple #[.slice A5 n5 c5, fx cd]) H3.f2 ?_
 refine tV 8 (.slice A5 n5 c5) H3.f2 ?_
 refine tV 9 (fx cd) H3.f2 ?_
 refine tV 10 (.slice A5 n5 c5) H3.f2 ?_
 refine tV 11 (fx cd) H3.f2 ?_
 refine wD ?_
 go_upto_region 51 with (fail)
 refine rK H3 18 fun H4 => ?_
 refine kP 0 p 0 H4.f2 ?_
 refine kP 1 p 0 H4.f2 ?_
 refine kP 2 p 0 H4.f2 ?_
 refine kP 3 p 8 H4.f2 ?_
 refine tM 4 _ rfl (zn (fun _ hS => hS.1)) H4.f2 ?_
 refine kP 5 p 0 H4.f2 ?_
 refine kP 6 p 0 H4.f2 ?_
 refine kP 7 p 2 H4.f2 ?_
 refine tM 8 _ rfl (vc (fun _ hS => hS.1)) H4.f2 ?_
 refine kP 9 w.heap.size 1 H4.f2 ?_
 refine tM 10 _ rfl (yC fun _ hS => gQ hS.2 oy) H4.f2 ?_
 refine kI 11 (cW (HR _ _ _ _ H4.pw) ?_)
 rintro e v6 ⟨A6, n6, c6, rfl, hn6, EJ, hm6, Us, kD, fB⟩
 have Fx := iD ((AF.below fY).below fB)
 have HQ6 := iD hn6
 have TI := iD Us
 have H5 := iD (H4.ref fB kD (H4.pw.ra.below fB) (fun _ hk => hk))
 clear kD fB Us hn6 EJ hm6
 refine rX H5.f2 ?_
 refine tK 12 (.tuple #[.agg (ba r b5), .slice A6 n6 c6, .int .i64 cd]) H5.f2 ?_
 refine kA 13 (ba r b5) H5.f2 ?_
 refine tK 14 (.slice A6 n6 c6) H5.f2 ?_
 refine kN 15 cd H5.f2 ?_
 refine kP 16 p 0 H5.f2 ?_
 refine kP 17 p 8 H5.f2 ?_
 refine kL ?_
 refine uV rfl (by rfl) rfl _ _ rfl p (ba r b5) rfl rfl H5.pw.row (aT _ _) (bD _ _) (bD _ _) (eY _ _) ?_
 have H6 := iD (H5.setRow (bF L.d K.D (xa y g) (ba r b5)))
 have Xv := iD (Fx.ao (ah.row v6 p (bF L.d K.D (xa y g) (ba r b5)) PQ))
 have XK := iD (TI.ao (ah.row v6 p (bF L.d K.D (xa y g) (ba r b5)) (show ea L5 S5 p from Or.inr H5.pw.pE)))
 generalize v6.setRow p (bF L.d K.D (xa y g) (ba r b5)) = u6 at H6 Xv XK ⊢
 refine tV 19 (.slice A6 n6 c6) trivial ?_
 refine vN 20 cd trivial ?_
 refine wD ?_
 have t5 := lO (c := c5) Xv.rd XM
 have t6 := lO (c := c6) XK.rd HQ6
 exact dE (gQ H6.pw.row ec) (oB.mk' H6 Di uY HS oX)
section
variable {w0 w wr w' : World} {L0 L : Lc} {S0 S S7 : Sc} {K K7 : Kc} {f : Fl} {bP b7 bR : Bk} {p : Nat} {V : Array Value} {r : Rb} {y : Rc} {g : Fl} {N : Nat} {A : Array Value}
theorem Dz.open (h : Dz w0 w wr L0 S0 L S K f bP p V r y g bR N A) (hk : bo w0 w' { L with E := fun g => L.E g ∨ g = K7.D } S7 K7 f b7) (hb : bW wr w') (h1 : wr.heap.size ≤ S7.D) (h2 : wr.heap.size ≤ S7.G) (h3 : wr.heap.size ≤ K7.D) (hv : K7.v = .slice none 0 0) :
 Dz w0 w w' L0 S0 { L with E := fun g => L.E g ∨ g = K7.D } S7 K7 f b7 p V r y g bR N A := by
 have h5 : ∀ k, k < wr.heap.size → bS { L with E := fun g => L.E g ∨ g = K7.D } S7 k → bS L S k := fun k hk h5 => by
  rcases h5 with e | e | e | e | e
  ·exact .inl e
  ·exact .inr (.inl e)
  ·exact .inr (.inr (.inl e))
  ·omega
  omega
 have bY : ∀ k, k < wr.heap.size → ea { L with E := fun g => L.E g ∨ g = K7.D } S7 k → ea L S k := fun k hk hy => by
  rcases hy with hy | hy | hy
  ·exact .inl (h5 k hk hy)
  ·exact .inr hy
  omega
 have Nn : ∀ k, k < wr.heap.size → ¬ pt L S K k → ¬ pt { L with E := fun g => L.E g ∨ g = K7.D } S7 K7 k := fun k hk hn hy => by
  rcases hy with hy | hy | hy
  ·exact hn (.inl (h5 k hk hy))
  ·omega
  rw [hv] at hy
  cases hy
 have ot : Ot wr w' L S { L with E := fun g => L.E g ∨ g = K7.D } S7 := ⟨.ak hb, bY, rfl⟩
 refine ⟨⟨hk, (h.pw.rk.dS bY).below hb, (h.pw.ra.nl bY).below hb, (hb.block _ (h.pw.bk.eb h.pw.pE)).trans h.pw.row, .inl h.pw.pE, Nn _ (h.pw.bk.eb h.pw.pE) h.pw.pN, h.pw.p0, fun k hk => ?_⟩, h.bx.ot ot, h.ot.trans ot, h.wl⟩
 obtain ⟨e1, e2, e3, e4⟩ := h.pw.eE k hk
 exact ⟨.inl e1, Nn _ (h.pw.bk.eb e1) e2, e3, e4⟩
end
theorem ca.RS {X : Nat → Prop} {x : Rc} (h : ca X w x g) : ca X w x (cX g) := by
 unfold cX
 split
 ·exact h.put false (-1) oM oM
 exact h
theorem sw (g : Fl) : (cX g).pg = g.pg := by unfold cX; split <;> rfl
section
variable {ops : Array Oper} {rest : List Oper} {o : Oper} {a : Go.Act} {w : World} {Q : Exit → Go.Act → World → Prop} {d D : Nat} {F C : Array Value}
theorem Vx (oK : o.guard = none) (x : Operand) (ho : o.op = .load 35 x) (p : Nat) (hx : a.eval x = .pointer (some ⟨p, 2, none⟩)) (hw : w.heap[p]? = some (.cells (bF d D F C) 50 (0, 0))) (hF : F.size = 6) (hC : C.size = 26)
 (h : wpList prog ops Q rest (a.put o.dst (.agg F)) w) : wpList prog ops Q (o :: rest) a w := by
 refine wpList_load_mid oK 35 x ho p 2 hx F.toList _ (Gg hw hF hC) underlying35 rfl (by rw [Array.length_toList]; exact pF hF) ?_
 rw [Array.toArray_toList]
 exact h
theorem Vi (oK : o.guard = none) (x y : Operand) (ho : o.op = .store 35 x y) (hd : o.dst = none) (p : Nat) (F' : Array Value) (hx : a.eval x = .pointer (some ⟨p, 2, none⟩)) (hy : a.eval y = .agg F') (hw : w.heap[p]? = some (.cells (bF d D F C) 50 (0, 0))) (hF : F.size = 6) (hC : C.size = 26) (IH : F'.size = 6) (h1 : F'.all (·.oneCell') = true)
 (h : wpList prog ops Q rest a (w.setRow p (bF d D F' C))) : wpList prog ops Q (o :: rest) a w := by
 refine wpList_store_mid oK 35 x y ho p 2 F' hx hy (sr hw (by rw [gv hF hC, IH]; decide)) (pF IH) h1 ?_
 rw [hd, iR F'.toList hw 2 (by rw [gv hF hC, Array.length_toList, IH]; decide), BX hF F' IH]
 exact h
variable {i : Nat} {oi : Oper} {K : Go.Act → World → Prop}
theorem Md (hi : ops[i]? = some oi) (wi : Region.wanted oi (yielded ops a.tmps) = true) (di : oi.dst = none) (x y : Operand) (ho : oi.op = .store 29 x y) (p D' : Nat) (hx : a.eval x = .pointer (some ⟨p, 1, none⟩)) (hy : a.eval y = .pointer (some ⟨D', 0, none⟩)) (hw : w.heap[p]? = some (.cells (bF d D F C) 50 (0, 0))) (h : K a (w.setRow p (bF d D' F C))) : wpOp prog ops Q i K a w := by
 refine wpOp_step hi (fun K' hK => ?_)
 rw [iP wi]
 have hc : w.cell? ⟨p, 1, none⟩ = some (.pointer (some ⟨D, 0, none⟩)) := (cell_of_row w p 1 _ 50 (0, 0) hw).trans ec
 have hf : w.frozen? ⟨p, 1, none⟩ = false := frozen_of_row w p 1 _ 50 hw
 have fL : (storeVar 29 ⟨p, 1, none⟩ (.pointer (some ⟨D', 0, none⟩))).run prog w = .ok () (w.setCell ⟨p, 1, none⟩ (.pointer (some ⟨D', 0, none⟩))) := by
  go_simp
 unfold Oper.wp execOp
 simp only [ho, hx, hy, Instr.storeAt, Instr.sureAddr, Sem.run_bind, Sem.run_pure, Result.andThen_ok, fL]
 refine hK _ _ ?_
 rw [di, lz hw, KH]
 exact h
theorem nc (hi : ops[i]? = some oi) (wi : Region.wanted oi (yielded ops a.tmps) = true) (ho : oi.op = .alloc 45) (h : K (a.put oi.dst (.pointer (some ⟨w.heap.size, 0, none⟩))) (w.alloc (.cells zB 45))) : wpOp prog ops Q i K a w := by
 refine wpOp_step hi (fun K' hK => ?_)
 rw [iP wi]
 have he : (execOp a.eval oi).run prog w = .ok (.value (.pointer (some ⟨w.heap.size, 0, none⟩))) (w.alloc (.cells zB 45)) := by
  unfold execOp
  simp only [ho]
  go_simp
 unfold Oper.wp
 rw [he]
 exact hK _ _ h
end
variable {w0 w : World} {L : Lc} {S : Sc} {K : Kc} {f g : Fl} {b : Bk} {p : Nat} {r : Rb} {y : Rc} {n k A B : Int} {P : Option Addr} {np cp : Nat} {pk : List Int}
theorem Mc (H : M8 w0 w L S K f g b p r y n k A B P np cp pk) (hk : k % 16 = 14) : zm w0 w L S p f b n k A B P np cp := by
 obtain ⟨h, hs, hp, hn, Bb, hA, hB, hP, fA, Gx, qI⟩ := H
 unfold zm
 obtain ⟨Z, hZ, HZ, xV, oy, Jq, DJ⟩ := M9 k A B P np cp
 have HS := iD hs
 have lV := iD hp
 have tU : bU g b := bU.xI hs hp.ok
 have HH := iD h
 obtain ⟨Cm, Nh, Cl⟩ := zr hp
 have Yk := iD (LV hp)
 have TW := iD (O3 hp)
 have lU := iD hs.start
 have uI := iD (fun (wr : World) (hb : bo w0 wr L S K f b) => D6 hb.st)
 have G5 := iD (fun (wr : World) (X : Nat → Prop) (hz : ca X wr y g) => D7 hz)
 simp only [← uk] at G5
 obtain ⟨z, hz⟩ := ex (dU (aQ f) (b.first : Int) (b.aa : Int))
 obtain ⟨B7, Y8⟩ := ex (dh (aQ f) (b.first : Int) (b.aa : Int))
 obtain ⟨hoE, hoB⟩ := hs.start.Ti (b.first : Int) (b.aa : Int)
 rw [hz] at hoE
 rw [Y8] at hoB TW
 have QM : dI (b.first : Int) := by have h1 := hp.ok.fw; have h2 := hp.fo.b2; unfold dI; omega
 have QT : dI (b.aa : Int) := by have h1 := hp.ok.fw; have h2 := hp.fo.b2; unfold dI; omega
 have HR := iD (fun (wr : World) (X : Nat → Prop) (h9 : ca X wr y (cX g)) (hX : ∀ k, X k → k < wr.heap.size) => Ga h9 hX (b.first : Int) (b.aa : Int) QM QT)
 simp only [← uk] at HR
 have MR := iD hoE
 have AL := iD hoB
 have P8 : Hid (B7.erase = [] ∧ B7.data = none) := by rw [← Y8]; exact ⟨rfl, rfl⟩
 have Jr := iD (fun (ur : z = 0) (wr : World) (L5 : Lc) (S5 : Sc) (K5 : Kc) (hb : bo w0 wr L5 S5 K5 (aQ f) b) => sT hb.st.fl (b.first : Int) (b.aa : Int) Nh (hz.trans ur) (hb.st.pk.cU (fun _ => .inr)))
 have FI := iD (fun (ur : z ≠ 0) (wr : World) (L5 : Lc) (S5 : Sc) (K5 : Kc) (hb : bo w0 wr L5 S5 K5 (aQ f) b) => IP hb.st.fl (b.first : Int) (b.aa : Int) Nh (by rw [hz]; exact ur) (hb.st.pk.cU (fun _ => .inr)))
 rw [hz] at FI
 rw [Y8] at Jr
 obtain ⟨fi, lk⟩ := ex (b.first : Int)
 obtain ⟨bl, cB⟩ := ex (b.aa : Int)
 have fR : Hid ((ba r b)[0]? = some (.int .i64 fi) ∧ (ba r b)[1]? = some (.int .i64 bl)) := by rw [← lk, ← cB]; exact ⟨rfl, rfl⟩
 rw [lk, cB] at HR Jr FI MR AL
 clear Cm Cl Nh hoE hoB lk cB hz Y8 QM QT
 obtain ⟨W, hW⟩ := ex (w.alloc (.cells Z 52))
 have H0 := iD (Dz.start h Z hW)
 have d0 := (cell_of_row W w.heap.size 0 Z 52 (0, 0) H0.bx.row).trans xV
 rw [hZ]
 clear hZ h hs hp tU hP hA hB
 go_enter func14, ntmps14
 go_upto_region 41 with (fail)
 have d1 := (cell_of_row W p 0 _ 50 (0, 0) H0.pw.row).trans uQ
 go_wp2_with (fail)
 refine (uI _ H0.pw.bk).mono ?_
 rintro e v5 ⟨rfl, ⟨Ap5, cp5, dX⟩, kd⟩
 obtain ⟨lG, kH⟩ := H0.pw.bk.Ki dX kd
 obtain ⟨L5, hL5⟩ := ex ({ L with Ap := Ap5, cp := cp5 })
 have hd5 : L5.d = L.d := by rw [← hL5]
 rw [hL5] at kH lG
 have uY := iD hd5
 have H2 := iD (H0.prog kH lG)
 clear kH lG dX kd hd5 hL5 d1
 go_upto_region 42 with (fail)
 refine wp_region_list ?_
 refine wV (.pointer (some ⟨p, 0, none⟩)) ?_
 refine wV (.pointer (some ⟨p, 0, none⟩)) ?_
 refine wV (.pointer (some ⟨p, 0, none⟩)) ?_
 refine wV (.pointer (some ⟨p, 2, none⟩)) ?_
 refine Vx rfl _ rfl p rfl H2.pw.row (aT _ _) (bD _ _) ?_
 simp only [nm]
 refine cP (G5 _ _ H2.pw.ra) ?_
 rintro e v6 ⟨rfl, fB⟩
 have H3 := iD (H2.ref (g' := cX g) fB (by rw [sw]; exact H2.pw.rk.below fB) ((H2.pw.ra.below fB).RS) (fun _ hk => hk))
 clear fB
 refine rP ?_
 refine wV (.pointer (some ⟨p, 0, none⟩)) ?_
 refine wV (.pointer (some ⟨p, 2, none⟩)) ?_
 refine Vi rfl _ _ rfl rfl p (xa y (cX g)) rfl rfl H3.pw.row (aT _ _) (bD _ _) (aT _ _) (mF _ _) ?_
 have H4 := iD (H3.setRow (bF L.d K.D (xa y (cX g)) (ba r b)))
 generalize v6.setRow p (bF L.d K.D (xa y (cX g)) (ba r b)) = u4 at H4 ⊢
 by_cases ur : z = 0
 ·subst ur
  have ur : (0 : Int) = 0 := rfl
  have HY := iD (fun (wr : World) (hb : bo w0 wr L5 S K (aQ f) b) => Jr ur wr L5 S K hb)
  rw [uY] at HY
  go_upto_region 43 with (fail)
  refine rD H4 fun H5 => ?_
  refine vP 0 p 0 H5.f2 ?_
  refine vP 1 p 0 H5.f2 ?_
  refine vP 2 p 0 H5.f2 ?_
  refine tL 3 _ rfl (yC fun _ hS => gQ hS.1 uQ) H5.f2 ?_
  refine vP 4 p 0 H5.f2 ?_
  refine vP 5 p 0 H5.f2 ?_
  refine vP 6 p 8 H5.f2 ?_
  refine vP 7 p 8 H5.f2 ?_
  refine tL 8 _ rfl (yC fun _ hS => gQ hS.1 ((gR (aT _ _) 0).trans fR.1)) H5.f2 ?_
  refine vP 9 p 0 H5.f2 ?_
  refine vP 10 p 0 H5.f2 ?_
  refine vP 11 p 8 H5.f2 ?_
  refine vP 12 p 9 H5.f2 ?_
  refine tL 13 _ rfl (yC fun _ hS => gQ hS.1 ((gR (aT _ _) 1).trans fR.2)) H5.f2 ?_
  refine wI 14 (cW (HY _ H5.pw.bk) ?_)
  rintro e v7 ⟨S7, K7, rfl, hk7, jB, Q6, OR, h73, VG⟩
  have H6 := iD (H5.open hk7 jB Q6 OR h73 VG)
  clear hk7 jB Q6 OR h73 VG
  obtain ⟨L7, hL7⟩ : ∃ z, ({ L5 with E := fun g => L5.E g ∨ g = K7.D } : Lc) = z := ⟨_, rfl⟩
  have HD7 : Hid (L7.d = L.d) := by rw [← hL7]; exact uY
  rw [hL7] at H6
  clear hL7
  refine rW H6.f2 ?_
  refine tV 15 (.tuple #[.pointer (some ⟨K7.D, 0, none⟩), .nilIface]) H6.f2 ?_
  refine vP 16 K7.D 0 H6.f2 ?_
  refine tV 17 .nilIface H6.f2 ?_
  refine vP 18 K7.D 0 H6.f2 ?_
  refine tV 19 .nilIface H6.f2 ?_
  refine wD ?_
  go_upto_region 44 with (fail)
  refine rK H6 19 fun H7 => ?_
  refine kP 0 p 0 H7.f2 ?_
  refine kP 1 p 0 H7.f2 ?_
  refine kP 2 p 2 H7.f2 ?_
  refine tM 3 _ rfl (vc (fun _ hS => hS.1)) H7.f2 ?_
  refine kP 4 p 0 H7.f2 ?_
  refine kP 5 p 0 H7.f2 ?_
  refine kP 6 p 8 H7.f2 ?_
  refine kP 7 p 8 H7.f2 ?_
  refine tM 8 _ rfl (yC fun _ hS => gQ hS.1 ((gR (aT _ _) 0).trans fR.1)) H7.f2 ?_
  refine kP 9 p 0 H7.f2 ?_
  refine kP 10 p 0 H7.f2 ?_
  refine kP 11 p 8 H7.f2 ?_
  refine kP 12 p 9 H7.f2 ?_
  refine tM 13 _ rfl (yC fun _ hS => gQ hS.1 ((gR (aT _ _) 1).trans fR.2)) H7.f2 ?_
  refine Db (i := 14) (j := 18) (by kernel_rfl) (by decide) (by decide) ?_ ?_
  ·refine rz (n := 12) (al := [.agg (xa y (cX g)), .int .i64 fi, .int .i64 bl]) rfl (by rfl) _ _ rfl (by rfl) ru ?_
   have rh := HR v7.drew (ea L7 S7) H7.pw.ra H7.pw.bk.cY
   refine rh.mono ?_
   clear rh
   rintro e v8 ⟨vv, rfl, kG, sM, sL⟩
   rw [MR] at sM sL ⊢
   have kq := iD (kG)
   obtain ⟨r7, rfl, WY, W1, WX, WW, WV, WU, Ll⟩ := sL rfl
   rw [AL] at Ll ⊢
   rw [← Tv]
   have FC := iD Ll
   have tm : Hid (r7.ne = 0 ∧ r7.E = none ∧ r7.np = 0 ∧ r7.ce = 0 ∧ r7.P = none ∧ r7.cp = 0) := ⟨WY, W1, WX, WW, WV, WU⟩
   clear Ll WY W1 WX WW WV WU
   clear kG sM sL
   refine rX ⟨(H7.ab kq).pw.row, (H7.ab kq).bx.row⟩ ?_
   refine tK 15 (.tuple #[(.agg (ba r7 B7)), .int .i64 0]) (⟨(H7.ab kq).pw.row, (H7.ab kq).bx.row⟩) ?_
   refine kA 16 (ba r7 B7) (⟨(H7.ab kq).pw.row, (H7.ab kq).bx.row⟩) ?_
   refine kN 17 0 (⟨(H7.ab kq).pw.row, (H7.ab kq).bx.row⟩) ?_
   refine kI 18 ?_
   refine nc rfl (by rfl) rfl ?_
   have jS := iD (kq.alloc kq.size (.cells zB 45))
   have FK := iD (heap_alloc_new v8 (.cells zB 45))
   have MP := iD (H7.pw.bk.eb H7.pw.pE)
   have abd := iD (FC.below ((Below.refl v8.heap.size v8).alloc cV (.cells zB 45)))
   obtain ⟨qE, mu⟩ := ex v8.heap.size
   obtain ⟨Qd, o7⟩ := ex (v8.alloc (.cells zB 45))
   have HG : Hid (v7.drew.heap.size ≤ qE) := by rw [← mu]; exact kq.size
   rw [o7] at jS FK abd
   rw [mu] at FK
   rw [o7, mu]
   have G6 : Hid (bW v8 Qd) := by rw [← o7]; exact bV.alloc cV _
   have abr := iD mu
   have XI := FC
   clear o7 mu
   refine ⟨⟨(H7.ab jS).pw.row, (H7.ab jS).bx.row⟩, ?_⟩
   change fC _ _ _ _ _ _ _ _ (Act.put _ (some 14) _) _
   simp only [nm]
   refine kL ?_
   refine fO rfl (by rfl) rfl 45 _ _ rfl qE (ba r7 B7) zB rfl rfl 45 FK (gJ (bD r7 B7)) ((rfl : zB.size = 26).trans (bD r7 B7).symm) (eY r7 B7) ?_
   have xj := iD (below_setRow jS HG (ba r7 B7))
   have jR := iD (setRow_heap _ _ zB (ba r7 B7) 45 _ FK)
   have MN := iD (FC.below (below_setRow G6 (by rw [abr]; exact Nat.le_refl _) (ba r7 B7)))
   obtain ⟨FX, qk⟩ := ex (Qd.setRow qE (ba r7 B7))
   rw [qk] at xj jR MN
   rw [qk]
   have jq := iD (H7.ab xj)
   clear qk
   refine vN 20 0 trivial ?_
   refine wD ?_
   go_upto_region 47 with (fail)
   have XQ : Hid (¬ qE = p) := fun e => by have := MP.out; have := HG.out; omega
   have TF := iD (MN.below fY)
   have DR := iD (jq.ab fY)
   refine wp_region_held_drew (S := fun w' => w'.heap[qE]? = some (.cells (ba r7 B7) 45 (0, 0))) (by kernel_rfl) (jR) (fun _ => ?_)
   refine vP 0 p 0 (jR) ?_
   refine vP 1 p 0 (jR) ?_
   refine vP 2 K7.D 0 (jR) ?_
   refine tL 3 _ rfl (iQ (fun _ hS => hS) ((bD _ _))) (jR) ?_
   refine vP 4 p 0 (jR) ?_
   refine vP 5 p 1 (jR) ?_
   refine wI 6 ?_
   refine Md rfl (by rfl) rfl _ _ rfl p K7.D rfl rfl DR.pw.row ?_
   have Bp := iD (DR.setRow (bF L.d K7.D (xa y (cX g)) (ba r b)))
   have Df := iD (TF.ao (ah.row FX.drew p (bF L.d K7.D (xa y (cX g)) (ba r b)) (show ea L7 S7 p from Or.inr DR.pw.pE)))
   have tp := iD (((ah.row (X := fun k => k = p) FX.drew p (bF L.d K7.D (xa y (cX g)) (ba r b)) rfl).block qE (Array.getElem?_eq_some_iff.1 jR).1 (fun e => XQ e)).trans jR)
   generalize FX.drew.setRow p (bF L.d K7.D (xa y (cX g)) (ba r b)) = RM at Bp Df tp ⊢
   refine ⟨tp, ?_⟩
   refine vP 7 p 0 (tp) ?_
   refine vP 8 p 8 (tp) ?_
   refine wI 9 ?_
   refine uV rfl (by rfl) rfl _ _ rfl p (ba r7 B7) rfl rfl Bp.pw.row (aT _ _) (bD _ _) (bD _ _) (eY _ _) ?_
   have DQ := iD (Bp.setRow (bF L.d K7.D (xa y (cX g)) (ba r7 B7)))
   have De := iD (Df.ao (ah.row RM p (bF L.d K7.D (xa y (cX g)) (ba r7 B7)) (show ea L7 S7 p from Or.inr Bp.pw.pE)))
   have MV := iD (((ah.row (X := fun k => k = p) RM p (bF L.d K7.D (xa y (cX g)) (ba r7 B7)) rfl).block qE (Array.getElem?_eq_some_iff.1 tp).1 (fun e => XQ e)).trans tp)
   generalize RM.setRow p (bF L.d K7.D (xa y (cX g)) (ba r7 B7)) = u63 at DQ De MV ⊢
   refine ⟨MV, ?_⟩
   refine wD ?_
   have M7 := iD (DQ.ref (r' := r7) (bR' := B7) bV ⟨by rw [sw] at *; exact De, fun _ => ⟨by rw [P8.1, tm.1, tm.2.1, tm.2.2.2.1]; exact QS.nil _ _ _, by rw [P8.1, tm.1]; rfl⟩, fun _ => .inl ⟨P8.2, tm.2.2.2.2.1, tm.2.2.1, tm.2.2.2.2.2⟩⟩ DQ.pw.ra (fun k hk => by rw [tm.2.1] at hk; cases hk))
   exact dE (gQ M7.pw.row ec) (oB.mk' M7 HD7 rfl lU TW)
  refine nc rfl (by rfl) rfl ?_
  have kq := iD ((Below.refl v7.drew.heap.size v7.drew).alloc (Below.refl v7.drew.heap.size v7.drew).size (.cells zB 45))
  have MU := iD (heap_alloc_new v7.drew (.cells zB 45))
  have MP := iD (H7.pw.bk.eb H7.pw.pE)
  obtain ⟨qE, mu⟩ := ex v7.drew.heap.size
  obtain ⟨Qd, o7⟩ := ex (v7.drew.alloc (.cells zB 45))
  have HG : Hid (v7.drew.heap.size ≤ qE) := by rw [← mu]; exact (Below.refl v7.drew.heap.size v7.drew).size
  rw [o7] at kq MU
  rw [mu] at MU
  rw [o7, mu]
  clear o7 mu
  refine ⟨⟨(H7.ab kq).pw.row, (H7.ab kq).bx.row⟩, ?_⟩
  change fC _ _ _ _ _ _ _ _ (Act.put _ (some 14) _) _
  simp only [nm]
  refine kI 14 ?_
  refine rz (n := 12) (al := [.agg (xa y (cX g)), .int .i64 fi, .int .i64 bl]) rfl (by rfl) _ _ rfl (by rfl) ru ?_
  have rh := HR.out Qd (fun k => ea L7 S7 k ∨ k = qE) ((H7.out.pw.ra.nl (Y := (fun k => ea L7 S7 k ∨ k = qE)) (fun k hk hy => hy.elim id (fun e => by have := HG.out; omega))).ao (ah.ak kq.out)) (fun k hk => hk.elim (fun hk => Nat.lt_of_lt_of_le (H7.out.pw.bk.cY k hk) kq.out.size) (fun e => e ▸ (Array.getElem?_eq_some_iff.1 MU.out).1))
  refine rh.mono ?_
  clear rh
  rintro e v8 ⟨vv, rfl, kG, sM, sL⟩
  rw [MR] at sM sL ⊢
  have jS := iD ((kq.trans (kG.mono kq.size)))
  have FK := iD ((kG.block qE (Array.getElem?_eq_some_iff.1 MU).1).trans MU)
  obtain ⟨r7, rfl, WY, W1, WX, WW, WV, WU, Ll⟩ := sL rfl
  rw [AL] at Ll ⊢
  rw [← Tv]
  have FC := iD Ll
  have tm : Hid (r7.ne = 0 ∧ r7.E = none ∧ r7.np = 0 ∧ r7.ce = 0 ∧ r7.P = none ∧ r7.cp = 0) := ⟨WY, W1, WX, WW, WV, WU⟩
  clear Ll WY W1 WX WW WV WU
  clear kG sM sL
  refine rX ⟨(H7.ab jS).pw.row, (H7.ab jS).bx.row⟩ ?_
  refine tK 15 (.tuple #[(.agg (ba r7 B7)), .int .i64 0]) (⟨(H7.ab jS).pw.row, (H7.ab jS).bx.row⟩) ?_
  refine kA 16 (ba r7 B7) (⟨(H7.ab jS).pw.row, (H7.ab jS).bx.row⟩) ?_
  refine kN 17 0 (⟨(H7.ab jS).pw.row, (H7.ab jS).bx.row⟩) ?_
  refine kL ?_
  refine fO rfl (by rfl) rfl 45 _ _ rfl qE (ba r7 B7) zB rfl rfl 45 FK (gJ (bD r7 B7)) ((rfl : zB.size = 26).trans (bD r7 B7).symm) (eY r7 B7) ?_
  have xj := iD (below_setRow jS HG (ba r7 B7))
  have jR := iD (setRow_heap _ _ zB (ba r7 B7) 45 _ FK)
  have MN := iD ((FC.ao (ah.row v8 qE (ba r7 B7) (.inr rfl))).cU (Y := ea L7 S7) (fun _ => .inl))
  obtain ⟨FX, qk⟩ := ex (v8.setRow qE (ba r7 B7))
  rw [qk] at xj jR MN
  rw [qk]
  have jq := iD (H7.ab xj)
  clear qk
  refine vN 20 0 trivial ?_
  refine wD ?_
  go_upto_region 47 with (fail)
  have XQ : Hid (¬ qE = p) := fun e => by have := MP.out; have := HG.out; omega
  have TF := iD (MN.below fY)
  have DR := iD (jq.ab fY)
  refine wp_region_held_drew (S := fun w' => w'.heap[qE]? = some (.cells (ba r7 B7) 45 (0, 0))) (by kernel_rfl) (jR) (fun _ => ?_)
  refine vP 0 p 0 (jR) ?_
  refine vP 1 p 0 (jR) ?_
  refine vP 2 K7.D 0 (jR) ?_
  refine tL 3 _ rfl (iQ (fun _ hS => hS) ((bD _ _))) (jR) ?_
  refine vP 4 p 0 (jR) ?_
  refine vP 5 p 1 (jR) ?_
  refine wI 6 ?_
  refine Md rfl (by rfl) rfl _ _ rfl p K7.D rfl rfl DR.pw.row ?_
  have Bp := iD (DR.setRow (bF L.d K7.D (xa y (cX g)) (ba r b)))
  have Df := iD (TF.ao (ah.row FX.drew p (bF L.d K7.D (xa y (cX g)) (ba r b)) (show ea L7 S7 p from Or.inr DR.pw.pE)))
  have tp := iD (((ah.row (X := fun k => k = p) FX.drew p (bF L.d K7.D (xa y (cX g)) (ba r b)) rfl).block qE (Array.getElem?_eq_some_iff.1 jR).1 (fun e => XQ e)).trans jR)
  generalize FX.drew.setRow p (bF L.d K7.D (xa y (cX g)) (ba r b)) = RM at Bp Df tp ⊢
  refine ⟨tp, ?_⟩
  refine vP 7 p 0 (tp) ?_
  refine vP 8 p 8 (tp) ?_
  refine wI 9 ?_
  refine uV rfl (by rfl) rfl _ _ rfl p (ba r7 B7) rfl rfl Bp.pw.row (aT _ _) (bD _ _) (bD _ _) (eY _ _) ?_
  have DQ := iD (Bp.setRow (bF L.d K7.D (xa y (cX g)) (ba r7 B7)))
  have De := iD (Df.ao (ah.row RM p (bF L.d K7.D (xa y (cX g)) (ba r7 B7)) (show ea L7 S7 p from Or.inr Bp.pw.pE)))
  have MV := iD (((ah.row (X := fun k => k = p) RM p (bF L.d K7.D (xa y (cX g)) (ba r7 B7)) rfl).block qE (Array.getElem?_eq_some_iff.1 tp).1 (fun e => XQ e)).trans tp)
  generalize RM.setRow p (bF L.d K7.D (xa y (cX g)) (ba r7 B7)) = u63 at DQ De MV ⊢
  refine ⟨MV, ?_⟩
  refine wD ?_
  have M7 := iD (DQ.ref (r' := r7) (bR' := B7) bV ⟨by rw [sw] at *; exact De, fun _ => ⟨by rw [P8.1, tm.1, tm.2.1, tm.2.2.2.1]; exact QS.nil _ _ _, by rw [P8.1, tm.1]; rfl⟩, fun _ => .inl ⟨P8.2, tm.2.2.2.2.1, tm.2.2.1, tm.2.2.2.2.2⟩⟩ DQ.pw.ra (fun k hk => by rw [tm.2.1] at hk; cases hk))
  exact dE (gQ M7.pw.row ec) (oB.mk' M7 HD7 rfl lU TW)
 have HY := iD (fun (wr : World) (hb : bo w0 wr L5 S K (aQ f) b) => FI ur wr L5 S K hb)
 rw [uY] at HY
 go_upto_region 43 with (fail)
 refine rD H4 fun H5 => ?_
 refine vP 0 p 0 H5.f2 ?_
 refine vP 1 p 0 H5.f2 ?_
 refine vP 2 p 0 H5.f2 ?_
 refine tL 3 _ rfl (yC fun _ hS => gQ hS.1 uQ) H5.f2 ?_
 refine vP 4 p 0 H5.f2 ?_
 refine vP 5 p 0 H5.f2 ?_
 refine vP 6 p 8 H5.f2 ?_
 refine vP 7 p 8 H5.f2 ?_
 refine tL 8 _ rfl (yC fun _ hS => gQ hS.1 ((gR (aT _ _) 0).trans fR.1)) H5.f2 ?_
 refine vP 9 p 0 H5.f2 ?_
 refine vP 10 p 0 H5.f2 ?_
 refine vP 11 p 8 H5.f2 ?_
 refine vP 12 p 9 H5.f2 ?_
 refine tL 13 _ rfl (yC fun _ hS => gQ hS.1 ((gR (aT _ _) 1).trans fR.2)) H5.f2 ?_
 refine wI 14 (cW (HY _ H5.pw.bk) ?_)
 rintro e v7 ⟨rfl, jB⟩
 have H6 := iD (H5.ab jB)
 clear jB
 refine rW H6.f2 ?_
 refine tV 15 (.tuple #[.pointer none, fx z]) H6.f2 ?_
 refine tV 16 (.pointer none) H6.f2 ?_
 refine tV 17 (fx z) H6.f2 ?_
 refine tV 18 (.pointer none) H6.f2 ?_
 refine tV 19 (fx z) H6.f2 ?_
 refine wD ?_
 go_upto_region 44 with (fail)
 refine rK H6 19 fun H7 => ?_
 refine kP 0 p 0 H7.f2 ?_
 refine kP 1 p 0 H7.f2 ?_
 refine kP 2 p 2 H7.f2 ?_
 refine tM 3 _ rfl (vc (fun _ hS => hS.1)) H7.f2 ?_
 refine kP 4 p 0 H7.f2 ?_
 refine kP 5 p 0 H7.f2 ?_
 refine kP 6 p 8 H7.f2 ?_
 refine kP 7 p 8 H7.f2 ?_
 refine tM 8 _ rfl (yC fun _ hS => gQ hS.1 ((gR (aT _ _) 0).trans fR.1)) H7.f2 ?_
 refine kP 9 p 0 H7.f2 ?_
 refine kP 10 p 0 H7.f2 ?_
 refine kP 11 p 8 H7.f2 ?_
 refine kP 12 p 9 H7.f2 ?_
 refine tM 13 _ rfl (yC fun _ hS => gQ hS.1 ((gR (aT _ _) 1).trans fR.2)) H7.f2 ?_
 refine Db (i := 14) (j := 18) (by kernel_rfl) (by decide) (by decide) ?_ ?_
 ·refine rz (n := 12) (al := [.agg (xa y (cX g)), .int .i64 fi, .int .i64 bl]) rfl (by rfl) _ _ rfl (by rfl) ru ?_
  have rh := HR v7.drew (ea L5 S) H7.pw.ra H7.pw.bk.cY
  refine rh.mono ?_
  clear rh
  rintro e v8 ⟨vv, rfl, kG, sM, sL⟩
  rw [MR] at sM sL ⊢
  have kq := iD (kG)
  obtain rfl := sM ur
  clear kG sM sL
  refine rX ⟨(H7.ab kq).pw.row, (H7.ab kq).bx.row⟩ ?_
  refine tK 15 (.tuple #[(.agg eF), .int .i64 z]) (⟨(H7.ab kq).pw.row, (H7.ab kq).bx.row⟩) ?_
  refine kA 16 eF (⟨(H7.ab kq).pw.row, (H7.ab kq).bx.row⟩) ?_
  refine kN 17 z (⟨(H7.ab kq).pw.row, (H7.ab kq).bx.row⟩) ?_
  refine kI 18 ?_
  refine nc rfl (by rfl) rfl ?_
  have jS := iD (kq.alloc kq.size (.cells zB 45))
  have FK := iD (heap_alloc_new v8 (.cells zB 45))
  have MP := iD (H7.pw.bk.eb H7.pw.pE)
  obtain ⟨qE, mu⟩ := ex v8.heap.size
  obtain ⟨Qd, o7⟩ := ex (v8.alloc (.cells zB 45))
  have HG : Hid (v7.drew.heap.size ≤ qE) := by rw [← mu]; exact kq.size
  rw [o7] at jS FK
  rw [mu] at FK
  rw [o7, mu]
  clear o7 mu
  refine ⟨⟨(H7.ab jS).pw.row, (H7.ab jS).bx.row⟩, ?_⟩
  change fC _ _ _ _ _ _ _ _ (Act.put _ (some 14) _) _
  simp only [nm]
  refine kL ?_
  refine fO rfl (by rfl) rfl 45 _ _ rfl qE eF zB rfl rfl 45 FK (gJ (rfl : eF.size = 26)) ((rfl : zB.size = eF.size)) zI ?_
  have xj := iD (below_setRow jS HG eF)
  have jR := iD (setRow_heap _ _ zB eF 45 _ FK)
  obtain ⟨FX, qk⟩ := ex (Qd.setRow qE eF)
  rw [qk] at xj jR
  rw [qk]
  have jq := iD (H7.ab xj)
  clear qk
  refine vN 20 z trivial ?_
  refine wD ?_
  have Cj : (z == 0) = false := by simpa using ur
  exact dE (gQ jq.pw.row ec) (oB.mk' jq uY rfl lU Yk)
 refine nc rfl (by rfl) rfl ?_
 have kq := iD ((Below.refl v7.drew.heap.size v7.drew).alloc (Below.refl v7.drew.heap.size v7.drew).size (.cells zB 45))
 have MU := iD (heap_alloc_new v7.drew (.cells zB 45))
 have MP := iD (H7.pw.bk.eb H7.pw.pE)
 obtain ⟨qE, mu⟩ := ex v7.drew.heap.size
 obtain ⟨Qd, o7⟩ := ex (v7.drew.alloc (.cells zB 45))
 have HG : Hid (v7.drew.heap.size ≤ qE) := by rw [← mu]; exact (Below.refl v7.drew.heap.size v7.drew).size
 rw [o7] at kq MU
 rw [mu] at MU
 rw [o7, mu]
 clear o7 mu
 refine ⟨⟨(H7.ab kq).pw.row, (H7.ab kq).bx.row⟩, ?_⟩
 change fC _ _ _ _ _ _ _ _ (Act.put _ (some 14) _) _
 simp only [nm]
 refine kI 14 ?_
 refine rz (n := 12) (al := [.agg (xa y (cX g)), .int .i64 fi, .int .i64 bl]) rfl (by rfl) _ _ rfl (by rfl) ru ?_
 have rh := HR.out Qd (fun k => ea L5 S k ∨ k = qE) ((H7.out.pw.ra.nl (Y := (fun k => ea L5 S k ∨ k = qE)) (fun k hk hy => hy.elim id (fun e => by have := HG.out; omega))).ao (ah.ak kq.out)) (fun k hk => hk.elim (fun hk => Nat.lt_of_lt_of_le (H7.out.pw.bk.cY k hk) kq.out.size) (fun e => e ▸ (Array.getElem?_eq_some_iff.1 MU.out).1))
 refine rh.mono ?_
 clear rh
 rintro e v8 ⟨vv, rfl, kG, sM, sL⟩
 rw [MR] at sM sL ⊢
 have jS := iD ((kq.trans (kG.mono kq.size)))
 have FK := iD ((kG.block qE (Array.getElem?_eq_some_iff.1 MU).1).trans MU)
 obtain rfl := sM ur
 clear kG sM sL
 refine rX ⟨(H7.ab jS).pw.row, (H7.ab jS).bx.row⟩ ?_
 refine tK 15 (.tuple #[(.agg eF), .int .i64 z]) (⟨(H7.ab jS).pw.row, (H7.ab jS).bx.row⟩) ?_
 refine kA 16 eF (⟨(H7.ab jS).pw.row, (H7.ab jS).bx.row⟩) ?_
 refine kN 17 z (⟨(H7.ab jS).pw.row, (H7.ab jS).bx.row⟩) ?_
 refine kL ?_
 refine fO rfl (by rfl) rfl 45 _ _ rfl qE eF zB rfl rfl 45 FK (gJ (rfl : eF.size = 26)) ((rfl : zB.size = eF.size)) zI ?_
 have xj := iD (below_setRow jS HG eF)
 have jR := iD (setRow_heap _ _ zB eF 45 _ FK)
 obtain ⟨FX, qk⟩ := ex (v8.setRow qE eF)
 rw [qk] at xj jR
 rw [qk]
 have jq := iD (H7.ab xj)
 clear qk
 refine vN 20 z trivial ?_
 refine wD ?_
 have Cj : (z == 0) = false := by simpa using ur
 exact dE (gQ jq.pw.row ec) (oB.mk' jq uY rfl lU Yk)
theorem Tp {w0 : World} {L : Lc} {S : Sc} {K : Kc} {f : Fl} {b : Bk} {p : Nat} {r : Rb} {y : Rc} {n : Int} (h : Pw w0 w L S K f b p (bF L.d K.D (xa y g) (ba r b)) r y g b) (hs : fE f g) (hp : jH f b n) (hn : n < 999000) (k A B : Int) (Bb : 0 ≤ k ∧ k < 256) (hA : dI A) (hB : dI B) (P : Option Addr) (np cp : Nat) (pk : List Int) (hP : Rd w0 w0.heap.size P (ag .u8 pk)) (fA : pk.length = np) (Gx : np ≤ 140737488351232) (qI : Bytes pk) : Calls prog 14 #[.pointer (some ⟨p, 0, none⟩), .agg #[.int .u8 k, .int .i64 A, .int .i64 B, .slice P np cp]] w (oB w0 w L S p f b n) := by
 have hc : k % 16 = 0 ∨ k % 16 = 1 ∨ k % 16 = 2 ∨ k % 16 = 3 ∨ k % 16 = 4 ∨ k % 16 = 5 ∨ k % 16 = 6 ∨ k % 16 = 7 ∨ k % 16 = 8 ∨ k % 16 = 9 ∨ k % 16 = 10 ∨ k % 16 = 11 ∨ k % 16 = 12 ∨ k % 16 = 13 ∨ k % 16 = 14 ∨ k % 16 = 15 := oM
 have H : M8 w0 w L S K f g b p r y n k A B P np cp pk := ⟨h, hs, hp, hn, Bb, hA, hB, hP, fA, Gx, qI⟩
 rcases hc with e | e | e | e | e | e | e | e | e | e | e | e | e | e | e | e
 ·exact Mf H e
 ·exact wH H (.inl e)
 ·exact wH H (.inr (.inl e))
 ·exact wH H (.inr (.inr e))
 ·exact wG H (.inl e)
 ·exact wG H (.inr e)
 ·exact Mg H e
 ·exact E4 H e
 ·exact ry H (.inl e)
 ·exact ry H (.inr (.inl e))
 ·exact ry H (.inr (.inr (.inl e)))
 ·exact ry H (.inr (.inr (.inr e)))
 ·exact Pd H e
 ·exact Pc H e
 ·exact Mc H e
 exact Me H e
theorem Cg (A : Option Addr) (n c : Nat) (l : List Ev) (w : World) (hA : Rd w w.heap.size A (sV l)) (hn : l.length = n) (qm : n ≤ c) (fQ : c ≤ maxLen) (dc : ∀ x ∈ l, x.ok w w.heap.size) :
 Calls prog 6 #[.slice A n c] w fun e w' => e = .returned (.bool (vM l)) ∧ bW w w' := by
 unfold maxLen at fQ
 have HA := iD hA
 have HN := iD hn
 have gX : Hid (∀ x ∈ l, x.q ≤ 9223372036854775807) := fun x hx => by
  have h := dc x hx
  have h3 := h.mp
  have h4 := h.cp
  unfold maxLen at h4
  omega
 have HS := iD (FY l)
 clear hA hn dc
 go_enter func6, ntmps6
 go_wp2
 go_loopw [3, 8] (fun s i wr => ∃ k : Nat, k ≤ n ∧ i = .int .i64 k ∧ (∃ z : Int, s = .int .i64 z ∧ (k ≤ 200 → z = (mJ (l.take k) : Nat))) ∧ bW w wr) (fun _ i _ => n - (intOf i).toNat)
 case atStart => exact ⟨0, oM, rfl, ⟨0, rfl, fun _ => rfl⟩, Below.refl _ _⟩
 case round =>
  obtain ⟨k, hk, rfl, ⟨z, rfl, hz⟩, hB⟩ := hrel
  have HB := iD hB
  have Qr : w.heap.size ≤ wr.heap.size := hB.size
  clear hB
  by_cases aY : k < n
  ·obtain ⟨x, hx⟩ := getElem?_of_lt (l := l) (k := k) (by rw [HN]; exact aY)
   have JP := gX x (List.mem_of_getElem? hx)
   obtain ⟨b, off, rfl, cB, c0, c1, c2, c3⟩ := (HA.below HB cV).ev hx
   by_cases QK : k < 200
   ·have hz' := hz oM
    subst hz'
    have Ow : mJ (l.take (k + 1)) = mJ (l.take k) + (10 + min x.q 10000) := by
     rw [bA l k x hx, BB]
     simp [mJ]
    have lR : mJ (l.take k) ≤ 10010 * k := by
     have := FY (l.take k)
     rw [List.length_take] at this
     omega
    obtain ⟨S, hS⟩ := ex (mJ (l.take k))
    obtain ⟨S', OO⟩ := ex (mJ (l.take (k + 1)))
    rw [hS, OO] at Ow
    have HS' := iD OO
    rw [hS] at lR ⊢
    obtain ⟨u2, Sh⟩ := ex (min x.q 10000)
    have m2 : min (x.q : Int) 10000 = (u2 : Int) := oM
    have abU : u2 ≤ 10000 := oM
    rw [Sh] at Ow
    have PF := iD Ow
    clear hx hz hS OO Sh Ow
    go_wp2
    go_roundw
    case rel => exact ⟨k + 1, oM, by go_num, ⟨_, rfl, fun _ => by rw [HS'.out]; have := PF.out; go_num⟩, HB.out.alloc Qr _⟩
    case measure => simp [intOf]; omega
   clear hx hz
   go_wp2
   go_roundw
   case rel => exact ⟨k + 1, oM, by go_num, ⟨_, rfl, fun h => oM⟩, HB.alloc Qr _⟩
   case measure => simp [intOf]; omega
  have kE : k = n := oM
  subst kE
  have ht : l.take k = l := List.take_of_length_le (by rw [HN]; omega)
  rw [ht] at hz
  have HL : Hid (vM l = decide (200 < k ∨ 20000 < mJ l)) := by unfold vM; rw [Hid, HN]
  generalize mJ l = S at HL hz
  clear HS ht
  by_cases h1 : 200 < k
  ·clear hz
   go_wp2
   go_ret
   exact ⟨by rw [HL, decide_eq_true (show 200 < k ∨ 20000 < S from Or.inl h1)]; rfl, HB⟩
  have hz' := hz oM
  subst hz'
  clear hz
  by_cases h2 : 20000 < S
  ·go_wp2
   go_ret
   exact ⟨by rw [HL, decide_eq_true (show 200 < k ∨ 20000 < S from Or.inr h2)]; first | rfl | (show Ending.returned (Value.bool (decide ((200 : Int) < (k : Int)) || decide ((20000 : Int) < (S : Int)))) = _; rw [decide_eq_true (show (20000 : Int) < (S : Int) by omega), Bool.or_true]), HB⟩
  go_wp2
  go_ret
  exact ⟨by rw [HL, decide_eq_false (show ¬ (200 < k ∨ 20000 < S) from fun h => h.elim h1 h2)]; first | rfl | (show Ending.returned (Value.bool (decide ((200 : Int) < (k : Int)) || decide ((20000 : Int) < (S : Int)))) = _; rw [decide_eq_false (show ¬ (20000 : Int) < (S : Int) by omega), decide_eq_false (show ¬ (200 : Int) < (k : Int) by omega)]; rfl), HB⟩
end Go.Proofs.YtjdknddnanopaaaGreat
