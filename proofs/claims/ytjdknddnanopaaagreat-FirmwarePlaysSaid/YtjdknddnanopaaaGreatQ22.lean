/-
  Part 22 of the proof.
-/
import Derived.Test.YtjdknddnanopaaaGreatQ21
namespace Go.Proofs.YtjdknddnanopaaaGreat
open Go.RowKit Tryz
set_option maxRecDepth 100000
set_option maxHeartbeats 16000000
set_option linter.all false
variable {w : World} {g : Fl}
section
variable {w0 w wr w' : World} {L0 L : Lc} {S0 S : Sc} {K : Kc} {f f' : Fl} {bP bR : Bk} {p : Nat} {V : Array Value} {r : Rb} {y : Rc} {g : Fl} {N : Nat} {A : Array Value}
theorem bo.Kk (h : bo w0 w L S K f bP) {Ap : Option Addr} {cp : Nat} (hs : bM w0 w' { L with Ap := Ap, cp := cp } S f' bP.st) (ho : ah (bQ L S) w w') : bo w0 w' { L with Ap := Ap, cp := cp } S K f' bP ∧ bY w w' L S K { L with Ap := Ap, cp := cp } S K :=
 ⟨h.Vh hs ho, ho.more (fun _ h5 => .inl h5), fun _ _ hk => hk, fun _ _ hk => hk, fun _ hk => hk, rfl, rfl, rfl, rfl⟩
end
variable {w0 w : World} {L : Lc} {S : Sc} {K : Kc} {f g : Fl} {b : Bk} {p : Nat} {r : Rb} {y : Rc} {n k A B : Int} {P : Option Addr} {np cp : Nat} {pk : List Int}
theorem O3 (H : M5 w0 w L S K f g b p r y n k A B P np cp pk) (hk : k % 16 = 12) : zn w0 w L S p f b n k A B P np cp := by
 obtain ⟨h, hs, hp, hn, A0, hA, hB, hP, fQ, Gp, qz⟩ := H
 unfold zn
 obtain ⟨Z, hZ, HZ, xT, nB, Jk, DA⟩ := M6 k A B P np cp
 have HS := iD hs
 have nj := iD hp
 have tZ : bS g b := bS.xG hs hp.ok
 have HH := iD h
 obtain ⟨⟨b5, f5, sl, cd⟩, hq⟩ := ex (cz b f)
 obtain ⟨⟨b6, g5, RD, S3⟩, Om⟩ := ex (cz b g)
 obtain ⟨m1, m2, m3⟩ := hs.cz b
 rw [hq, Om] at m1 m2 m3
 try simp only at m1 m2 m3
 injection m2 with m21 m22
 subst m1 m21 m22
 have HC := iD (fun (wr : World) (hb : bo w0 wr L S K f b) => yW hb hp.ok)
 rw [hq] at HC
 have HR := iD (fun (wr : World) (L5 : Lc) (S5 : Sc) (K5 : Kc) (hz : Pw w0 wr L5 S5 K5 f5 b6 p (bE L.d K.D (xa y g) (ba r b)) r y g b) => Ta (n := n) hz.rk hz.ra hz.bk.dY tZ (fun hb => jJ.xG hs hz.ra.ok (hp.up hb).1) oM)
 rw [Om] at HR
 have tv := iD (OW hp)
 rw [hq] at tv
 have lV := iD m3
 have Su := (og b g).p
 rw [Om] at Su
 have HG5 : Hid (g5.pg = g.pg) := Su
 clear hq Om m3 Su
 obtain ⟨W, hW⟩ := ex (w.alloc (.cells Z 52))
 have H0 := iD (Dz.start h Z hW)
 have d0 := (cell_of_row W w.heap.size 0 Z 52 (0, 0) H0.bx.row).trans xT
 rw [hZ]
 clear hZ h hs hp tZ hP hA hB
 go_enter func14, ntmps14
 go_upto_region 31 with (fail)
 have d1 := (cell_of_row W p 1 _ 50 (0, 0) H0.pw.row).trans dN
 go_wp2_with (fail)
 refine (HC _ H0.pw.bk).mono ?_
 rintro e v5 ⟨rfl, L5, S5, K5, kJ, mu⟩
 have H2 := iD (H0.prog kJ mu)
 have uZ := iD kJ.d
 have Dc := iD kJ.ld
 clear kJ mu
 clear d1
 go_upto_region 33 with (fail)
 refine rK H2 18 fun H3 => ?_
 refine kP 0 p 0 H3.f2 ?_
 refine kP 1 p 0 H3.f2 ?_
 refine kP 2 p 0 H3.f2 ?_
 refine kP 3 p 0 H3.f2 ?_
 refine kP 4 p 8 H3.f2 ?_
 refine tM 5 _ rfl (zo (fun _ hS => hS.1)) H3.f2 ?_
 refine kP 6 p 0 H3.f2 ?_
 refine kP 7 p 0 H3.f2 ?_
 refine kP 8 p 2 H3.f2 ?_
 refine tM 9 _ rfl (vd (fun _ hS => hS.1)) H3.f2 ?_
 refine kI 10 (cW (HR _ _ _ _ H3.pw) ?_)
 rintro e v6 ⟨r6, y6, rfl, kF, Ld, xx, fx⟩
 rw [← HG5] at kF
 have H4 := iD (H3.ref fx kF Ld xx)
 clear kF Ld xx fx
 refine rX H4.f2 ?_
 refine tK 11 (.tuple #[.agg (ba r6 b6), .agg (xa y6 g5), .int .i64 RD, .int .i64 S3]) H4.f2 ?_
 refine kA 12 (ba r6 b6) H4.f2 ?_
 refine kA 13 (xa y6 g5) H4.f2 ?_
 refine kN 14 RD H4.f2 ?_
 refine kN 15 S3 H4.f2 ?_
 refine kP 16 p 0 H4.f2 ?_
 refine kP 17 p 8 H4.f2 ?_
 refine kL (DY H4 fun u5 H5 => ?_)
 refine vP 19 p 0 trivial ?_
 refine vP 20 p 2 trivial ?_
 refine wI 21 (RB H5 fun u6 H6 => ?_)
 refine ⟨trivial, ?_⟩
 refine vN 22 RD trivial ?_
 refine vN 23 S3 trivial ?_
 refine wD ?_
 exact dE (gH H6.pw.row dN) (oy.mk' H6 Dc uZ lV tv)
theorem rr (H : M5 w0 w L S K f g b p r y n k A B P np cp pk) (hk : k % 16 = 8 ∨ k % 16 = 9 ∨ k % 16 = 10 ∨ k % 16 = 11) : zn w0 w L S p f b n k A B P np cp := by
 obtain ⟨h, hs, hp, hn, A0, hA, hB, hP, fQ, Gp, qz⟩ := H
 unfold zn
 rcases hk with hk | hk | hk | hk
 all_goals
  obtain ⟨Z, hZ, HZ, xT, nB, Jk, DA⟩ := M6 k A B P np cp
  have HS := iD hs
  have nj := iD hp
  have tZ : bS g b := bS.xG hs hp.ok
  have HH := iD h
  obtain ⟨⟨b5, f5, sl, cd⟩, hq⟩ := ex (aK b f)
  obtain ⟨⟨b6, g5, RD, S3⟩, Om⟩ := ex (aK b g)
  obtain ⟨m1, m2, m3⟩ := hs.aK b
  rw [hq, Om] at m1 m2 m3
  try simp only at m1 m2 m3
  injection m2 with m21 m22
  subst m1 m21 m22
  have HC := iD (fun (wr : World) (hb : bo w0 wr L S K f b) => IH hb hp.ok)
  rw [hq] at HC
  have HR := iD (fun (wr : World) (L5 : Lc) (S5 : Sc) (K5 : Kc) (hz : Pw w0 wr L5 S5 K5 f5 b6 p (bE L.d K.D (xa y g) (ba r b)) r y g b) => Ks (n := n) hz.rk hz.ra hz.bk.dY tZ (hs.pg ▸ hp.q) (fun hb => jJ.xG hs hz.ra.ok (hp.up hb).1) (fun k hk => hz.bk.eb (hz.eE k hk).1))
  rw [Om] at HR
  have tv := iD (OR hp)
  rw [hq] at tv
  have lV := iD m3
  have Su := (gv b g).p
  rw [Om] at Su
  have HG5 : Hid (g5.pg = g.pg) := Su
  clear hq Om m3 Su
  obtain ⟨W, hW⟩ := ex (w.alloc (.cells Z 52))
  have H0 := iD (Dz.start h Z hW)
  have d0 := (cell_of_row W w.heap.size 0 Z 52 (0, 0) H0.bx.row).trans xT
  rw [hZ]
  clear hZ h hs hp tZ hP hA hB
  go_enter func14, ntmps14
  go_upto_region 4 with (fail)
  have d1 := (cell_of_row W p 1 _ 50 (0, 0) H0.pw.row).trans dN
  go_wp2_with (fail)
  refine (HC _ H0.pw.bk).mono ?_
  rintro e v5 ⟨rfl, L5, S5, K5, kJ, mu⟩
  have H2 := iD (H0.prog kJ mu)
  have uZ := iD kJ.d
  have Dc := iD kJ.ld
  clear kJ mu
  clear d1
  go_upto_region 6 with (fail)
  refine rK H2 18 fun H3 => ?_
  refine kP 0 p 0 H3.f2 ?_
  refine kP 1 p 0 H3.f2 ?_
  refine kP 2 p 0 H3.f2 ?_
  refine kP 3 p 0 H3.f2 ?_
  refine kP 4 p 8 H3.f2 ?_
  refine tM 5 _ rfl (zo (fun _ hS => hS.1)) H3.f2 ?_
  refine kP 6 p 0 H3.f2 ?_
  refine kP 7 p 0 H3.f2 ?_
  refine kP 8 p 2 H3.f2 ?_
  refine tM 9 _ rfl (vd (fun _ hS => hS.1)) H3.f2 ?_
  refine kI 10 (cW (HR _ _ _ _ H3.pw) ?_)
  rintro e v6 ⟨r6, y6, rfl, kF, Ld, xx, fx⟩
  rw [← HG5] at kF
  have H4 := iD (H3.ref fx kF Ld xx)
  clear kF Ld xx fx
  refine rX H4.f2 ?_
  refine tK 11 (.tuple #[.agg (ba r6 b6), .agg (xa y6 g5), .bool RD, .int .i64 S3]) H4.f2 ?_
  refine kA 12 (ba r6 b6) H4.f2 ?_
  refine kA 13 (xa y6 g5) H4.f2 ?_
  refine tK 14 (.bool RD) H4.f2 ?_
  refine kN 15 S3 H4.f2 ?_
  refine kP 16 p 0 H4.f2 ?_
  refine kP 17 p 8 H4.f2 ?_
  refine kL (DY H4 fun u5 H5 => ?_)
  refine vP 19 p 0 trivial ?_
  refine vP 20 p 2 trivial ?_
  refine wI 21 (RB H5 fun u6 H6 => ?_)
  refine ⟨trivial, ?_⟩
  refine tV 22 (.bool RD) trivial ?_
  refine vN 23 S3 trivial ?_
  refine wD ?_
  exact dE (gH H6.pw.row dN) (oy.mk' H6 Dc uZ lV tv)
variable {w0 w : World} {L : Lc} {S : Sc} {K : Kc} {f g : Fl} {b : Bk} {p : Nat} {r : Rb} {y : Rc} {n k A B : Int} {P : Option Addr} {np cp : Nat} {pk : List Int}
theorem O2 (H : M5 w0 w L S K f g b p r y n k A B P np cp pk) (hk : k % 16 = 13) : zn w0 w L S p f b n k A B P np cp := by
 obtain ⟨h, hs, hp, hn, A0, hA, hB, hP, fQ, Gp, qz⟩ := H
 unfold zn
 obtain ⟨Z, hZ, HZ, xT, nB, Jk, DA⟩ := M6 k A B P np cp
 have HS := iD hs
 have nj := iD hp
 have tZ : bS g b := bS.xG hs hp.ok
 have HH := iD h
 have tv := iD (OU hp (m := A) qz hA.2)
 have lV := iD (hs.fu A pk)
 have HC := iD (fun (wr : World) (hb : bo w0 wr L S K f b) => IE hb.st A hA P np cp pk ((hP.below hb.st.fl.below cV).more hb.n0) fQ oM qz)
 have HR := iD (fun (wr : World) (L5 : Lc) (S5 : Sc) (K5 : Kc) (hz : Pw w0 wr L5 S5 K5 (fM f A pk) b p (bE L.d K.D (xa y g) (ba r b)) r y g b) => IF hz.ra hz.bk.dY A hA.1 hA.2 P np cp pk ((hP.below hz.bk.st.fl.below cV).more hz.bk.n0) fQ oM qz)
 simp only [← uw] at HR
 obtain ⟨W, hW⟩ := ex (w.alloc (.cells Z 52))
 have H0 := iD (Dz.start h Z hW)
 have d0 := (cell_of_row W w.heap.size 0 Z 52 (0, 0) H0.bx.row).trans xT
 rw [hZ]
 clear hZ h hs hp tZ hP hA hB
 go_enter func14, ntmps14
 go_upto_region 38 with (fail)
 refine rD H0 fun H2 => ?_
 refine vP 0 p 0 H2.f2 ?_
 refine vP 1 p 0 H2.f2 ?_
 refine vP 2 p 0 H2.f2 ?_
 refine tL 3 _ rfl (yC fun _ hS => gH hS.1 qI) H2.f2 ?_
 refine vP 4 w.heap.size 1 H2.f2 ?_
 refine tL 5 _ rfl (yC fun _ hS => gH hS.2 nB) H2.f2 ?_
 refine vP 6 w.heap.size 3 H2.f2 ?_
 refine tL 7 _ rfl (yC fun _ hS => gH hS.2 DA) H2.f2 ?_
 refine wI 8 (cW (HC _ H2.pw.bk) ?_)
 rintro e v5 ⟨rfl, ⟨Ap5, cp5, dV⟩, ke⟩
 obtain ⟨mu, kJ⟩ := H2.pw.bk.Kk dV ke
 have H3 := iD (H2.prog kJ mu)
 clear kJ mu dV ke
 refine rW H3.f2 ?_
 refine wD ?_
 go_upto_region 39 with (fail)
 refine rK H3 12 fun H4 => ?_
 refine kP 0 p 0 H4.f2 ?_
 refine kP 1 p 0 H4.f2 ?_
 refine kP 2 p 0 H4.f2 ?_
 refine kP 3 p 2 H4.f2 ?_
 refine tM 4 _ rfl (vd (fun _ hS => hS.1)) H4.f2 ?_
 refine kP 5 w.heap.size 1 H4.f2 ?_
 refine tM 6 _ rfl (yC fun _ hS => gH hS.2 nB) H4.f2 ?_
 refine kP 7 w.heap.size 3 H4.f2 ?_
 refine tM 8 _ rfl (yC fun _ hS => gH hS.2 DA) H4.f2 ?_
 refine kI 9 (cW (HR _ _ _ _ H4.pw) ?_)
 rintro e v6 ⟨y6, rfl, Ld, fx⟩
 have H5 := iD (H4.ref (g' := fM g A pk) fx (H4.pw.rk.below fx) Ld (fun _ hk => hk))
 clear Ld fx
 refine rX H5.f2 ?_
 refine kP 10 p 0 H5.f2 ?_
 refine kP 11 p 2 H5.f2 ?_
 refine kL (RB H5 fun u6 H6 => ?_)
 refine wD ?_
 exact dE (gH H6.pw.row dN) (oy.mk' H6 rfl rfl lV tv)
theorem Mc (H : M5 w0 w L S K f g b p r y n k A B P np cp pk) (hk : k % 16 = 15) : zn w0 w L S p f b n k A B P np cp := by
 obtain ⟨h, hs, hp, hn, A0, hA, hB, hP, fQ, Gp, qz⟩ := H
 unfold zn
 obtain ⟨Z, hZ, HZ, xT, nB, Jk, DA⟩ := M6 k A B P np cp
 have HS := iD hs
 have nj := iD hp
 have tZ : bS g b := bS.xG hs hp.ok
 have HH := iD h
 obtain ⟨⟨b5, im, cd⟩, hq⟩ := ex (dp b f A)
 have HC := iD (fun (wr : World) (hb : bo w0 wr L S K f b) => wA hb hp.ok A)
 rw [hq] at HC
 have HR := iD (fun (wr : World) (L5 : Lc) (S5 : Sc) (K5 : Kc) (hz : Pw w0 wr L5 S5 K5 f b5 p (bE L.d K.D (xa y g) (ba r b)) r y g b) => N9 (n := n) hz.rk hz.ra hz.bk.dY tZ (fun hb => jJ.xG hs hz.ra.ok (hp.up hb).1) A)
 rw [hs.dp, hq] at HR
 have tv := iD (LU hp A)
 rw [hq] at tv
 clear hq
 obtain ⟨W, hW⟩ := ex (w.alloc (.cells Z 52))
 have H0 := iD (Dz.start h Z hW)
 have d0 := (cell_of_row W w.heap.size 0 Z 52 (0, 0) H0.bx.row).trans xT
 rw [hZ]
 clear hZ h hs hp tZ hP hA hB
 go_enter func14, ntmps14
 go_upto_region 49 with (fail)
 refine rD H0 fun H2 => ?_
 refine vP 0 p 0 H2.f2 ?_
 refine vP 1 p 0 H2.f2 ?_
 refine vP 2 p 1 H2.f2 ?_
 refine tL 3 _ rfl (yC fun _ hS => gH hS.1 dN) H2.f2 ?_
 refine vP 4 w.heap.size 1 H2.f2 ?_
 refine tL 5 _ rfl (yC fun _ hS => gH hS.2 nB) H2.f2 ?_
 refine wI 6 (cW (HC _ H2.pw.bk) ?_)
 rintro e v5 ⟨A5, n5, c5, rfl, JN, Nn, YQ, Vt, L5, S5, K5, kJ, mu⟩
 have AE : Hid (cn (eu L S) v5 A5 (ag .u8 im)) := Vt _ H2.pw.bk.dY
 have XL := iD JN
 have PB : Hid (eu L S p) := .inr H2.pw.pE
 have H3 := iD (H2.prog kJ mu)
 have uZ := iD kJ.d
 have Dc := iD kJ.ld
 clear kJ mu Vt Nn YQ JN
 refine rW H3.f2 ?_
 refine tV 7 (.tuple #[.slice A5 n5 c5, fy cd]) H3.f2 ?_
 refine tV 8 (.slice A5 n5 c5) H3.f2 ?_
 refine tV 9 (fy cd) H3.f2 ?_
 refine tV 10 (.slice A5 n5 c5) H3.f2 ?_
 refine tV 11 (fy cd) H3.f2 ?_
 refine wD ?_
 go_upto_region 51 with (fail)
 refine rK H3 18 fun H4 => ?_
 refine kP 0 p 0 H4.f2 ?_
 refine kP 1 p 0 H4.f2 ?_
 refine kP 2 p 0 H4.f2 ?_
 refine kP 3 p 8 H4.f2 ?_
 refine tM 4 _ rfl (zo (fun _ hS => hS.1)) H4.f2 ?_
 refine kP 5 p 0 H4.f2 ?_
 refine kP 6 p 0 H4.f2 ?_
 refine kP 7 p 2 H4.f2 ?_
 refine tM 8 _ rfl (vd (fun _ hS => hS.1)) H4.f2 ?_
 refine kP 9 w.heap.size 1 H4.f2 ?_
 refine tM 10 _ rfl (yC fun _ hS => gH hS.2 nB) H4.f2 ?_
 refine kI 11 (cW (HR _ _ _ _ H4.pw) ?_)
 rintro e v6 ⟨A6, n6, c6, rfl, hn6, yR, hm6, T8, kF, fx⟩
 have Fo := iD ((AE.below fT).below fx)
 have HQ6 := iD hn6
 have Tn := iD T8
 have H5 := iD (H4.ref fx kF (H4.pw.ra.below fx) (fun _ hk => hk))
 clear kF fx T8 hn6 yR hm6
 refine rX H5.f2 ?_
 refine tK 12 (.tuple #[.agg (ba r b5), .slice A6 n6 c6, .int .i64 cd]) H5.f2 ?_
 refine kA 13 (ba r b5) H5.f2 ?_
 refine tK 14 (.slice A6 n6 c6) H5.f2 ?_
 refine kN 15 cd H5.f2 ?_
 refine kP 16 p 0 H5.f2 ?_
 refine kP 17 p 8 H5.f2 ?_
 refine kL ?_
 refine uW rfl (by rfl) rfl _ _ rfl p (ba r b5) rfl rfl H5.pw.row (aQ _ _) (bC _ _) (bC _ _) (eX _ _) ?_
 have H6 := iD (H5.setRow (bE L.d K.D (xa y g) (ba r b5)))
 have Xs := iD (Fo.ao (ah.row v6 p (bE L.d K.D (xa y g) (ba r b5)) PB))
 have XI := iD (Tn.ao (ah.row v6 p (bE L.d K.D (xa y g) (ba r b5)) (show eu L5 S5 p from Or.inr H5.pw.pE)))
 generalize v6.setRow p (bE L.d K.D (xa y g) (ba r b5)) = u6 at H6 Xs XI ⊢
 refine tV 19 (.slice A6 n6 c6) trivial ?_
 refine vN 20 cd trivial ?_
 refine wD ?_
 have t5 := lN (c := c5) Xs.rd XL
 have t6 := lN (c := c6) XI.rd HQ6
 exact dE (gH H6.pw.row dN) (oy.mk' H6 Dc uZ HS tv)
section
variable {w0 w wr w' : World} {L0 L : Lc} {S0 S S7 : Sc} {K K7 : Kc} {f : Fl} {bP b7 bR : Bk} {p : Nat} {V : Array Value} {r : Rb} {y : Rc} {g : Fl} {N : Nat} {A : Array Value}
theorem Dz.open (h : Dz w0 w wr L0 S0 L S K f bP p V r y g bR N A) (hk : bo w0 w' { L with E := fun g => L.E g ∨ g = K7.D } S7 K7 f b7) (hb : bW wr w') (h1 : wr.heap.size ≤ S7.D) (h2 : wr.heap.size ≤ S7.G) (h3 : wr.heap.size ≤ K7.D) (hv : K7.v = .slice none 0 0) :
 Dz w0 w w' L0 S0 { L with E := fun g => L.E g ∨ g = K7.D } S7 K7 f b7 p V r y g bR N A := by
 have h5 : ∀ k, k < wr.heap.size → bQ { L with E := fun g => L.E g ∨ g = K7.D } S7 k → bQ L S k := fun k hk h5 => by
  rcases h5 with e | e | e | e | e
  ·exact .inl e
  ·exact .inr (.inl e)
  ·exact .inr (.inr (.inl e))
  ·omega
  omega
 have bX : ∀ k, k < wr.heap.size → eu { L with E := fun g => L.E g ∨ g = K7.D } S7 k → eu L S k := fun k hk hy => by
  rcases hy with hy | hy | hy
  ·exact .inl (h5 k hk hy)
  ·exact .inr hy
  omega
 have Ni : ∀ k, k < wr.heap.size → ¬ qv L S K k → ¬ qv { L with E := fun g => L.E g ∨ g = K7.D } S7 K7 k := fun k hk hn hy => by
  rcases hy with hy | hy | hy
  ·exact hn (.inl (h5 k hk hy))
  ·omega
  rw [hv] at hy
  cases hy
 have ot : Ot wr w' L S { L with E := fun g => L.E g ∨ g = K7.D } S7 := ⟨.ak hb, bX, rfl⟩
 refine ⟨⟨hk, (h.pw.rk.dQ bX).below hb, (h.pw.ra.nM bX).below hb, (hb.block _ (h.pw.bk.eb h.pw.pE)).trans h.pw.row, .inl h.pw.pE, Ni _ (h.pw.bk.eb h.pw.pE) h.pw.pN, h.pw.p0, fun k hk => ?_⟩, h.bx.ot ot, h.ot.trans ot, h.wl⟩
 obtain ⟨e1, e2, e3, e4⟩ := h.pw.eE k hk
 exact ⟨.inl e1, Ni _ (h.pw.bk.eb e1) e2, e3, e4⟩
end
theorem cf.Rz {X : Nat → Prop} {x : Rc} (h : cf X w x g) : cf X w x (cY g) := by
 unfold cY
 split
 ·exact h.put false (-1) oM oM
 exact h
theorem su (g : Fl) : (cY g).pg = g.pg := by unfold cY; split <;> rfl
section
variable {ops : Array Oper} {rest : List Oper} {o : Oper} {a : Go.Act} {w : World} {Q : Exit → Go.Act → World → Prop} {d D : Nat} {F C : Array Value}
theorem Vm (nz : o.guard = none) (x : Operand) (ho : o.op = .load 35 x) (p : Nat) (hx : a.eval x = .pointer (some ⟨p, 2, none⟩)) (hw : w.heap[p]? = some (.cells (bE d D F C) 50 (0, 0))) (hF : F.size = 6) (hC : C.size = 26)
 (h : wpList prog ops Q rest (a.put o.dst (.agg F)) w) : wpList prog ops Q (o :: rest) a w := by
 refine wpList_load_mid nz 35 x ho p 2 hx F.toList _ (F8 hw hF hC) underlying35 rfl (by rw [Array.length_toList]; exact pv hF) ?_
 rw [Array.toArray_toList]
 exact h
theorem U7 (nz : o.guard = none) (x y : Operand) (ho : o.op = .store 35 x y) (hd : o.dst = none) (p : Nat) (F' : Array Value) (hx : a.eval x = .pointer (some ⟨p, 2, none⟩)) (hy : a.eval y = .agg F') (hw : w.heap[p]? = some (.cells (bE d D F C) 50 (0, 0))) (hF : F.size = 6) (hC : C.size = 26) (IC : F'.size = 6) (h1 : F'.all (·.oneCell') = true)
 (h : wpList prog ops Q rest a (w.setRow p (bE d D F' C))) : wpList prog ops Q (o :: rest) a w := by
 refine wpList_store_mid nz 35 x y ho p 2 F' hx hy (so hw (by rw [gx hF hC, IC]; decide)) (pv IC) h1 ?_
 rw [hd, iM F'.toList hw 2 (by rw [gx hF hC, Array.length_toList, IC]; decide), BR hF F' IC]
 exact h
variable {i : Nat} {oi : Oper} {K : Go.Act → World → Prop}
theorem Mb (hi : ops[i]? = some oi) (wi : Region.wanted oi (yielded ops a.tmps) = true) (di : oi.dst = none) (x y : Operand) (ho : oi.op = .store 29 x y) (p D' : Nat) (hx : a.eval x = .pointer (some ⟨p, 1, none⟩)) (hy : a.eval y = .pointer (some ⟨D', 0, none⟩)) (hw : w.heap[p]? = some (.cells (bE d D F C) 50 (0, 0))) (h : K a (w.setRow p (bE d D' F C))) : wpOp prog ops Q i K a w := by
 refine wpOp_step hi (fun K' hK => ?_)
 rw [iP wi]
 have hc : w.cell? ⟨p, 1, none⟩ = some (.pointer (some ⟨D, 0, none⟩)) := (cell_of_row w p 1 _ 50 (0, 0) hw).trans dN
 have hf : w.frozen? ⟨p, 1, none⟩ = false := frozen_of_row w p 1 _ 50 hw
 have fB : (storeVar 29 ⟨p, 1, none⟩ (.pointer (some ⟨D', 0, none⟩))).run prog w = .ok () (w.setCell ⟨p, 1, none⟩ (.pointer (some ⟨D', 0, none⟩))) := by
  go_simp
 unfold Oper.wp execOp
 simp only [ho, hx, hy, Instr.storeAt, Instr.sureAddr, Sem.run_bind, Sem.run_pure, Result.andThen_ok, fB]
 refine hK _ _ ?_
 rw [di, lz hw, KI]
 exact h
theorem m5 (hi : ops[i]? = some oi) (wi : Region.wanted oi (yielded ops a.tmps) = true) (ho : oi.op = .alloc 45) (h : K (a.put oi.dst (.pointer (some ⟨w.heap.size, 0, none⟩))) (w.alloc (.cells zB 45))) : wpOp prog ops Q i K a w := by
 refine wpOp_step hi (fun K' hK => ?_)
 rw [iP wi]
 have he : (execOp a.eval oi).run prog w = .ok (.value (.pointer (some ⟨w.heap.size, 0, none⟩))) (w.alloc (.cells zB 45)) := by
  unfold execOp
  simp only [ho]
  go_simp
 unfold Oper.wp
 rw [he]
 exact hK _ _ h
end
variable {w0 w : World} {L : Lc} {S : Sc} {K : Kc} {f g : Fl} {b : Bk} {p : Nat} {r : Rb} {y : Rc} {n k A B : Int} {P : Option Addr} {np cp : Nat} {pk : List Int}
theorem Ma (H : M5 w0 w L S K f g b p r y n k A B P np cp pk) (hk : k % 16 = 14) : zn w0 w L S p f b n k A B P np cp := by
 obtain ⟨h, hs, hp, hn, A0, hA, hB, hP, fQ, Gp, qz⟩ := H
 unfold zn
 obtain ⟨Z, hZ, HZ, xT, nB, Jk, DA⟩ := M6 k A B P np cp
 have HS := iD hs
 have nj := iD hp
 have tZ : bS g b := bS.xG hs hp.ok
 have HH := iD h
 obtain ⟨Ch, Nc, Cg⟩ := zr hp
 have Yk := iD (LS hp)
 have TB := iD (OS hp)
 have lV := iD hs.start
 have uq := iD (fun (wr : World) (hb : bo w0 wr L S K f b) => DV hb.st)
 have Dk := iD (fun (wr : World) (X : Nat → Prop) (hz : cf X wr y g) => DW hz)
 simp only [← uw] at Dk
 obtain ⟨z, hz⟩ := ex (dR (aR f) (b.first : Int) (b.aa : Int))
 obtain ⟨B7, Y8⟩ := ex (dI (aR f) (b.first : Int) (b.aa : Int))
 obtain ⟨hoE, hoB⟩ := hs.start.SP (b.first : Int) (b.aa : Int)
 rw [hz] at hoE
 rw [Y8] at hoB TB
 have Qu : dH (b.first : Int) := by have h1 := hp.ok.fw; have h2 := hp.fo.b2; unfold dH; omega
 have QA : dH (b.aa : Int) := by have h1 := hp.ok.fw; have h2 := hp.fo.b2; unfold dH; omega
 have HR := iD (fun (wr : World) (X : Nat → Prop) (h9 : cf X wr y (cY g)) (hX : ∀ k, X k → k < wr.heap.size) => FZ h9 hX (b.first : Int) (b.aa : Int) Qu QA)
 simp only [← uw] at HR
 have MQ := iD hoE
 have AL := iD hoB
 have PR : Hid (B7.erase = [] ∧ B7.data = none) := by rw [← Y8]; exact ⟨rfl, rfl⟩
 have Jl := iD (fun (uz : z = 0) (wr : World) (L5 : Lc) (S5 : Sc) (K5 : Kc) (hb : bo w0 wr L5 S5 K5 (aR f) b) => s7 hb.st.fl (b.first : Int) (b.aa : Int) Nc (hz.trans uz) (hb.st.pk.cX (fun _ => .inr)))
 have Fz := iD (fun (uz : z ≠ 0) (wr : World) (L5 : Lc) (S5 : Sc) (K5 : Kc) (hb : bo w0 wr L5 S5 K5 (aR f) b) => II hb.st.fl (b.first : Int) (b.aa : Int) Nc (by rw [hz]; exact uz) (hb.st.pk.cX (fun _ => .inr)))
 rw [hz] at Fz
 rw [Y8] at Jl
 obtain ⟨fi, lX⟩ := ex (b.first : Int)
 obtain ⟨bl, cB⟩ := ex (b.aa : Int)
 have fU : Hid ((ba r b)[0]? = some (.int .i64 fi) ∧ (ba r b)[1]? = some (.int .i64 bl)) := by rw [← lX, ← cB]; exact ⟨rfl, rfl⟩
 rw [lX, cB] at HR Jl Fz MQ AL
 clear Ch Cg Nc hoE hoB lX cB hz Y8 Qu QA
 obtain ⟨W, hW⟩ := ex (w.alloc (.cells Z 52))
 have H0 := iD (Dz.start h Z hW)
 have d0 := (cell_of_row W w.heap.size 0 Z 52 (0, 0) H0.bx.row).trans xT
 rw [hZ]
 clear hZ h hs hp tZ hP hA hB
 go_enter func14, ntmps14
 go_upto_region 41 with (fail)
 have d1 := (cell_of_row W p 0 _ 50 (0, 0) H0.pw.row).trans qI
 go_wp2_with (fail)
 refine (uq _ H0.pw.bk).mono ?_
 rintro e v5 ⟨rfl, ⟨Ap5, cp5, dV⟩, ke⟩
 obtain ⟨mu, kJ⟩ := H0.pw.bk.Kk dV ke
 obtain ⟨L5, hL5⟩ := ex ({ L with Ap := Ap5, cp := cp5 })
 have hd5 : L5.d = L.d := by rw [← hL5]
 rw [hL5] at kJ mu
 have uZ := iD hd5
 have H2 := iD (H0.prog kJ mu)
 clear kJ mu dV ke hd5 hL5 d1
 go_upto_region 42 with (fail)
 refine wp_region_list ?_
 refine wV (.pointer (some ⟨p, 0, none⟩)) ?_
 refine wV (.pointer (some ⟨p, 0, none⟩)) ?_
 refine wV (.pointer (some ⟨p, 0, none⟩)) ?_
 refine wV (.pointer (some ⟨p, 2, none⟩)) ?_
 refine Vm rfl _ rfl p rfl H2.pw.row (aQ _ _) (bC _ _) ?_
 simp only [nm]
 refine cP (Dk _ _ H2.pw.ra) ?_
 rintro e v6 ⟨rfl, fx⟩
 have H3 := iD (H2.ref (g' := cY g) fx (by rw [su]; exact H2.pw.rk.below fx) ((H2.pw.ra.below fx).Rz) (fun _ hk => hk))
 clear fx
 refine rP ?_
 refine wV (.pointer (some ⟨p, 0, none⟩)) ?_
 refine wV (.pointer (some ⟨p, 2, none⟩)) ?_
 refine U7 rfl _ _ rfl rfl p (xa y (cY g)) rfl rfl H3.pw.row (aQ _ _) (bC _ _) (aQ _ _) (mE _ _) ?_
 have H4 := iD (H3.setRow (bE L.d K.D (xa y (cY g)) (ba r b)))
 generalize v6.setRow p (bE L.d K.D (xa y (cY g)) (ba r b)) = u4 at H4 ⊢
 by_cases uz : z = 0
 ·subst uz
  have uz : (0 : Int) = 0 := rfl
  have HY := iD (fun (wr : World) (hb : bo w0 wr L5 S K (aR f) b) => Jl uz wr L5 S K hb)
  rw [uZ] at HY
  go_upto_region 43 with (fail)
  refine rD H4 fun H5 => ?_
  refine vP 0 p 0 H5.f2 ?_
  refine vP 1 p 0 H5.f2 ?_
  refine vP 2 p 0 H5.f2 ?_
  refine tL 3 _ rfl (yC fun _ hS => gH hS.1 qI) H5.f2 ?_
  refine vP 4 p 0 H5.f2 ?_
  refine vP 5 p 0 H5.f2 ?_
  refine vP 6 p 8 H5.f2 ?_
  refine vP 7 p 8 H5.f2 ?_
  refine tL 8 _ rfl (yC fun _ hS => gH hS.1 ((gR (aQ _ _) 0).trans fU.1)) H5.f2 ?_
  refine vP 9 p 0 H5.f2 ?_
  refine vP 10 p 0 H5.f2 ?_
  refine vP 11 p 8 H5.f2 ?_
  refine vP 12 p 9 H5.f2 ?_
  refine tL 13 _ rfl (yC fun _ hS => gH hS.1 ((gR (aQ _ _) 1).trans fU.2)) H5.f2 ?_
  refine wI 14 (cW (HY _ H5.pw.bk) ?_)
  rintro e v7 ⟨S7, K7, rfl, hk7, jf, QG, OH, h73, Vw⟩
  have H6 := iD (H5.open hk7 jf QG OH h73 Vw)
  clear hk7 jf QG OH h73 Vw
  obtain ⟨L7, hL7⟩ : ∃ z, ({ L5 with E := fun g => L5.E g ∨ g = K7.D } : Lc) = z := ⟨_, rfl⟩
  have HD7 : Hid (L7.d = L.d) := by rw [← hL7]; exact uZ
  rw [hL7] at H6
  clear hL7
  refine rW H6.f2 ?_
  refine tV 15 (.tuple #[.pointer (some ⟨K7.D, 0, none⟩), .nilIface]) H6.f2 ?_
  refine vP 16 K7.D 0 H6.f2 ?_
  refine tV 17 .nilIface H6.f2 ?_
  refine vP 18 K7.D 0 H6.f2 ?_
  refine tV 19 .nilIface H6.f2 ?_
  refine wD ?_
  go_upto_region 44 with (fail)
  refine rK H6 19 fun H7 => ?_
  refine kP 0 p 0 H7.f2 ?_
  refine kP 1 p 0 H7.f2 ?_
  refine kP 2 p 2 H7.f2 ?_
  refine tM 3 _ rfl (vd (fun _ hS => hS.1)) H7.f2 ?_
  refine kP 4 p 0 H7.f2 ?_
  refine kP 5 p 0 H7.f2 ?_
  refine kP 6 p 8 H7.f2 ?_
  refine kP 7 p 8 H7.f2 ?_
  refine tM 8 _ rfl (yC fun _ hS => gH hS.1 ((gR (aQ _ _) 0).trans fU.1)) H7.f2 ?_
  refine kP 9 p 0 H7.f2 ?_
  refine kP 10 p 0 H7.f2 ?_
  refine kP 11 p 8 H7.f2 ?_
  refine kP 12 p 9 H7.f2 ?_
  refine tM 13 _ rfl (yC fun _ hS => gH hS.1 ((gR (aQ _ _) 1).trans fU.2)) H7.f2 ?_
  refine C0 (i := 14) (j := 18) (by kernel_rfl) (by decide) (by decide) ?_ ?_
  ·refine ru (n := 12) (al := [.agg (xa y (cY g)), .int .i64 fi, .int .i64 bl]) rfl (by rfl) _ _ rfl (by rfl) rm ?_
   have qV := HR v7.drew (eu L7 S7) H7.pw.ra H7.pw.bk.dY
   refine qV.mono ?_
   clear qV
   rintro e v8 ⟨vv, rfl, kH, sQ, sN⟩
   rw [MQ] at sQ sN ⊢
   have kt := iD (kH)
   obtain ⟨r7, rfl, WT, WU, WS, WR, WQ, WO, Ll⟩ := sN rfl
   rw [AL] at Ll ⊢
   rw [← Td]
   have Fv := iD Ll
   have tp : Hid (r7.ne = 0 ∧ r7.E = none ∧ r7.np = 0 ∧ r7.ce = 0 ∧ r7.P = none ∧ r7.cp = 0) := ⟨WT, WU, WS, WR, WQ, WO⟩
   clear Ll WT WU WS WR WQ WO
   clear kH sQ sN
   refine rX ⟨(H7.ab kt).pw.row, (H7.ab kt).bx.row⟩ ?_
   refine tK 15 (.tuple #[(.agg (ba r7 B7)), .int .i64 0]) (⟨(H7.ab kt).pw.row, (H7.ab kt).bx.row⟩) ?_
   refine kA 16 (ba r7 B7) (⟨(H7.ab kt).pw.row, (H7.ab kt).bx.row⟩) ?_
   refine kN 17 0 (⟨(H7.ab kt).pw.row, (H7.ab kt).bx.row⟩) ?_
   refine kI 18 ?_
   refine m5 rfl (by rfl) rfl ?_
   have jS := iD (kt.alloc kt.size (.cells zB 45))
   have FB := iD (heap_alloc_new v8 (.cells zB 45))
   have MO := iD (H7.pw.bk.eb H7.pw.pE)
   have abb := iD (Fv.below ((Below.refl v8.heap.size v8).alloc cV (.cells zB 45)))
   obtain ⟨qx, mr⟩ := ex v8.heap.size
   obtain ⟨PW, oV⟩ := ex (v8.alloc (.cells zB 45))
   have HG : Hid (v7.drew.heap.size ≤ qx) := by rw [← mr]; exact kt.size
   rw [oV] at jS FB abb
   rw [mr] at FB
   rw [oV, mr]
   have GY : Hid (bW v8 PW) := by rw [← oV]; exact bV.alloc cV _
   have abp := iD mr
   have XG := Fv
   clear oV mr
   refine ⟨⟨(H7.ab jS).pw.row, (H7.ab jS).bx.row⟩, ?_⟩
   change fF _ _ _ _ _ _ _ _ (Act.put _ (some 14) _) _
   simp only [nm]
   refine kL ?_
   refine fO rfl (by rfl) rfl 45 _ _ rfl qx (ba r7 B7) zB rfl rfl 45 FB (gE (bC r7 B7)) ((rfl : zB.size = 26).trans (bC r7 B7).symm) (eX r7 B7) ?_
   have xh := iD (below_setRow jS HG (ba r7 B7))
   have jR := iD (setRow_heap _ _ zB (ba r7 B7) 45 _ FB)
   have MM := iD (Fv.below (below_setRow GY (by rw [abp]; exact Nat.le_refl _) (ba r7 B7)))
   obtain ⟨FN, pX⟩ := ex (PW.setRow qx (ba r7 B7))
   rw [pX] at xh jR MM
   rw [pX]
   have js := iD (H7.ab xh)
   clear pX
   refine vN 20 0 trivial ?_
   refine wD ?_
   go_upto_region 47 with (fail)
   have XQ : Hid (¬ qx = p) := fun e => by have := MO.out; have := HG.out; omega
   have Tl := iD (MM.below fT)
   have DH := iD (js.ab fT)
   refine wp_region_held_drew (S := fun w' => w'.heap[qx]? = some (.cells (ba r7 B7) 45 (0, 0))) (by kernel_rfl) (jR) (fun _ => ?_)
   refine vP 0 p 0 (jR) ?_
   refine vP 1 p 0 (jR) ?_
   refine vP 2 K7.D 0 (jR) ?_
   refine tL 3 _ rfl (iK (fun _ hS => hS) ((bC _ _))) (jR) ?_
   refine vP 4 p 0 (jR) ?_
   refine vP 5 p 1 (jR) ?_
   refine wI 6 ?_
   refine Mb rfl (by rfl) rfl _ _ rfl p K7.D rfl rfl DH.pw.row ?_
   have Bo := iD (DH.setRow (bE L.d K7.D (xa y (cY g)) (ba r b)))
   have C7 := iD (Tl.ao (ah.row FN.drew p (bE L.d K7.D (xa y (cY g)) (ba r b)) (show eu L7 S7 p from Or.inr DH.pw.pE)))
   have tu := iD (((ah.row (X := fun k => k = p) FN.drew p (bE L.d K7.D (xa y (cY g)) (ba r b)) rfl).block qx (Array.getElem?_eq_some_iff.1 jR).1 (fun e => XQ e)).trans jR)
   generalize FN.drew.setRow p (bE L.d K7.D (xa y (cY g)) (ba r b)) = Rt at Bo C7 tu ⊢
   refine ⟨tu, ?_⟩
   refine vP 7 p 0 (tu) ?_
   refine vP 8 p 8 (tu) ?_
   refine wI 9 ?_
   refine uW rfl (by rfl) rfl _ _ rfl p (ba r7 B7) rfl rfl Bo.pw.row (aQ _ _) (bC _ _) (bC _ _) (eX _ _) ?_
   have DG := iD (Bo.setRow (bE L.d K7.D (xa y (cY g)) (ba r7 B7)))
   have C6 := iD (C7.ao (ah.row Rt p (bE L.d K7.D (xa y (cY g)) (ba r7 B7)) (show eu L7 S7 p from Or.inr Bo.pw.pE)))
   have MU := iD (((ah.row (X := fun k => k = p) Rt p (bE L.d K7.D (xa y (cY g)) (ba r7 B7)) rfl).block qx (Array.getElem?_eq_some_iff.1 tu).1 (fun e => XQ e)).trans tu)
   generalize Rt.setRow p (bE L.d K7.D (xa y (cY g)) (ba r7 B7)) = u63 at DG C6 MU ⊢
   refine ⟨MU, ?_⟩
   refine wD ?_
   have M4 := iD (DG.ref (r' := r7) (bR' := B7) bV ⟨by rw [su] at *; exact C6, fun _ => ⟨by rw [PR.1, tp.1, tp.2.1, tp.2.2.2.1]; exact QS.nil _ _ _, by rw [PR.1, tp.1]; rfl⟩, fun _ => .inl ⟨PR.2, tp.2.2.2.2.1, tp.2.2.1, tp.2.2.2.2.2⟩⟩ DG.pw.ra (fun k hk => by rw [tp.2.1] at hk; cases hk))
   exact dE (gH M4.pw.row dN) (oy.mk' M4 HD7 rfl lV TB)
  refine m5 rfl (by rfl) rfl ?_
  have kt := iD ((Below.refl v7.drew.heap.size v7.drew).alloc (Below.refl v7.drew.heap.size v7.drew).size (.cells zB 45))
  have MT := iD (heap_alloc_new v7.drew (.cells zB 45))
  have MO := iD (H7.pw.bk.eb H7.pw.pE)
  obtain ⟨qx, mr⟩ := ex v7.drew.heap.size
  obtain ⟨PW, oV⟩ := ex (v7.drew.alloc (.cells zB 45))
  have HG : Hid (v7.drew.heap.size ≤ qx) := by rw [← mr]; exact (Below.refl v7.drew.heap.size v7.drew).size
  rw [oV] at kt MT
  rw [mr] at MT
  rw [oV, mr]
  clear oV mr
  refine ⟨⟨(H7.ab kt).pw.row, (H7.ab kt).bx.row⟩, ?_⟩
  change fF _ _ _ _ _ _ _ _ (Act.put _ (some 14) _) _
  simp only [nm]
  refine kI 14 ?_
  refine ru (n := 12) (al := [.agg (xa y (cY g)), .int .i64 fi, .int .i64 bl]) rfl (by rfl) _ _ rfl (by rfl) rm ?_
  have qV := HR.out PW (fun k => eu L7 S7 k ∨ k = qx) ((H7.out.pw.ra.nM (Y := (fun k => eu L7 S7 k ∨ k = qx)) (fun k hk hy => hy.elim id (fun e => by have := HG.out; omega))).ao (ah.ak kt.out)) (fun k hk => hk.elim (fun hk => Nat.lt_of_lt_of_le (H7.out.pw.bk.dY k hk) kt.out.size) (fun e => e ▸ (Array.getElem?_eq_some_iff.1 MT.out).1))
  refine qV.mono ?_
  clear qV
  rintro e v8 ⟨vv, rfl, kH, sQ, sN⟩
  rw [MQ] at sQ sN ⊢
  have jS := iD ((kt.trans (kH.mono kt.size)))
  have FB := iD ((kH.block qx (Array.getElem?_eq_some_iff.1 MT).1).trans MT)
  obtain ⟨r7, rfl, WT, WU, WS, WR, WQ, WO, Ll⟩ := sN rfl
  rw [AL] at Ll ⊢
  rw [← Td]
  have Fv := iD Ll
  have tp : Hid (r7.ne = 0 ∧ r7.E = none ∧ r7.np = 0 ∧ r7.ce = 0 ∧ r7.P = none ∧ r7.cp = 0) := ⟨WT, WU, WS, WR, WQ, WO⟩
  clear Ll WT WU WS WR WQ WO
  clear kH sQ sN
  refine rX ⟨(H7.ab jS).pw.row, (H7.ab jS).bx.row⟩ ?_
  refine tK 15 (.tuple #[(.agg (ba r7 B7)), .int .i64 0]) (⟨(H7.ab jS).pw.row, (H7.ab jS).bx.row⟩) ?_
  refine kA 16 (ba r7 B7) (⟨(H7.ab jS).pw.row, (H7.ab jS).bx.row⟩) ?_
  refine kN 17 0 (⟨(H7.ab jS).pw.row, (H7.ab jS).bx.row⟩) ?_
  refine kL ?_
  refine fO rfl (by rfl) rfl 45 _ _ rfl qx (ba r7 B7) zB rfl rfl 45 FB (gE (bC r7 B7)) ((rfl : zB.size = 26).trans (bC r7 B7).symm) (eX r7 B7) ?_
  have xh := iD (below_setRow jS HG (ba r7 B7))
  have jR := iD (setRow_heap _ _ zB (ba r7 B7) 45 _ FB)
  have MM := iD ((Fv.ao (ah.row v8 qx (ba r7 B7) (.inr rfl))).cX (Y := eu L7 S7) (fun _ => .inl))
  obtain ⟨FN, pX⟩ := ex (v8.setRow qx (ba r7 B7))
  rw [pX] at xh jR MM
  rw [pX]
  have js := iD (H7.ab xh)
  clear pX
  refine vN 20 0 trivial ?_
  refine wD ?_
  go_upto_region 47 with (fail)
  have XQ : Hid (¬ qx = p) := fun e => by have := MO.out; have := HG.out; omega
  have Tl := iD (MM.below fT)
  have DH := iD (js.ab fT)
  refine wp_region_held_drew (S := fun w' => w'.heap[qx]? = some (.cells (ba r7 B7) 45 (0, 0))) (by kernel_rfl) (jR) (fun _ => ?_)
  refine vP 0 p 0 (jR) ?_
  refine vP 1 p 0 (jR) ?_
  refine vP 2 K7.D 0 (jR) ?_
  refine tL 3 _ rfl (iK (fun _ hS => hS) ((bC _ _))) (jR) ?_
  refine vP 4 p 0 (jR) ?_
  refine vP 5 p 1 (jR) ?_
  refine wI 6 ?_
  refine Mb rfl (by rfl) rfl _ _ rfl p K7.D rfl rfl DH.pw.row ?_
  have Bo := iD (DH.setRow (bE L.d K7.D (xa y (cY g)) (ba r b)))
  have C7 := iD (Tl.ao (ah.row FN.drew p (bE L.d K7.D (xa y (cY g)) (ba r b)) (show eu L7 S7 p from Or.inr DH.pw.pE)))
  have tu := iD (((ah.row (X := fun k => k = p) FN.drew p (bE L.d K7.D (xa y (cY g)) (ba r b)) rfl).block qx (Array.getElem?_eq_some_iff.1 jR).1 (fun e => XQ e)).trans jR)
  generalize FN.drew.setRow p (bE L.d K7.D (xa y (cY g)) (ba r b)) = Rt at Bo C7 tu ⊢
  refine ⟨tu, ?_⟩
  refine vP 7 p 0 (tu) ?_
  refine vP 8 p 8 (tu) ?_
  refine wI 9 ?_
  refine uW rfl (by rfl) rfl _ _ rfl p (ba r7 B7) rfl rfl Bo.pw.row (aQ _ _) (bC _ _) (bC _ _) (eX _ _) ?_
  have DG := iD (Bo.setRow (bE L.d K7.D (xa y (cY g)) (ba r7 B7)))
  have C6 := iD (C7.ao (ah.row Rt p (bE L.d K7.D (xa y (cY g)) (ba r7 B7)) (show eu L7 S7 p from Or.inr Bo.pw.pE)))
  have MU := iD (((ah.row (X := fun k => k = p) Rt p (bE L.d K7.D (xa y (cY g)) (ba r7 B7)) rfl).block qx (Array.getElem?_eq_some_iff.1 tu).1 (fun e => XQ e)).trans tu)
  generalize Rt.setRow p (bE L.d K7.D (xa y (cY g)) (ba r7 B7)) = u63 at DG C6 MU ⊢
  refine ⟨MU, ?_⟩
  refine wD ?_
  have M4 := iD (DG.ref (r' := r7) (bR' := B7) bV ⟨by rw [su] at *; exact C6, fun _ => ⟨by rw [PR.1, tp.1, tp.2.1, tp.2.2.2.1]; exact QS.nil _ _ _, by rw [PR.1, tp.1]; rfl⟩, fun _ => .inl ⟨PR.2, tp.2.2.2.2.1, tp.2.2.1, tp.2.2.2.2.2⟩⟩ DG.pw.ra (fun k hk => by rw [tp.2.1] at hk; cases hk))
  exact dE (gH M4.pw.row dN) (oy.mk' M4 HD7 rfl lV TB)
 have HY := iD (fun (wr : World) (hb : bo w0 wr L5 S K (aR f) b) => Fz uz wr L5 S K hb)
 rw [uZ] at HY
 go_upto_region 43 with (fail)
 refine rD H4 fun H5 => ?_
 refine vP 0 p 0 H5.f2 ?_
 refine vP 1 p 0 H5.f2 ?_
 refine vP 2 p 0 H5.f2 ?_
 refine tL 3 _ rfl (yC fun _ hS => gH hS.1 qI) H5.f2 ?_
 refine vP 4 p 0 H5.f2 ?_
 refine vP 5 p 0 H5.f2 ?_
 refine vP 6 p 8 H5.f2 ?_
 refine vP 7 p 8 H5.f2 ?_
 refine tL 8 _ rfl (yC fun _ hS => gH hS.1 ((gR (aQ _ _) 0).trans fU.1)) H5.f2 ?_
 refine vP 9 p 0 H5.f2 ?_
 refine vP 10 p 0 H5.f2 ?_
 refine vP 11 p 8 H5.f2 ?_
 refine vP 12 p 9 H5.f2 ?_
 refine tL 13 _ rfl (yC fun _ hS => gH hS.1 ((gR (aQ _ _) 1).trans fU.2)) H5.f2 ?_
 refine wI 14 (cW (HY _ H5.pw.bk) ?_)
 rintro e v7 ⟨rfl, jf⟩
 have H6 := iD (H5.ab jf)
 clear jf
 refine rW H6.f2 ?_
 refine tV 15 (.tuple #[.pointer none, fy z]) H6.f2 ?_
 refine tV 16 (.pointer none) H6.f2 ?_
 refine tV 17 (fy z) H6.f2 ?_
 refine tV 18 (.pointer none) H6.f2 ?_
 refine tV 19 (fy z) H6.f2 ?_
 refine wD ?_
 go_upto_region 44 with (fail)
 refine rK H6 19 fun H7 => ?_
 refine kP 0 p 0 H7.f2 ?_
 refine kP 1 p 0 H7.f2 ?_
 refine kP 2 p 2 H7.f2 ?_
 refine tM 3 _ rfl (vd (fun _ hS => hS.1)) H7.f2 ?_
 refine kP 4 p 0 H7.f2 ?_
 refine kP 5 p 0 H7.f2 ?_
 refine kP 6 p 8 H7.f2 ?_
 refine kP 7 p 8 H7.f2 ?_
 refine tM 8 _ rfl (yC fun _ hS => gH hS.1 ((gR (aQ _ _) 0).trans fU.1)) H7.f2 ?_
 refine kP 9 p 0 H7.f2 ?_
 refine kP 10 p 0 H7.f2 ?_
 refine kP 11 p 8 H7.f2 ?_
 refine kP 12 p 9 H7.f2 ?_
 refine tM 13 _ rfl (yC fun _ hS => gH hS.1 ((gR (aQ _ _) 1).trans fU.2)) H7.f2 ?_
 refine C0 (i := 14) (j := 18) (by kernel_rfl) (by decide) (by decide) ?_ ?_
 ·refine ru (n := 12) (al := [.agg (xa y (cY g)), .int .i64 fi, .int .i64 bl]) rfl (by rfl) _ _ rfl (by rfl) rm ?_
  have qV := HR v7.drew (eu L5 S) H7.pw.ra H7.pw.bk.dY
  refine qV.mono ?_
  clear qV
  rintro e v8 ⟨vv, rfl, kH, sQ, sN⟩
  rw [MQ] at sQ sN ⊢
  have kt := iD (kH)
  obtain rfl := sQ uz
  clear kH sQ sN
  refine rX ⟨(H7.ab kt).pw.row, (H7.ab kt).bx.row⟩ ?_
  refine tK 15 (.tuple #[(.agg eF), .int .i64 z]) (⟨(H7.ab kt).pw.row, (H7.ab kt).bx.row⟩) ?_
  refine kA 16 eF (⟨(H7.ab kt).pw.row, (H7.ab kt).bx.row⟩) ?_
  refine kN 17 z (⟨(H7.ab kt).pw.row, (H7.ab kt).bx.row⟩) ?_
  refine kI 18 ?_
  refine m5 rfl (by rfl) rfl ?_
  have jS := iD (kt.alloc kt.size (.cells zB 45))
  have FB := iD (heap_alloc_new v8 (.cells zB 45))
  have MO := iD (H7.pw.bk.eb H7.pw.pE)
  obtain ⟨qx, mr⟩ := ex v8.heap.size
  obtain ⟨PW, oV⟩ := ex (v8.alloc (.cells zB 45))
  have HG : Hid (v7.drew.heap.size ≤ qx) := by rw [← mr]; exact kt.size
  rw [oV] at jS FB
  rw [mr] at FB
  rw [oV, mr]
  clear oV mr
  refine ⟨⟨(H7.ab jS).pw.row, (H7.ab jS).bx.row⟩, ?_⟩
  change fF _ _ _ _ _ _ _ _ (Act.put _ (some 14) _) _
  simp only [nm]
  refine kL ?_
  refine fO rfl (by rfl) rfl 45 _ _ rfl qx eF zB rfl rfl 45 FB (gE (rfl : eF.size = 26)) ((rfl : zB.size = eF.size)) zI ?_
  have xh := iD (below_setRow jS HG eF)
  have jR := iD (setRow_heap _ _ zB eF 45 _ FB)
  obtain ⟨FN, pX⟩ := ex (PW.setRow qx eF)
  rw [pX] at xh jR
  rw [pX]
  have js := iD (H7.ab xh)
  clear pX
  refine vN 20 z trivial ?_
  refine wD ?_
  have Ce : (z == 0) = false := by simpa using uz
  exact dE (gH js.pw.row dN) (oy.mk' js uZ rfl lV Yk)
 refine m5 rfl (by rfl) rfl ?_
 have kt := iD ((Below.refl v7.drew.heap.size v7.drew).alloc (Below.refl v7.drew.heap.size v7.drew).size (.cells zB 45))
 have MT := iD (heap_alloc_new v7.drew (.cells zB 45))
 have MO := iD (H7.pw.bk.eb H7.pw.pE)
 obtain ⟨qx, mr⟩ := ex v7.drew.heap.size
 obtain ⟨PW, oV⟩ := ex (v7.drew.alloc (.cells zB 45))
 have HG : Hid (v7.drew.heap.size ≤ qx) := by rw [← mr]; exact (Below.refl v7.drew.heap.size v7.drew).size
 rw [oV] at kt MT
 rw [mr] at MT
 rw [oV, mr]
 clear oV mr
 refine ⟨⟨(H7.ab kt).pw.row, (H7.ab kt).bx.row⟩, ?_⟩
 change fF _ _ _ _ _ _ _ _ (Act.put _ (some 14) _) _
 simp only [nm]
 refine kI 14 ?_
 refine ru (n := 12) (al := [.agg (xa y (cY g)), .int .i64 fi, .int .i64 bl]) rfl (by rfl) _ _ rfl (by rfl) rm ?_
 have qV := HR.out PW (fun k => eu L5 S k ∨ k = qx) ((H7.out.pw.ra.nM (Y := (fun k => eu L5 S k ∨ k = qx)) (fun k hk hy => hy.elim id (fun e => by have := HG.out; omega))).ao (ah.ak kt.out)) (fun k hk => hk.elim (fun hk => Nat.lt_of_lt_of_le (H7.out.pw.bk.dY k hk) kt.out.size) (fun e => e ▸ (Array.getElem?_eq_some_iff.1 MT.out).1))
 refine qV.mono ?_
 clear qV
 rintro e v8 ⟨vv, rfl, kH, sQ, sN⟩
 rw [MQ] at sQ sN ⊢
 have jS := iD ((kt.trans (kH.mono kt.size)))
 have FB := iD ((kH.block qx (Array.getElem?_eq_some_iff.1 MT).1).trans MT)
 obtain rfl := sQ uz
 clear kH sQ sN
 refine rX ⟨(H7.ab jS).pw.row, (H7.ab jS).bx.row⟩ ?_
 refine tK 15 (.tuple #[(.agg eF), .int .i64 z]) (⟨(H7.ab jS).pw.row, (H7.ab jS).bx.row⟩) ?_
 refine kA 16 eF (⟨(H7.ab jS).pw.row, (H7.ab jS).bx.row⟩) ?_
 refine kN 17 z (⟨(H7.ab jS).pw.row, (H7.ab jS).bx.row⟩) ?_
 refine kL ?_
 refine fO rfl (by rfl) rfl 45 _ _ rfl qx eF zB rfl rfl 45 FB (gE (rfl : eF.size = 26)) ((rfl : zB.size = eF.size)) zI ?_
 have xh := iD (below_setRow jS HG eF)
 have jR := iD (setRow_heap _ _ zB eF 45 _ FB)
 obtain ⟨FN, pX⟩ := ex (v8.setRow qx eF)
 rw [pX] at xh jR
 rw [pX]
 have js := iD (H7.ab xh)
 clear pX
 refine vN 20 z trivial ?_
 refine wD ?_
 have Ce : (z == 0) = false := by simpa using uz
 exact dE (gH js.pw.row dN) (oy.mk' js uZ rfl lV Yk)
theorem SY {w0 : World} {L : Lc} {S : Sc} {K : Kc} {f : Fl} {b : Bk} {p : Nat} {r : Rb} {y : Rc} {n : Int} (h : Pw w0 w L S K f b p (bE L.d K.D (xa y g) (ba r b)) r y g b) (hs : fC f g) (hp : jF f b n) (hn : n < 999000) (k A B : Int) (A0 : 0 ≤ k ∧ k < 256) (hA : dH A) (hB : dH B) (P : Option Addr) (np cp : Nat) (pk : List Int) (hP : Rd w0 w0.heap.size P (ag .u8 pk)) (fQ : pk.length = np) (Gp : np ≤ 140737488351232) (qz : Bytes pk) : Calls prog 14 #[.pointer (some ⟨p, 0, none⟩), .agg #[.int .u8 k, .int .i64 A, .int .i64 B, .slice P np cp]] w (oy w0 w L S p f b n) := by
 have hc : k % 16 = 0 ∨ k % 16 = 1 ∨ k % 16 = 2 ∨ k % 16 = 3 ∨ k % 16 = 4 ∨ k % 16 = 5 ∨ k % 16 = 6 ∨ k % 16 = 7 ∨ k % 16 = 8 ∨ k % 16 = 9 ∨ k % 16 = 10 ∨ k % 16 = 11 ∨ k % 16 = 12 ∨ k % 16 = 13 ∨ k % 16 = 14 ∨ k % 16 = 15 := oM
 have H : M5 w0 w L S K f g b p r y n k A B P np cp pk := ⟨h, hs, hp, hn, A0, hA, hB, hP, fQ, Gp, qz⟩
 rcases hc with e | e | e | e | e | e | e | e | e | e | e | e | e | e | e | e
 ·exact Md H e
 ·exact wH H (.inl e)
 ·exact wH H (.inr (.inl e))
 ·exact wH H (.inr (.inr e))
 ·exact wG H (.inl e)
 ·exact wG H (.inr e)
 ·exact Me H e
 ·exact EW H e
 ·exact rr H (.inl e)
 ·exact rr H (.inr (.inl e))
 ·exact rr H (.inr (.inr (.inl e)))
 ·exact rr H (.inr (.inr (.inr e)))
 ·exact O3 H e
 ·exact O2 H e
 ·exact Ma H e
 exact Mc H e
theorem Cb (A : Option Addr) (n c : Nat) (l : List Ev) (w : World) (hA : Rd w w.heap.size A (tc l)) (hn : l.length = n) (qa : n ≤ c) (fS : c ≤ maxLen) (dc : ∀ x ∈ l, x.ok w w.heap.size) :
 Calls prog 6 #[.slice A n c] w fun e w' => e = .returned (.bool (vO l)) ∧ bW w w' := by
 unfold maxLen at fS
 have HA := iD hA
 have HN := iD hn
 have gV : Hid (∀ x ∈ l, x.q ≤ 9223372036854775807) := fun x hx => by
  have h := dc x hx
  have h3 := h.mp
  have h4 := h.cp
  unfold maxLen at h4
  omega
 have HS := iD (FO l)
 clear hA hn dc
 go_enter func6, ntmps6
 go_wp2
 go_loopw [3, 8] (fun s i wr => ∃ k : Nat, k ≤ n ∧ i = .int .i64 k ∧ (∃ z : Int, s = .int .i64 z ∧ (k ≤ 200 → z = (mI (l.take k) : Nat))) ∧ bW w wr) (fun _ i _ => n - (intOf i).toNat)
 case atStart => exact ⟨0, oM, rfl, ⟨0, rfl, fun _ => rfl⟩, Below.refl _ _⟩
 case round =>
  obtain ⟨k, hk, rfl, ⟨z, rfl, hz⟩, hB⟩ := hrel
  have HB := iD hB
  have P8 : w.heap.size ≤ wr.heap.size := hB.size
  clear hB
  by_cases aW : k < n
  ·obtain ⟨x, hx⟩ := getElem?_of_lt (l := l) (k := k) (by rw [HN]; exact aW)
   have JO := gV x (List.mem_of_getElem? hx)
   obtain ⟨b, off, rfl, cB, c0, c1, c2, c3⟩ := (HA.below HB cV).ev hx
   by_cases Uh : k < 200
   ·have hz' := hz oM
    subst hz'
    have Oj : mI (l.take (k + 1)) = mI (l.take k) + (10 + min x.q 10000) := by
     rw [bA l k x hx, Bw]
     simp [mI]
    have lQ : mI (l.take k) ≤ 10010 * k := by
     have := FO (l.take k)
     rw [List.length_take] at this
     omega
    obtain ⟨S, hS⟩ := ex (mI (l.take k))
    obtain ⟨S', OE⟩ := ex (mI (l.take (k + 1)))
    rw [hS, OE] at Oj
    have HS' := iD OE
    rw [hS] at lQ ⊢
    obtain ⟨u2, RY⟩ := ex (min x.q 10000)
    have m2 : min (x.q : Int) 10000 = (u2 : Int) := oM
    have abQ : u2 ≤ 10000 := oM
    rw [RY] at Oj
    have Pt := iD Oj
    clear hx hz hS OE RY Oj
    go_wp2
    go_roundw
    case rel => exact ⟨k + 1, oM, by go_num, ⟨_, rfl, fun _ => by rw [HS'.out]; have := Pt.out; go_num⟩, HB.out.alloc P8 _⟩
    case measure => simp [intOf]; omega
   clear hx hz
   go_wp2
   go_roundw
   case rel => exact ⟨k + 1, oM, by go_num, ⟨_, rfl, fun h => oM⟩, HB.alloc P8 _⟩
   case measure => simp [intOf]; omega
  have kg : k = n := oM
  subst kg
  have ht : l.take k = l := List.take_of_length_le (by rw [HN]; omega)
  rw [ht] at hz
  have HL : Hid (vO l = decide (200 < k ∨ 20000 < mI l)) := by unfold vO; rw [Hid, HN]
  generalize mI l = S at HL hz
  clear HS ht
  by_cases h1 : 200 < k
  ·clear hz
   go_wp2
   go_ret
   exact ⟨by rw [HL, decide_eq_true (show 200 < k ∨ 20000 < S from Or.inl h1)]; rfl, HB⟩
  have hz' := hz oM
  subst hz'
  clear hz
  by_cases h2 : 20000 < S
  ·go_wp2
   go_ret
   exact ⟨by rw [HL, decide_eq_true (show 200 < k ∨ 20000 < S from Or.inr h2)]; first | rfl | (show Ending.returned (Value.bool (decide ((200 : Int) < (k : Int)) || decide ((20000 : Int) < (S : Int)))) = _; rw [decide_eq_true (show (20000 : Int) < (S : Int) by omega), Bool.or_true]), HB⟩
  go_wp2
  go_ret
  exact ⟨by rw [HL, decide_eq_false (show ¬ (200 < k ∨ 20000 < S) from fun h => h.elim h1 h2)]; first | rfl | (show Ending.returned (Value.bool (decide ((200 : Int) < (k : Int)) || decide ((20000 : Int) < (S : Int)))) = _; rw [decide_eq_false (show ¬ (20000 : Int) < (S : Int) by omega), decide_eq_false (show ¬ (200 : Int) < (k : Int) by omega)]; rfl), HB⟩
end Go.Proofs.YtjdknddnanopaaaGreat
