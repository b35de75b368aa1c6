/-
  Part 25 of the proof.
-/
import Derived.Deep.CutRange
import Derived.Test.YtjdknddnanopaaaGreatQ24
namespace Go.Proofs.YtjdknddnanopaaaGreat
open Go.RowKit Tryz
set_option maxRecDepth 100000
set_option maxHeartbeats 16000000
set_option linter.all false
variable {f : Fl}
theorem sy (s : St) (i v : Int) : (aV s i v).af = s.af ∧ (aV s i v).bt = s.bt ∧ (aV s i v).seq = s.seq ∧ (aV s i v).aj.length = s.aj.length := by
 unfold aV
 split
 ·exact ⟨rfl, rfl, rfl, by simp⟩
 exact ⟨rfl, rfl, rfl, rfl⟩
theorem SR (h : f.up) {first k : Nat} (hk : 1 ≤ k) (jG : k ≤ 8) (hw : first + (2 * k + 2) ≤ f.aq.length) (hp : 2 ≤ f.pg) {img : List Int} (hi : Bytes img) (h2 : img.length ≤ aN f (2 * k + 2)) :
 (aJ (eD f first (2 * k + 2) img) first 2 (aH (aN f (2 * k + 2)))).af = false ∧ (aJ (eD f first (2 * k + 2) img) first 2 (aH (aN f (2 * k + 2)))).bt = false ∧ (aJ (eD f first (2 * k + 2) img) first 2 (aH (aN f (2 * k + 2)))).seq = 0 ∧ (aJ (eD f first (2 * k + 2) img) first 2 (aH (aN f (2 * k + 2)))).aj.length = 9 := by
 obtain ⟨g1, g2, g3, g4, g5, g6, g7, _⟩ := ib h hw hk hi h2
 have hsz := ec h.ok jG
 have pZ : eC (eD f first (2 * k + 2) img) (first : Int) ((2 * k + 2 : Nat) : Int) = 0 := by
  unfold eC
  rw [iN (by rw [g1.dn]; decide), iN oM, iN (by rw [g3]; omega), iN (by rw [g2]; omega)]
 have oG := mi pZ (aN f (2 * k + 2))
 have dc := iB (n := aN f (2 * k + 2)) oM
 have dV : ∀ x, first * (eD f first (2 * k + 2) img).pg ≤ x → x < (first + 2) * (eD f first (2 * k + 2) img).pg → aB (eD f first (2 * k + 2) img) x = cM := fun x h1 h2 => by
  rw [g2] at h1 h2
  have : (first + 2) * f.pg ≤ (first + (2 * k + 2)) * f.pg := Nat.mul_le_mul_right _ oM
  rw [g5, iN oM, iP oM]
 obtain ⟨-, -, -, r4, r5, -, -, -, -, -, AW, uS⟩ := ej.EJ g1.ok dV dc oG
 exact ⟨uS, r5, AW, by rw [r4]; rfl⟩
theorem KA {X : Nat → Prop} {w : World} {x : Rc} (h : cf X w x f) (hX : ∀ b, X b → b < w.heap.size) (hu : f.up) (a k : Nat) (hk : 1 ≤ k) (jG : k ≤ 8) (hw : a + (2 * k + 2) ≤ f.aq.length) (hp : 2 ≤ f.pg) (v : Int) (hv : 1 ≤ v ∧ v ≤ 1073741824) (A : Option Addr) (n c : Nat) (img : List Int) 
 (hA : Rd w w.heap.size A (ag .u8 img)) (hn : img.length = n) (qa : n ≤ c) (fS : c ≤ maxLen) (hb : Bytes img) (h1 : 1 ≤ n) (h2 : n ≤ aN f (2 * k + 2)) (fi bl : Int) (lX : fi = a) (cB : bl = ((2 * k + 2 : Nat) : Int)) :
 Calls prog 10 #[x.v f, .int .i64 fi, .int .i64 bl, .int .i64 v, .slice A n c] w (RFM X w (iU f a (2 * k + 2) v (eS img) img).2.1 0) := by
 have hsz := ec h.ok jG
 have hC := l6 img
 have lG : f.aq.length ≤ 64 := h.ok.b2
 have iA : f.pg ≤ 16 := h.ok.p2
 obtain ⟨x1, x2, x3, x4, x5, x6, -, -, -, -, -⟩ := wy hu hk jG hw hp hb (by rw [hn]; exact h1) (by rw [hn]; exact h2) hv (c := eS img) ⟨hC.1, by have := hC.2; omega⟩
 have hE : eC f fi bl = 0 := by
  unfold eC
  rw [iN (by rw [hu.dn]; decide), iN oM, iN oM, iN oM]
 obtain ⟨gu, gp, gw, gk, -, gr, -, gb⟩ := ib hu hw hk hb (by rw [hn]; exact h2)
 have LG : eC (eD f a (2 * k + 2) img) fi bl = 0 := by
  unfold eC
  rw [iN (by rw [gu.dn]; decide), iN oM, iN (by rw [gw]; omega), iN (by rw [gp]; omega)]
 have HR := iD (fun w2 => sB h fi bl (by unfold dH; omega) (by unfold dH; omega) w2)
 rw [hE] at HR
 have pa := iD (fun w2 => uP h k jG bl cB w2)
 obtain ⟨N, hN⟩ := ex (aN f (2 * k + 2))
 have LD : aN (eD f a (2 * k + 2) img) (2 * k + 2) = N := by rw [← hN]; unfold aN; rw [gp]
 have hsf := SR hu hk jG hw hp hb (by rw [hn]; exact h2)
 rw [hN] at pa h2 hsz x1 x2 x3 x4 x5 hsf
 rw [hn] at x4 x5 gr gb
 have Wc : iU f a (2 * k + 2) v (eS img) img = aA (dC (aJ (eD f a (2 * k + 2) img) a 2 (aH N)) 3 [v, (n : Int), eS img]) (eD f a (2 * k + 2) img) := by
  unfold iU xQ
  rw [hN, hn]
  rfl
 rw [Wc] at x6 ⊢
 have Gv := mv hu (a := a) (n := 2 * k + 2) hw
 have yP : (a + 2) * f.pg + ew n ≤ f.aq.length * f.pg := Nat.le_trans gr (Nat.mul_le_mul_right _ oM)
 have nV : f.aq.length * f.pg ≤ 1024 := gy h.ok
 have HG : Hid (eD f a (2 * k + 2) img = iO (eg f a (2 * k + 2)) ((a + 2) * f.pg) img (ew n)) := by rw [Hid, ← hn]; rfl
 have Fx : Hid (∀ m < ew n, (bz (iO (eg f a (2 * k + 2)) ((a + 2) * f.pg) img m) (((a + 2) * f.pg + m : Nat) : Int) (gg (eQ img m))).2 = 0) :=
  fun m hm => vG Gv.up hb (by rw [Gv.wl, Gv.pg]; exact yP) gb hm
 have Zq : Hid (∀ m ≤ ew n, (iO (eg f a (2 * k + 2)) ((a + 2) * f.pg) img m).pg = f.pg) :=
  fun m hm => (qH Gv.up hb (a := (a + 2) * f.pg) (n := m) (by rw [Gv.wl, Gv.pg]; omega) (fun x h1 h2 => gb x h1 oM)).pg.trans Gv.pg
 have uH := iD hsf
 have J7 : Hid (∀ m < 2 * k + 2, (aT (eg f a m) ((a + m : Nat) : Int)).2 = 0) := fun m hm => ud hu hw hm
 have xX : Hid (bD (eD f a (2 * k + 2) img) (aJ (eD f a (2 * k + 2) img) a 2 (aH N))) := kz x2 x1
 have HGU := iD gu
 have UQ := iD gp
 have FD := iD LG
 have uJ := iD LD
 have GN := iD x1
 have HX2 := iD x2
 have Zi := iD x3
 have Xt := iD x4
 have AE := iD x5
 have Fo := iD x6
 obtain ⟨Cs, OF⟩ := ex (eS img)
 have Uu : 0 ≤ Cs ∧ Cs < 4294967296 := by rw [← OF]; exact hC
 rw [OF] at AE Fo ⊢
 have PN := iD OF
 have FA := iD hn
 have HA := iD hA
 have HB := iD hb
 have HX := iD hX
 have HR0 := iD h
 obtain ⟨F0, SI⟩ := ex (xa x f)
 have Jx : Hid (F0 = xa x f) := by rw [Hid, SI]
 obtain ⟨W, hW⟩ := ex ((w.alloc (.cells F0 35)).alloc (.cells zF 35))
 have H0 := iD (Fr.two hW)
 have zi := iD (h.xf H0.below 2)
 obtain ⟨K, hK⟩ := ex (2 * k + 2)
 have hKb : 4 ≤ K ∧ K ≤ 18 := oM
 rw [hK] at cB HG Fx Zq J7 xX HGU UQ FD uJ GN Zi Xt AE Fo uH ⊢
 have Du : (0 : Int) ≤ fi ∧ fi ≤ 64 := oM
 have VW : ew n * 64 < n + 64 ∧ n ≤ ew n * 64 := by unfold ew; omega
 obtain ⟨np, Lr⟩ := ex (ew n)
 rw [Lr] at VW yP Fx HG Zq
 obtain ⟨aam, aal⟩ := VW
 obtain ⟨aaO, aaN⟩ := hKb
 obtain ⟨aay, aax⟩ := Du
 obtain ⟨aaQ, aaP⟩ := Uu
 have hw' : (a : Int) + K ≤ 64 := oM
 obtain ⟨P0, hP⟩ := ex ((a + 2) * f.pg)
 have hP1 : P0 + np ≤ 1024 := by rw [← hP]; exact Nat.le_trans yP nV
 rw [hP] at Fx HG Zq
 have PB := iD hP
 obtain ⟨G, hG⟩ := ex (eD f a K img)
 rw [hG] at HG xX HGU UQ FD uJ GN Zi Xt AE Fo uH ⊢
 have q3 : IntKind.i64.wrap Cs = Cs := IntWalk.i64_in _ oM
 have HK8 := iD jG
 have zk := iD hK
 have iE := hv.1
 have jB := hv.2
 have h1i : (1 : Int) ≤ (n : Int) := oM
 have h2i : (n : Int) ≤ (N : Int) := oM
 have hal : a ≤ 64 := oM
 unfold maxLen at fS
 unfold RFM
 rw [← uw, SI] at HR ⊢
 simp only [Rc.v] at pa
 have Fk : Hid (∀ (y : Rc) (g : Fl), (xa y g).size = 6) := fun y g => aQ y g
 have MH : Hid (∀ (y : Rc) (g : Fl), (xa y g).all (·.oneCell') = true) := fun y g => mE y g
 have HFZ : Hid (F0.size = 6) := by rw [← SI]; exact aQ _ _
 have HRG : Hid (∀ W, bW w W → cf (XF X w.heap.size 2) W x f) := fun W hb => HR0.xf hb 2
 clear hsf h hX hA hn hb hu hE LG hC gp gw gk gu gb Gv hP hN LD lG iA hk jG hw gr nV hv hG OF Lr Wc x1 x2 x3 x4 x5 x6 hp hK yP h1 h2 SI
 subst lX cB
 go_enter func10, ntmps10
 go_upto_region 1 with (fail)
 try rw [hW]
 clear hW
 refine wp_region_list ?_
 refine lF H0.aC HFZ ?_
 go_wp2_with (fail)
 refine (HR W).mono ?_
 rintro e v1 ⟨rfl, dB⟩
 have H2 := iD (H0.ab dB)
 clear dB
 have HF0' := Jx.out
 have d0 := H2.cell0 0 (v := .slice x.A f.img.length x.c) (by rw [HF0']; rfl)
 have d1 := H2.cell0 1 (v := .int .i64 f.pg) (by rw [HF0']; rfl)
 have d2 := H2.cell0 2 (v := .slice x.B f.aq.length x.d) (by rw [HF0']; rfl)
 have d3 := H2.cell0 3 (v := .bool f.aF) (by rw [HF0']; rfl)
 have d4 := H2.cell0 4 (v := .int .i64 f.be) (by rw [HF0']; rfl)
 have d5 := H2.cell0 5 (v := .slice x.P f.az.length x.r) (by rw [HF0']; rfl)
 clear HF0'
 go_wp2_with (fail)
 clear d0 d1 d2 d3 d4 d5
 refine (pa v1).mono ?_
 rintro e v2 ⟨rfl, dZ⟩
 have H3 := iD (H2.ab dZ)
 clear dZ
 have Fv : Hid (cf (XF X w.heap.size 2) v2 x f) := HRG _ H3.below
 go_wp2_with (fail)
 go_loopw [47] (fun i wr => ∃ (j : Nat) (y : Rc), j ≤ K ∧ i = .int .i64 (j : Int) ∧ Fr w wr [(xa y (eg f a j), 35), (zF, 35)] ∧ cf (XF X w.heap.size 2) wr y (eg f a j)) (fun i _ => K - (intOf i).toNat)
 case atStart => exact ⟨0, x, Nat.zero_le _, rfl, by have := H3.out; rw [Jx.out] at this; exact this, Fv.out⟩
 case round =>
  obtain ⟨j, y, hj, rfl, hF, hR⟩ := hrel
  have Yb := iD hF
  have Zo := iD hR
  clear hF hR
  by_cases aW : j < K
  ·have nn := iD (fun (W : World) (hb : bW wr W) => ql (Zo.below hb) (XF.lt HX (Nat.le_trans Yb.len hb.size)) ((a : Int) + (j : Int)))
   have q5 : IntKind.i64.wrap ((a : Int) + (j : Int)) = (a : Int) + (j : Int) := IntWalk.i64_in _ oM
   have hec := J7 j aW
   rw [show (a : Int) + (j : Int) = ((a + j : Nat) : Int) by push_cast; rfl] at nn
   rw [hec] at nn
   rw [show (aT (eg f a j) ((a + j : Nat) : Int)).1 = eg f a (j + 1) from rfl, show ((a + j : Nat) : Int) = (a : Int) + (j : Int) by push_cast; rfl] at nn
   obtain ⟨g, hg⟩ := ex (eg f a j)
   obtain ⟨g', dr⟩ := ex (eg f a (j + 1))
   rw [hg, dr] at nn
   rw [hg] at Yb
   simp only [← uw] at nn
   have HG' := iD dr
   clear hec hg dr
   go_upto_region 10 with (fail)
   refine wp_region_list ?_
   refine lF Yb.aC (Fk y g) ?_
   refine wV (.int .i64 (a : Int)) ?_
   refine wV (.int .i64 (j : Int)) ?_
   refine wV (.int .i64 ((a : Int) + (j : Int))) ?_
   refine cP (nn wr bV) ?_
   rintro e v3 ⟨z, rfl, Eu, gL⟩
   refine rP ?_
   have H2 := iD (Yb.ab gL)
   have PA := iD Eu
   clear gL Eu
   refine wV (.tuple #[.agg (xa z g'), .int .i64 0]) ?_
   refine wV (.agg (xa z g')) ?_
   refine wV (.int .i64 0) ?_
   refine sP 0 H2 fun w3 o H3 => ?_
   have abd := iD (PA.ao (M8 o))
   go_wp2
   go_roundw
   case rel => exact ⟨j + 1, z, oM, by go_num, by rw [HG']; exact H3, by rw [HG']; exact abd⟩
   case measure => simp [intOf]; omega
  have hjK : j = K := oM
  subst hjK
  go_wp2_with (fail)
  go_loopw [15] (fun i wr => ∃ (m : Nat) (y : Rc), m ≤ np ∧ i = .int .i64 ((64 * m : Nat) : Int) ∧ Fr w wr [(xa y (iO (eg f a j) P0 img m), 35), (zF, 35)] ∧ cf (XF X w.heap.size 2) wr y (iO (eg f a j) P0 img m)) (fun i _ => np - (intOf i).toNat / 64)
  case atStart => exact ⟨0, y, Nat.zero_le _, rfl, Yb, Zo⟩
  case round =>
   obtain ⟨m, z, hm, rfl, hF, hR⟩ := hrel
   have Tu := iD hF
   have Zn := iD hR
   clear hF hR
   obtain ⟨I, hI⟩ := ex (64 * m)
   by_cases sR : m < np
   ·obtain ⟨bb, off, rfl⟩ : ∃ b off, A = some ⟨b, off, none⟩ := by
     obtain ⟨b, off, e, _⟩ := HA (by
      intro e
      have := aE .u8 img
      rw [e, FA] at this
      simp at this
      omega)
     exact ⟨b, off, e⟩
    obtain ⟨M, hM⟩ := ex (min 64 (n - 64 * m))
    have Dh : Hid ((eQ img m).length = M) := by rw [Hid, jv, FA, hM]
    have xP : 1 ≤ M ∧ M ≤ 64 ∧ I + M ≤ n := oM
    obtain ⟨hM3, Ur, hM5⟩ := xP
    have Sh : min ((I : Int) + 64) (n : Int) = (I : Int) + (M : Int) := oM
    have hIm : (I : Int) < (n : Int) := oM
    have hIc : I ≤ c := oM
    have k1 : (I : Int) ≤ (I : Int) + (M : Int) := oM
    have k2 : (I : Int) + (M : Int) ≤ (c : Int) := oM
    have k3 : (0 : Int) ≤ (I : Int) := oM
    have k4 : ((I : Int) + (M : Int)).toNat = I + M := oM
    have k5 : I + M - I = M := oM
    have k6 : ¬ (c = I) := oM
    have k7 : IntKind.i64.wrap ((I : Int) + 64) = (I : Int) + 64 := IntWalk.i64_in _ oM
    have k8 : (0 : Int) ≤ (I : Int) + (M : Int) := oM
    have hdv : (I : Int).tdiv 64 = (m : Int) := by rw [Int.tdiv_eq_ediv_of_nonneg oM]; omega
    have acb : (I : Int) / 64 = (m : Int) := oM
    have abU : IntKind.i64.wrap (m : Int) = (m : Int) := IntWalk.i64_in _ oM
    have VO : IntKind.i64.wrap ((P0 : Int) + (m : Int)) = (P0 : Int) + (m : Int) := IntWalk.i64_in _ oM
    obtain ⟨g, hg⟩ := ex (iO (eg f a j) P0 img m)
    obtain ⟨g', dr⟩ := ex (iO (eg f a j) P0 img (m + 1))
    have hpf : bz g ((P0 + m : Nat) : Int) (gg (eQ img m)) = (g', 0) := by
     have e2 := Fx m sR
     rw [← hg, ← dr]
     exact Prod.ext rfl e2
    have hgp := Zq m oM
    rw [hg] at hgp Tu Zn
    have HG' := iD dr
    have Tq : Hid (∀ W, bW wr W → Calls prog 28 #[.agg (xa z g), .int .i64 (a : Int), .int .i64 (j : Int), .int .i64 0] W fun e w' => e = .returned (.int .i64 (P0 : Int)) ∧ bW wr w' ∧ bW W w') := fun W hb => by
     have := uQ Zn k a 0 HK8 oM hal (a : Int) (j : Int) 0 rfl (by rw [← zk]) rfl W
     rw [show (a + 2 + 0 * k) * g.pg = P0 by rw [hgp, Nat.zero_mul, Nat.add_zero]; exact PB] at this
     exact this.mono (fun e w' ⟨he, h2⟩ => ⟨he, hb.trans (h2.mono hb.size), h2⟩)
    have PJ : Hid (∀ W, bW wr W → Calls prog 29 #[.slice (some ⟨bb, off + I, none⟩) M (c - I)] W fun e w' => ∃ A' c', e = .returned (.slice A' 64 c') ∧ 64 ≤ c' ∧ c' ≤ maxLen ∧ Rd w' w'.heap.size A' (ag .u8 (gg (eQ img m))) ∧ bW wr w' ∧ bW W w') := fun W hb => by
     have Qz := Tu.below.trans (hb.mono Tu.below.size)
     have Dn : Rd W W.heap.size (some ⟨bb, off + I, none⟩) (ag .u8 (eQ img m)) := by
      rw [← hI]
      exact ((HA.below Qz cV).more Qz.size).part (64 * m) 64
     refine (F1 (some ⟨bb, off + I, none⟩) M (c - I) (eQ img m) W Dn Dh Ur).mono ?_
     rintro e w' ⟨A', c', he, ho, h2⟩
     obtain ⟨A3, c3, e3, h4, h5, h6⟩ := bL ho
     injection e3 with e31 e32 e33
     subst e31 e33
     exact ⟨A', c', he, h4, h5, h6, hb.trans (h2.mono hb.size), h2⟩
    have mz : Hid (∀ W, bW wr W → ∀ A' c', Rd W W.heap.size A' (ag .u8 (gg (eQ img m))) → 64 ≤ c' → c' ≤ maxLen → Calls prog 27 #[.agg (xa z g), .int .i64 ((P0 : Int) + (m : Int)), .slice A' 64 c'] W fun e w' => ∃ y' : Rc, e = .returned (.tuple #[.agg (xa y' g'), .int .i64 0]) ∧ cf (XF X w.heap.size 2) w' y' g' ∧ bW wr w' ∧ bW W w') := fun W hb A' c' hr h4 h5 => by
     have := ml (Zn.below hb) (XF.lt HX (Nat.le_trans Tu.len hb.size)) ((P0 + m : Nat) : Int) A' 64 c' (gg (eQ img m)) hr (eR (by rw [Dh]; exact Ur)) h4 h5 (kx (kl HB m))
     rw [hpf, show ((P0 + m : Nat) : Int) = (P0 : Int) + (m : Int) by push_cast; rfl] at this
     exact this.mono (fun e w' ⟨y', he, h2, h3⟩ => ⟨y', he, h2, hb.trans (h3.mono hb.size), h3⟩)
    rw [hI]
    clear hM hg dr hpf hgp
    go_upto_region 17 with (fail)
    have H2 := iD (Tu.ab fT)
    refine wp_region_held_drew (S := fun _ => True) (by kernel_rfl) (trivial) (fun _ => ?_)
    refine vN 2 (a : Int) (trivial) ?_
    refine vN 3 (j : Int) (trivial) ?_
    refine vN 5 (I : Int) (trivial) ?_
    refine vN 6 (m : Int) (trivial) ?_
    refine tV 8 (.slice (some ⟨bb, off, none⟩) n c) (trivial) ?_
    refine vN 9 (I : Int) (trivial) ?_
    refine vN 10 (I : Int) (trivial) ?_
    refine tV 11 (.int .i64 ((I : Int) + 64)) (trivial) ?_
    refine tV 12 (.slice (some ⟨bb, off, none⟩) n c) (trivial) ?_
    refine vN 13 (n : Int) (trivial) ?_
    refine tV 14 (.int .i64 ((I : Int) + (M : Int))) (trivial) ?_
    refine tV 15 (.slice (some ⟨bb, off + I, none⟩) M (c - I)) (trivial) ?_
    refine wJ 0 1 ?_ ?_
    ·refine n7 rfl (by rfl) 35 _ rfl w.heap.size rfl 35 (xa z g) _ H2.aC underlying35 rfl (pv (Fk z g)) ⟨trivial, ?_⟩
     change wpAnyH _ _ _ _ _ _ _ (Act.put _ (some 69) _) _
     simp only [nm]
     refine wI 1 ?_
     refine n7 rfl (by rfl) 35 _ rfl w.heap.size rfl 35 (xa z g) _ H2.aC underlying35 rfl (pv (Fk z g)) ⟨trivial, ?_⟩
     change wpAnyH _ _ _ _ _ _ _ (Act.put _ (some 70) _) _
     simp only [nm]
     refine wI 4 (cW (Tq _ (Below.drew bV)) ?_)
     rintro e v5 ⟨rfl, gD, qX⟩
     have H3 := iD (H2.ab (qX))
     refine rW trivial ?_
     refine tV 7 (.int .i64 ((P0 : Int) + (m : Int))) (trivial) ?_
     refine wI 16 (cW (PJ _ (gD)) ?_)
     rintro e v6 ⟨A6, c6, rfl, oX, oW, kF, fx, mZ⟩
     have H4 := iD (H3.ab (mZ))
     refine rW trivial ?_
     refine wI 17 (cW (mz _ (fx) A6 c6 kF oX oW) ?_)
     rintro e v7 ⟨y7, rfl, Ip, jf, kh⟩
     have H5 := iD (H4.ab (kh))
     have tp := iD Ip
     refine rW trivial ?_
     refine tV 18 (.tuple #[.agg (xa y7 g'), .int .i64 0]) (trivial) ?_
     refine vA 19 (xa y7 g') (trivial) ?_
     refine vN 20 0 (trivial) ?_
     refine wI 21 (sW 0 H5 fun w6 o H6 => ?_)
     have Fw := iD (tp.ao (M8 o))
     refine ⟨trivial, ?_⟩
     refine vN 22 0 (trivial) ?_
     refine wD ?_
     clear gD qX fx mZ kF jf kh Ip
     go_wp2
     go_roundw
     case rel => exact ⟨m + 1, y7, oM, by go_num, by rw [HG']; exact H6, by rw [HG']; exact Fw⟩
     case measure => simp [intOf]; omega
    refine n7 rfl (by rfl) 35 _ rfl w.heap.size rfl 35 (xa z g) _ H2.aC underlying35 rfl (pv (Fk z g)) ⟨trivial, ?_⟩
    change wpAnyH _ _ _ _ _ _ _ (Act.put _ (some 70) _) _
    simp only [nm]
    refine wJ 0 4 ?_ ?_
    ·refine n7 rfl (by rfl) 35 _ rfl w.heap.size rfl 35 (xa z g) _ H2.aC underlying35 rfl (pv (Fk z g)) ⟨trivial, ?_⟩
     change wpAnyH _ _ _ _ _ _ _ (Act.put _ (some 69) _) _
     simp only [nm]
     refine wI 4 (cW (Tq _ (Below.drew bV)) ?_)
     rintro e v5 ⟨rfl, gD, qX⟩
     have H3 := iD (H2.ab (qX))
     refine rW trivial ?_
     refine tV 7 (.int .i64 ((P0 : Int) + (m : Int))) (trivial) ?_
     refine wI 16 (cW (PJ _ (gD)) ?_)
     rintro e v6 ⟨A6, c6, rfl, oX, oW, kF, fx, mZ⟩
     have H4 := iD (H3.ab (mZ))
     refine rW trivial ?_
     refine wI 17 (cW (mz _ (fx) A6 c6 kF oX oW) ?_)
     rintro e v7 ⟨y7, rfl, Ip, jf, kh⟩
     have H5 := iD (H4.ab (kh))
     have tp := iD Ip
     refine rW trivial ?_
     refine tV 18 (.tuple #[.agg (xa y7 g'), .int .i64 0]) (trivial) ?_
     refine vA 19 (xa y7 g') (trivial) ?_
     refine vN 20 0 (trivial) ?_
     refine wI 21 (sW 0 H5 fun w6 o H6 => ?_)
     have Fw := iD (tp.ao (M8 o))
     refine ⟨trivial, ?_⟩
     refine vN 22 0 (trivial) ?_
     refine wD ?_
     clear gD qX fx mZ kF jf kh Ip
     go_wp2
     go_roundw
     case rel => exact ⟨m + 1, y7, oM, by go_num, by rw [HG']; exact H6, by rw [HG']; exact Fw⟩
     case measure => simp [intOf]; omega
    refine cW (Tq _ (Below.drew bV)) ?_
    rintro e v5 ⟨rfl, gD, qX⟩
    have H3 := iD (H2.ab (qX))
    refine rW trivial ?_
    refine tV 7 (.int .i64 ((P0 : Int) + (m : Int))) (trivial) ?_
    refine wJ 0 16 ?_ ?_
    ·refine n7 rfl (by rfl) 35 _ rfl w.heap.size rfl 35 (xa z g) _ H3.aC underlying35 rfl (pv (Fk z g)) ⟨trivial, ?_⟩
     change wpAnyH _ _ _ _ _ _ _ (Act.put _ (some 69) _) _
     simp only [nm]
     refine wI 16 (cW (PJ _ (gD)) ?_)
     rintro e v6 ⟨A6, c6, rfl, oX, oW, kF, fx, mZ⟩
     have H4 := iD (H3.ab (mZ))
     refine rW trivial ?_
     refine wI 17 (cW (mz _ (fx) A6 c6 kF oX oW) ?_)
     rintro e v7 ⟨y7, rfl, Ip, jf, kh⟩
     have H5 := iD (H4.ab (kh))
     have tp := iD Ip
     refine rW trivial ?_
     refine tV 18 (.tuple #[.agg (xa y7 g'), .int .i64 0]) (trivial) ?_
     refine vA 19 (xa y7 g') (trivial) ?_
     refine vN 20 0 (trivial) ?_
     refine wI 21 (sW 0 H5 fun w6 o H6 => ?_)
     have Fw := iD (tp.ao (M8 o))
     refine ⟨trivial, ?_⟩
     refine vN 22 0 (trivial) ?_
     refine wD ?_
     clear gD qX fx mZ kF jf kh Ip
     go_wp2
     go_roundw
     case rel => exact ⟨m + 1, y7, oM, by go_num, by rw [HG']; exact H6, by rw [HG']; exact Fw⟩
     case measure => simp [intOf]; omega
    refine cW (PJ _ (gD)) ?_
    rintro e v6 ⟨A6, c6, rfl, oX, oW, kF, fx, mZ⟩
    have H4 := iD (H3.ab (mZ))
    refine rW trivial ?_
    refine wI 0 ?_
    refine n7 rfl (by rfl) 35 _ rfl w.heap.size rfl 35 (xa z g) _ H4.aC underlying35 rfl (pv (Fk z g)) ⟨trivial, ?_⟩
    change wpAnyH _ _ _ _ _ _ _ (Act.put _ (some 69) _) _
    simp only [nm]
    refine wI 17 (cW (mz _ (fx) A6 c6 kF oX oW) ?_)
    rintro e v7 ⟨y7, rfl, Ip, jf, kh⟩
    have H5 := iD (H4.ab (kh))
    have tp := iD Ip
    refine rW trivial ?_
    refine tV 18 (.tuple #[.agg (xa y7 g'), .int .i64 0]) (trivial) ?_
    refine vA 19 (xa y7 g') (trivial) ?_
    refine vN 20 0 (trivial) ?_
    refine wI 21 (sW 0 H5 fun w6 o H6 => ?_)
    have Fw := iD (tp.ao (M8 o))
    refine ⟨trivial, ?_⟩
    refine vN 22 0 (trivial) ?_
    refine wD ?_
    clear gD qX fx mZ kF jf kh Ip
    go_wp2
    go_roundw
    case rel => exact ⟨m + 1, y7, oM, by go_num, by rw [HG']; exact H6, by rw [HG']; exact Fw⟩
    case measure => simp [intOf]; omega
   have hmn : m = np := oM
   subst hmn
   have De : Hid (Fr w wr [(xa z G, 35), (zF, 35)]) := by rw [HG]; exact Tu
   have Jp : Hid (cf (XF X w.heap.size 2) wr z G) := by rw [HG]; exact Zn
   have hIn : ¬ ((I : Int) < (n : Int)) := oM
   rw [hI]
   obtain ⟨s0, fp⟩ := ex (aJ G a 2 (aH N))
   rw [fp] at xX Zi Xt AE Fo uH
   have xA := iD fp
   have Jn : Hid (∀ W, bW wr W → Calls prog 25 #[.agg (xa z G), .int .i64 (j : Int)] W fun e w' => e = .returned (.int .i64 (N : Int)) ∧ bW wr w' ∧ bW W w') := fun W hb => by
    have := uP Jp k HK8 (j : Int) (by rw [← zk]) W
    rw [zk, uJ] at this
    exact this.mono (fun e w' ⟨he, dZ⟩ => ⟨he, hb.trans (dZ.mono hb.size), dZ⟩)
   have AI : Hid (∀ W, bW wr W → Calls prog 31 #[.int .i64 (N : Int)] W fun e w' => ∃ A c, e = .returned (.slice A 9 c) ∧ 9 ≤ c ∧ c ≤ maxLen ∧ Rd w' w'.heap.size A (bK (aH N)) ∧ bW wr w' ∧ bW W w') := fun W hb => (FX N oM W).mono (fun e w' ⟨A, c, he, h1, h2, h3, dZ⟩ => ⟨A, c, he, h1, h2, h3, hb.trans (dZ.mono hb.size), dZ⟩)
   have Fy := iD (fun (W : World) (hb : bW wr W) (A' : Option Addr) (c' : Nat) hA h1 h2 => FY (Jp.wide hb) (fun b cU => cU.elim (fun e => Nat.lt_of_lt_of_le (XF.lt HX De.len b e) hb.size) (fun e => e.2)) FD rfl (N := N) oM A' c' hA h1 h2)
   rw [fp] at Fy
   have uI : Hid (∀ w3, bW wr w3 → ∀ W, bW w3 W → ∀ A' c', Rd w3 w3.heap.size A' (bK (aH N)) → 9 ≤ c' → c' ≤ maxLen → Calls prog 30 #[.agg (xa z G), .int .i64 (a : Int), .int .i64 2, .slice A' 9 c'] W fun e w' => ∃ q : Qv, e = .returned (.tuple #[.agg (sa q s0), .int .i64 0]) ∧ ic (XW (XF X w.heap.size 2) wr.heap.size W.heap.size) w' q s0 G.pg ∧ bW wr w' ∧ bW W w') := fun w3 gL W hbx A' c' h1 h2 h3 =>
    have hb := gL.trans (hbx.mono gL.size)
    (Fy W hb A' c' ((h1.below hbx cV).more hbx.size) h2 h3).mono (fun e w' ⟨q, he, dZ, h4⟩ => ⟨q, he, h4, hb.trans (dZ.mono hb.size), dZ⟩)
   clear fp
   go_upto_region 20 with (fail)
   go_cut [16, 17] (fun p cd wx => ∃ (B5 : Nat) (q : Qv), p = .pointer (some ⟨B5, 0, none⟩) ∧ cd = .int .i64 0 ∧ Fs X w wx z G B5 q s0)
   case first =>
    have H2 := iD (De.ab fT)
    refine wp_region_held_drew (S := fun w' => w'.heap[w.heap.size]? = some (.cells (xa z G) 35 (0, 0))) (by kernel_rfl) H2.aC (fun _ => ?_)
    refine tL 0 _ rfl (jT (fun _ hS => hS) (Fk z G)) H2.aC ?_
    refine vN 1 (a : Int) H2.aC ?_
    refine tL 2 _ rfl (jT (fun _ hS => hS) (Fk z G)) H2.aC ?_
    refine vN 3 (j : Int) H2.aC ?_
    refine wJ 4 10 ?_ ?_
    ·refine cW (Jn _ (Below.drew (Below.refl wr.heap.size wr))) ?_
     rintro e v5 ⟨rfl, gD, qX⟩
     have H3 := iD (H2.ab (qX))
     refine rW H3.aC ?_
     refine wJ 5 10 ?_ ?_
     ·refine cW (AI _ (gD)) ?_
      rintro e v6 ⟨A6, c6, rfl, oX, oW, kF, fx, mZ⟩
      have H4 := iD (H3.ab (mZ))
      refine rW H4.aC ?_
      refine wJ 6 10 ?_ ?_
      ·refine cW (uI v6 fx _ bV A6 c6 kF oX oW) ?_
       rintro e v7 ⟨q7, rfl, R8, jf, kh⟩
       have H5 := iD (H4.ab (kh))
       have Jq := iD R8
       refine rW H5.aC ?_
       refine tV 7 (.tuple #[.agg (sa q7 s0), .int .i64 0]) H5.aC ?_
       refine vA 8 (sa q7 s0) H5.aC ?_
       refine vN 9 0 H5.aC ?_
       refine wI 10 ?_
       refine oN rfl (by rfl) rfl ⟨(H5.ab (bV.alloc cV _)).aC, ?_⟩
       change wpAnyH _ _ _ _ _ _ _ (Act.put _ (some 16) _) _
       simp only [nm]
       obtain ⟨B5, oZ⟩ := ex (v7).heap.size
       obtain ⟨W5, pD⟩ := ex ((v7).alloc (.cells zS 43))
       have tX : W5.heap[B5]? = some (.cells zS 43 (0, 0)) := by rw [← pD, ← oZ]; exact heap_alloc_new _ _
       have Iz : bW wr W5 := by rw [← pD]; exact (jf).alloc (jf).size _
       have zO : Below (v7).heap.size (v7) W5 := by rw [← pD]; exact bV.alloc cV _
       have vR : wr.heap.size ≤ B5 := by rw [← oZ]; exact (jf).size
       have QD := iD (H5.ab zO)
       rw [pD]
       try rw [oZ]
       clear pD
       refine wI 11 ?_
       refine fO rfl (by rfl) rfl 43 _ _ rfl B5 (sa q7 s0) zS rfl rfl 43 tX (yg (cD q7 s0)) rfl (gK q7 s0) ⟨(setRow_other _ _ _ _ (by have := De.len; simp only [List.length_cons, List.length_nil] at this; omega)).trans QD.aC, ?_⟩
       refine vN 12 0 ((setRow_other _ _ _ _ (by have := De.len; simp only [List.length_cons, List.length_nil] at this; omega)).trans QD.aC) ?_
       refine wD ?_
       (try go_wp2_with fail)
       go_meet
       exact ⟨B5, q7, rfl, rfl, Fs.new De Jp jf vR Jq (.inr (by rw [← oZ]; exact Nat.le_refl _)) ((ah.ak zO).trans (ah.row _ _ _ rfl)) (below_setRow (Iz) vR _) (setRow_heap _ _ _ _ _ _ tX)⟩
      refine oN rfl (by rfl) rfl ⟨(H4.ab (bV.alloc cV _)).aC, ?_⟩
      change wpAnyH _ _ _ _ _ _ _ (Act.put _ (some 16) _) _
      simp only [nm]
      obtain ⟨B5, oZ⟩ := ex (v6).heap.size
      obtain ⟨W5, pD⟩ := ex ((v6).alloc (.cells zS 43))
      have tX : W5.heap[B5]? = some (.cells zS 43 (0, 0)) := by rw [← pD, ← oZ]; exact heap_alloc_new _ _
      have Iz : bW wr W5 := by rw [← pD]; exact (fx).alloc (fx).size _
      have zO : Below (v6).heap.size (v6) W5 := by rw [← pD]; exact bV.alloc cV _
      have vR : wr.heap.size ≤ B5 := by rw [← oZ]; exact (fx).size
      have QD := iD (H4.ab zO)
      rw [pD]
      try rw [oZ]
      clear pD
      refine wI 6 (cW (uI v6 fx _ (zO) A6 c6 kF oX oW) ?_)
      rintro e v7 ⟨q7, rfl, R8, jf, kh⟩
      have H6 := iD (QD.ab (kh))
      have yO := (kh.block _ (Array.getElem?_eq_some_iff.1 tX).1).trans tX
      have Jq := iD R8
      refine rW H6.aC ?_
      refine tV 7 (.tuple #[.agg (sa q7 s0), .int .i64 0]) H6.aC ?_
      refine vA 8 (sa q7 s0) H6.aC ?_
      refine vN 9 0 H6.aC ?_
      refine wI 11 ?_
      refine fO rfl (by rfl) rfl 43 _ _ rfl B5 (sa q7 s0) zS rfl rfl 43 yO (yg (cD q7 s0)) rfl (gK q7 s0) ⟨(setRow_other _ _ _ _ (by have := De.len; simp only [List.length_cons, List.length_nil] at this; omega)).trans H6.aC, ?_⟩
      refine vN 12 0 ((setRow_other _ _ _ _ (by have := De.len; simp only [List.length_cons, List.length_nil] at this; omega)).trans H6.aC) ?_
      refine wD ?_
      (try go_wp2_with fail)
      go_meet
      exact ⟨B5, q7, rfl, rfl, Fs.new De Jp jf vR Jq (.inl (Array.getElem?_eq_some_iff.1 tX).1) (ah.row _ _ _ rfl) (below_setRow (jf) vR _) (setRow_heap _ _ _ _ _ _ yO)⟩
     refine oN rfl (by rfl) rfl ⟨(H3.ab (bV.alloc cV _)).aC, ?_⟩
     change wpAnyH _ _ _ _ _ _ _ (Act.put _ (some 16) _) _
     simp only [nm]
     obtain ⟨B5, oZ⟩ := ex (v5).heap.size
     obtain ⟨W5, pD⟩ := ex ((v5).alloc (.cells zS 43))
     have tX : W5.heap[B5]? = some (.cells zS 43 (0, 0)) := by rw [← pD, ← oZ]; exact heap_alloc_new _ _
     have Iz : bW wr W5 := by rw [← pD]; exact (gD).alloc (gD).size _
     have zO : Below (v5).heap.size (v5) W5 := by rw [← pD]; exact bV.alloc cV _
     have vR : wr.heap.size ≤ B5 := by rw [← oZ]; exact (gD).size
     have QD := iD (H3.ab zO)
     rw [pD]
     try rw [oZ]
     clear pD
     refine wI 5 (cW (AI _ (Iz)) ?_)
     rintro e v6 ⟨A6, c6, rfl, oX, oW, kF, fx, mZ⟩
     have H5 := iD (QD.ab (mZ))
     have Ln := (mZ.block _ (Array.getElem?_eq_some_iff.1 tX).1).trans tX
     refine rW H5.aC ?_
     refine wI 6 (cW (uI v6 fx _ bV A6 c6 kF oX oW) ?_)
     rintro e v7 ⟨q7, rfl, R8, jf, kh⟩
     have H7 := iD (H5.ab (kh))
     have Qd := (kh.block _ (Array.getElem?_eq_some_iff.1 Ln).1).trans Ln
     have Jq := iD R8
     refine rW H7.aC ?_
     refine tV 7 (.tuple #[.agg (sa q7 s0), .int .i64 0]) H7.aC ?_
     refine vA 8 (sa q7 s0) H7.aC ?_
     refine vN 9 0 H7.aC ?_
     refine wI 11 ?_
     refine fO rfl (by rfl) rfl 43 _ _ rfl B5 (sa q7 s0) zS rfl rfl 43 Qd (yg (cD q7 s0)) rfl (gK q7 s0) ⟨(setRow_other _ _ _ _ (by have := De.len; simp only [List.length_cons, List.length_nil] at this; omega)).trans H7.aC, ?_⟩
     refine vN 12 0 ((setRow_other _ _ _ _ (by have := De.len; simp only [List.length_cons, List.length_nil] at this; omega)).trans H7.aC) ?_
     refine wD ?_
     (try go_wp2_with fail)
     go_meet
     exact ⟨B5, q7, rfl, rfl, Fs.new De Jp jf vR Jq (.inl (Array.getElem?_eq_some_iff.1 Ln).1) (ah.row _ _ _ rfl) (below_setRow (jf) vR _) (setRow_heap _ _ _ _ _ _ Qd)⟩
    refine oN rfl (by rfl) rfl ⟨(H2.ab (bV.alloc cV _)).aC, ?_⟩
    change wpAnyH _ _ _ _ _ _ _ (Act.put _ (some 16) _) _
    simp only [nm]
    obtain ⟨B5, oZ⟩ := ex (wr.drew).heap.size
    obtain ⟨W5, pD⟩ := ex ((wr.drew).alloc (.cells zS 43))
    have tX : W5.heap[B5]? = some (.cells zS 43 (0, 0)) := by rw [← pD, ← oZ]; exact heap_alloc_new _ _
    have Iz : bW wr W5 := by rw [← pD]; exact (Below.drew (Below.refl wr.heap.size wr)).alloc (Below.drew (Below.refl wr.heap.size wr)).size _
    have zO : Below (wr.drew).heap.size (wr.drew) W5 := by rw [← pD]; exact bV.alloc cV _
    have vR : wr.heap.size ≤ B5 := by rw [← oZ]; exact (Below.drew (Below.refl wr.heap.size wr)).size
    have QD := iD (H2.ab zO)
    rw [pD]
    try rw [oZ]
    clear pD
    refine wI 4 (cW (Jn _ (Iz)) ?_)
    rintro e v5 ⟨rfl, gD, qX⟩
    have H4 := iD (QD.ab (qX))
    have Qe := (qX.block _ (Array.getElem?_eq_some_iff.1 tX).1).trans tX
    refine rW H4.aC ?_
    refine wI 5 (cW (AI _ (gD)) ?_)
    rintro e v6 ⟨A6, c6, rfl, oX, oW, kF, fx, mZ⟩
    have H6 := iD (H4.ab (mZ))
    have yO := (mZ.block _ (Array.getElem?_eq_some_iff.1 Qe).1).trans Qe
    refine rW H6.aC ?_
    refine wI 6 (cW (uI v6 fx _ bV A6 c6 kF oX oW) ?_)
    rintro e v7 ⟨q7, rfl, R8, jf, kh⟩
    have H8 := iD (H6.ab (kh))
    have Qc := (kh.block _ (Array.getElem?_eq_some_iff.1 yO).1).trans yO
    have Jq := iD R8
    refine rW H8.aC ?_
    refine tV 7 (.tuple #[.agg (sa q7 s0), .int .i64 0]) H8.aC ?_
    refine vA 8 (sa q7 s0) H8.aC ?_
    refine vN 9 0 H8.aC ?_
    refine wI 11 ?_
    refine fO rfl (by rfl) rfl 43 _ _ rfl B5 (sa q7 s0) zS rfl rfl 43 Qc (yg (cD q7 s0)) rfl (gK q7 s0) ⟨(setRow_other _ _ _ _ (by have := De.len; simp only [List.length_cons, List.length_nil] at this; omega)).trans H8.aC, ?_⟩
    refine vN 12 0 ((setRow_other _ _ _ _ (by have := De.len; simp only [List.length_cons, List.length_nil] at this; omega)).trans H8.aC) ?_
    refine wD ?_
    (try go_wp2_with fail)
    go_meet
    exact ⟨B5, q7, rfl, rfl, Fs.new De Jp jf vR Jq (.inl (Array.getElem?_eq_some_iff.1 yO).1) (ah.row _ _ _ rfl) (below_setRow (jf) vR _) (setRow_heap _ _ _ _ _ _ Qc)⟩
   case rest =>
    as_aux_lemma =>
     obtain ⟨B5, q, rfl, rfl, SI⟩ := hcut
     have Jx := iD SI
     clear SI
     have Ch := FW Jx.rv xX (Jx.TX HX) 3 (v)
     rw [Zi] at Ch
     obtain ⟨s1, gC⟩ := ex (aV s0 3 (v))
     rw [gC] at Ch Xt AE
     rw [← DZ] at Ch
     simp only [← DZ] at Ch
     have aa5 := iD Ch
     have QV : Hid (bD G s1) := by rw [← gC]; exact eH xX (by unfold dH; omega)
     have Dg := iD gC
     clear Ch gC
     go_upto_region 21 with (fail)
     refine wp_region_list ?_
     refine K8 rfl _ rfl B5 rfl (sa q s0) Jx.row (cD q s0) ?_
     simp only [nm]
     refine wV (.int .i64 v) ?_
     refine cP (aa5) ?_
     rintro e u1 ⟨q1, rfl, iE, dB⟩
     refine rP ?_
     refine wV (.tuple #[.agg (sa q1 s1), .int .i64 0]) ?_
     refine wV (.agg (sa q1 s1)) ?_
     refine wV (.int .i64 0) ?_
     refine PZ rfl _ _ rfl rfl B5 (sa q1 s1) rfl rfl _ (Jx.ab dB).row (cD q1 s1) (cD q s0) (gK q1 s1) ?_
     have Df := iD (Jx.NT dB iE)
     generalize u1.setRow B5 (sa q1 s1) = V1 at Df ⊢
     clear iE dB
     have Cg := FW Df.rv QV (Df.TX HX) 4 ((n : Int))
     rw [Xt] at Cg
     obtain ⟨s2, je⟩ := ex (aV s1 4 ((n : Int)))
     rw [je] at Cg AE
     rw [← DZ] at Cg
     simp only [← DZ] at Cg
     have aa4 := iD Cg
     have QU : Hid (bD G s2) := by rw [← je]; exact eH QV (by unfold dH; omega)
     have GW := iD je
     clear Cg je
     go_upto_region 22 with (fail)
     refine wp_region_list ?_
     refine K8 rfl _ rfl B5 rfl (sa q1 s1) Df.row (cD q1 s1) ?_
     simp only [nm]
     refine wV (.slice A n c) ?_
     refine wV (.int .i64 (n : Int)) ?_
     refine cP (aa4) ?_
     rintro e u2 ⟨q2, rfl, jB, dZ⟩
     refine rP ?_
     refine wV (.tuple #[.agg (sa q2 s2), .int .i64 0]) ?_
     refine wV (.agg (sa q2 s2)) ?_
     refine wV (.int .i64 0) ?_
     refine PZ rfl _ _ rfl rfl B5 (sa q2 s2) rfl rfl _ (Df.ab dZ).row (cD q2 s2) (cD q1 s1) (gK q2 s2) ?_
     have um := iD (Df.NT dZ jB)
     generalize u2.setRow B5 (sa q2 s2) = V2 at um ⊢
     clear jB dZ
     obtain ⟨s3, uB⟩ := ex (aV s2 5 Cs)
     have XC : Hid (∀ W, bW V2 W → Calls prog 32 #[.agg (sa q2 s2), .int .i64 5, .int .i64 Cs] W fun e w' => ∃ q' : Qv, e = .returned (.tuple #[.agg (sa q' s3), .int .i64 0]) ∧ ic (X5 X w.heap.size B5) w' q' s3 G.pg ∧ bW V2 w' ∧ bW W w') := fun W hb => by
      have := FW (um.ab hb).rv QU ((um.ab hb).TX HX) 5 Cs
      rw [AE, uB] at this
      exact this.mono (fun e w' ⟨q', h1, h2, h3⟩ => ⟨q', h1, h2, hb.trans (h3.mono hb.size), h3⟩)
     have Pz : Hid (bD G s3) := by rw [← uB]; exact eH QU (by unfold dH; omega)
     have Pt : Hid (∀ W, bW V2 W → Calls prog 33 #[.slice A n c] W fun e w' => e = .returned (.int .u32 Cs) ∧ bW V2 w' ∧ bW W w') := fun W hb => by
      have Qz := um.fr.below.trans (hb.mono um.fr.below.size)
      have := nF A n c img W ((HA.below Qz cV).more Qz.size) FA HB oM
      rw [PN] at this
      refine this.mono ?_
      rintro e w' ⟨h1, qd, rfl⟩
      exact ⟨h1, Below.drewN hb qd, Below.drewN bV qd⟩
     have HEQ : Hid (dC (aJ G a 2 (aH N)) 3 [v, (n : Int), Cs] = s3) := by
      rw [Hid, xA, ← uB, ← GW, ← Dg]
      rfl
     have aba : Hid (dC s0 3 [v, (n : Int), Cs] = s3) := by
      rw [Hid, ← uB, ← GW, ← Dg]
      rfl
     have TA : Hid (s3.af = false ∧ s3.bt = false ∧ s3.seq = 0 ∧ s3.aj.length = 9) := by
      obtain ⟨b1, b2, b3, b4⟩ := uH
      obtain ⟨c1, c2, c3, c4⟩ := sy s0 3 v
      obtain ⟨d1, d2, d3, d4⟩ := sy (aV s0 3 v) 4 (n : Int)
      obtain ⟨e1, e2, e3, e4⟩ := sy (aV (aV s0 3 v) 4 (n : Int)) 5 Cs
      rw [Dg, GW, uB] at e1 e2 e3 e4
      rw [Dg, GW] at d1 d2 d3 d4
      rw [Dg] at c1 c2 c3 c4
      exact ⟨by rw [e1, d1, c1, b1], by rw [e2, d2, c2, b2], by rw [e3, d3, c3, b3], by rw [e4, d4, c4, b4]⟩
     clear uB
     go_upto_region 23 with (fail)
     go_cut [] (fun wx => ∃ q3 : Qv, Fs X w wx z G B5 q3 s3)
     case first =>
      refine wp_region_held_drew (S := fun _ => True) (by kernel_rfl) trivial (fun _ => ?_)
      refine tV 1 (.slice A n c) (trivial) ?_
      refine wJ 0 2 ?_ ?_
      ·refine n7 rfl (by rfl) 43 _ rfl B5 rfl 43 (sa q2 s2) _ (um.ab fT).row underlying43 rfl (yg (cD q2 s2)) ⟨trivial, ?_⟩
       change wpAnyH _ _ _ _ _ _ _ (Act.put _ (some 116) _) _
       simp only [nm]
       refine wI 2 (cW (Pt _ (Below.drew bV)) ?_)
       rintro e v7 ⟨rfl, jf, kh⟩
       have Qf := (um.ab jf).row
       refine rW trivial ?_
       refine vN 3 Cs (trivial) ?_
       refine wI 4 (cW (XC _ (jf)) ?_)
       rintro e v8 ⟨q3, rfl, yN, kH, aaG⟩
       have Lo := (um.ab kH).row
       refine rW trivial ?_
       refine tV 5 (.tuple #[.agg (sa q3 s3), .int .i64 0]) (trivial) ?_
       refine vA 6 (sa q3 s3) (trivial) ?_
       refine vN 7 0 (trivial) ?_
       refine wI 8 ?_
       refine fO rfl (by rfl) rfl 43 _ _ rfl B5 (sa q3 s3) (sa q2 s2) rfl rfl 43 Lo (yg (cD q3 s3)) rfl (gK q3 s3) ⟨trivial, ?_⟩
       refine wD ?_
       (try go_wp2_with fail)
       go_meet
       exact ⟨q3, um.NT kH yN⟩
      refine cW (Pt _ (Below.drew bV)) ?_
      rintro e v7 ⟨rfl, jf, kh⟩
      have Qf := (um.ab jf).row
      refine rW trivial ?_
      refine vN 3 Cs (trivial) ?_
      refine wI 0 ?_
      refine n7 rfl (by rfl) 43 _ rfl B5 rfl 43 (sa q2 s2) _ Qf underlying43 rfl (yg (cD q2 s2)) ⟨trivial, ?_⟩
      change wpAnyH _ _ _ _ _ _ _ (Act.put _ (some 116) _) _
      simp only [nm]
      refine wI 4 (cW (XC _ (jf)) ?_)
      rintro e v8 ⟨q3, rfl, yN, kH, aaG⟩
      have Lo := (um.ab kH).row
      refine rW trivial ?_
      refine tV 5 (.tuple #[.agg (sa q3 s3), .int .i64 0]) (trivial) ?_
      refine vA 6 (sa q3 s3) (trivial) ?_
      refine vN 7 0 (trivial) ?_
      refine wI 8 ?_
      refine fO rfl (by rfl) rfl 43 _ _ rfl B5 (sa q3 s3) (sa q2 s2) rfl rfl 43 Lo (yg (cD q3 s3)) rfl (gK q3 s3) ⟨trivial, ?_⟩
      refine wD ?_
      (try go_wp2_with fail)
      go_meet
      exact ⟨q3, um.NT kH yN⟩
     case rest =>
      as_aux_lemma =>
       obtain ⟨q3, Ut⟩ := hcut
       have DC := iD Ut
       have Ly := CR DC.rv DC.ra Pz (DC.TX HX) (by rw [TA.1, HGU.dn]) (fun _ => by rw [TA.2.2.1, TA.2.2.2]; rfl)
       have T8 := Fo.out
       rw [aba] at T8
       rw [T8] at Ly
       obtain ⟨t, ht⟩ := ex (aA s3 G)
       rw [ht] at Ly
       simp only [← DZ, ← uw] at Ly
       have uo := iD Ly
       have HT := iD ht
       clear Ut Ly T8 ht
       go_upto_region 24 with (fail)
       refine wp_region_list ?_
       refine K8 rfl _ rfl B5 rfl (sa q3 s3) DC.row (cD q3 s3) ?_
       refine lF DC.fr.aC (Fk z G) ?_
       refine cP (uo) ?_
       rintro e v9 ⟨q4, y4, rfl, Qa, Ol, iT⟩
       refine rP ?_
       refine wV (.tuple #[.agg (sa q4 t.1), .agg (xa y4 t.2.1), .int .i64 0]) ?_
       refine wV (.agg (sa q4 t.1)) ?_
       refine wV (.agg (xa y4 t.2.1)) ?_
       refine wV (.int .i64 0) ?_
       refine RA rfl _ _ rfl rfl w.heap.size (xa y4 t.2.1) rfl rfl _ (DC.ab iT).fr.aC (Fk y4 t.2.1) (Fk z G) (MH y4 t.2.1) ?_
       have Zz := iD ((DC.ab iT).fr.BL (xa y4 t.2.1))
       have UI := iD (Ol.ao (ah.row v9 w.heap.size (xa y4 t.2.1) (.inl (pJ X _))))
       generalize v9.setRow w.heap.size (xa y4 t.2.1) = V9 at Zz UI ⊢
       clear Qa Ol iT
       go_upto_region 25 with (fail)
       refine wp_region_list ?_
       refine lF Zz.aC (Fk y4 t.2.1) ?_
       refine wV (.int .i64 0) ?_
       refine RA rfl _ _ rfl rfl (w.heap.size + 1) (xa y4 t.2.1) rfl rfl _ Zz.dL (Fk y4 t.2.1) rfl (MH y4 t.2.1) ?_
       have Yi := iD (Zz.ZT (xa y4 t.2.1))
       have xB := iD (UI.ao (ah.row V9 (w.heap.size + 1) (xa y4 t.2.1) (.inl (xf1 X _))))
       go_wp2
       (try simp only [Exit.inBlock, Exit.then])
       refine rI rfl Yi.dL (pv (Fk y4 t.2.1)) ?_
       rw [HEQ, HT]
       exact ⟨y4, rfl, xB.cX (fun b hb => .inl (.inl hb)), Yi.below⟩
end Go.Proofs.YtjdknddnanopaaaGreat
