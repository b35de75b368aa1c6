/-
  Part 25 of the proof.
-/
import Derived.Deep.CutRange
import Derived.Test.YtjdknddnanopaaaGreatR24
namespace Go.Proofs.YtjdknddnanopaaaGreat
open Go.RowKit Tryz
set_option maxRecDepth 100000
set_option maxHeartbeats 16000000
set_option linter.all false
variable {f : Fl}
theorem sA (s : St) (i v : Int) : (aU s i v).af = s.af ∧ (aU s i v).bt = s.bt ∧ (aU s i v).seq = s.seq ∧ (aU s i v).aj.length = s.aj.length := by
 unfold aU
 split
 ·exact ⟨rfl, rfl, rfl, by simp⟩
 exact ⟨rfl, rfl, rfl, rfl⟩
theorem Tk (h : f.up) {first k : Nat} (hk : 1 ≤ k) (jE : k ≤ 8) (hw : first + (2 * k + 2) ≤ f.ar.length) (hp : 2 ≤ f.pg) {img : List Int} (hi : Bytes img) (h2 : img.length ≤ aM f (2 * k + 2)) :
 (aJ (eD f first (2 * k + 2) img) first 2 (aH (aM f (2 * k + 2)))).af = false ∧ (aJ (eD f first (2 * k + 2) img) first 2 (aH (aM f (2 * k + 2)))).bt = false ∧ (aJ (eD f first (2 * k + 2) img) first 2 (aH (aM f (2 * k + 2)))).seq = 0 ∧ (aJ (eD f first (2 * k + 2) img) first 2 (aH (aM f (2 * k + 2)))).aj.length = 9 := by
 obtain ⟨g1, g2, g3, g4, g5, g6, g7, _⟩ := ig h hw hk hi h2
 have hsz := ef h.ok jE
 have qX : eC (eD f first (2 * k + 2) img) (first : Int) ((2 * k + 2 : Nat) : Int) = 0 := by
  unfold eC
  rw [iN (by rw [g1.dn]; decide), iN oM, iN (by rw [g3]; omega), iN (by rw [g2]; omega)]
 have oI := mj qX (aM f (2 * k + 2))
 have dc := iB (n := aM f (2 * k + 2)) oM
 have dX : ∀ x, first * (eD f first (2 * k + 2) img).pg ≤ x → x < (first + 2) * (eD f first (2 * k + 2) img).pg → aB (eD f first (2 * k + 2) img) x = cL := fun x h1 h2 => by
  rw [g2] at h1 h2
  have : (first + 2) * f.pg ≤ (first + (2 * k + 2)) * f.pg := Nat.mul_le_mul_right _ oM
  rw [g5, iN oM, iP oM]
 obtain ⟨-, -, -, r4, r5, -, -, -, -, -, AY, uP⟩ := eo.ER g1.ok dX dc oI
 exact ⟨uP, r5, AY, by rw [r4]; rfl⟩
theorem Ky {X : Nat → Prop} {w : World} {x : Rc} (h : ca X w x f) (hX : ∀ b, X b → b < w.heap.size) (hu : f.up) (a k : Nat) (hk : 1 ≤ k) (jE : k ≤ 8) (hw : a + (2 * k + 2) ≤ f.ar.length) (hp : 2 ≤ f.pg) (v : Int) (hv : 1 ≤ v ∧ v ≤ 1073741824) (A : Option Addr) (n c : Nat) (img : List Int) 
 (hA : Rd w w.heap.size A (ag .u8 img)) (hn : img.length = n) (qm : n ≤ c) (fQ : c ≤ maxLen) (hb : Bytes img) (h1 : 1 ≤ n) (h2 : n ≤ aM f (2 * k + 2)) (fi bl : Int) (lk : fi = a) (cB : bl = ((2 * k + 2 : Nat) : Int)) :
 Calls prog 10 #[x.v f, .int .i64 fi, .int .i64 bl, .int .i64 v, .slice A n c] w (RFM X w (iJ f a (2 * k + 2) v (eS img) img).2.1 0) := by
 have hsz := ef h.ok jE
 have hC := l6 img
 have kC : f.ar.length ≤ 64 := h.ok.b2
 have iA : f.pg ≤ 16 := h.ok.p2
 obtain ⟨x1, x2, x3, x4, x5, x6, -, -, -, -, -⟩ := wv hu hk jE hw hp hb (by rw [hn]; exact h1) (by rw [hn]; exact h2) hv (c := eS img) ⟨hC.1, by have := hC.2; omega⟩
 have hE : eC f fi bl = 0 := by
  unfold eC
  rw [iN (by rw [hu.dn]; decide), iN oM, iN oM, iN oM]
 obtain ⟨gu, gp, gw, gk, -, gr, -, gb⟩ := ig hu hw hk hb (by rw [hn]; exact h2)
 have LG : eC (eD f a (2 * k + 2) img) fi bl = 0 := by
  unfold eC
  rw [iN (by rw [gu.dn]; decide), iN oM, iN (by rw [gw]; omega), iN (by rw [gp]; omega)]
 have HR := iD (fun w2 => sB h fi bl (by unfold dI; omega) (by unfold dI; omega) w2)
 rw [hE] at HR
 have px := iD (fun w2 => uM h k jE bl cB w2)
 obtain ⟨N, hN⟩ := ex (aM f (2 * k + 2))
 have GH : aM (eD f a (2 * k + 2) img) (2 * k + 2) = N := by rw [← hN]; unfold aM; rw [gp]
 have hsf := Tk hu hk jE hw hp hb (by rw [hn]; exact h2)
 rw [hN] at px h2 hsz x1 x2 x3 x4 x5 hsf
 rw [hn] at x4 x5 gr gb
 have Wj : iJ f a (2 * k + 2) v (eS img) img = ay (dD (aJ (eD f a (2 * k + 2) img) a 2 (aH N)) 3 [v, (n : Int), eS img]) (eD f a (2 * k + 2) img) := by
  unfold iJ xS
  rw [hN, hn]
  rfl
 rw [Wj] at x6 ⊢
 have GC := mw hu (a := a) (n := 2 * k + 2) hw
 have yT : (a + 2) * f.pg + ew n ≤ f.ar.length * f.pg := Nat.le_trans gr (Nat.mul_le_mul_right _ oM)
 have nX : f.ar.length * f.pg ≤ 1024 := gx h.ok
 have HG : Hid (eD f a (2 * k + 2) img = iS (eh f a (2 * k + 2)) ((a + 2) * f.pg) img (ew n)) := by rw [Hid, ← hn]; rfl
 have FE : Hid (∀ m < ew n, (bz (iS (eh f a (2 * k + 2)) ((a + 2) * f.pg) img m) (((a + 2) * f.pg + m : Nat) : Int) (gd (eQ img m))).2 = 0) :=
  fun m hm => vF GC.up hb (by rw [GC.wl, GC.pg]; exact yT) gb hm
 have Zs : Hid (∀ m ≤ ew n, (iS (eh f a (2 * k + 2)) ((a + 2) * f.pg) img m).pg = f.pg) :=
  fun m hm => (qP GC.up hb (a := (a + 2) * f.pg) (n := m) (by rw [GC.wl, GC.pg]; omega) (fun x h1 h2 => gb x h1 oM)).pg.trans GC.pg
 have uC := iD hsf
 have J7 : Hid (∀ m < 2 * k + 2, (aR (eh f a m) ((a + m : Nat) : Int)).2 = 0) := fun m hm => tY hu hw hm
 have xZ : Hid (bC (eD f a (2 * k + 2) img) (aJ (eD f a (2 * k + 2) img) a 2 (aH N))) := kv x2 x1
 have HGU := iD gu
 have U4 := iD gp
 have FM := iD LG
 have uE := iD GH
 have DK := iD x1
 have HX2 := iD x2
 have Zi := iD x3
 have Xw := iD x4
 have AF := iD x5
 have Fx := iD x6
 obtain ⟨Cs, OP⟩ := ex (eS img)
 have UK : 0 ≤ Cs ∧ Cs < 4294967296 := by rw [← OP]; exact hC
 rw [OP] at AF Fx ⊢
 have P5 := iD OP
 have FJ := iD hn
 have HA := iD hA
 have HB := iD hb
 have HX := iD hX
 have HR0 := iD h
 obtain ⟨F0, Tc⟩ := ex (xa x f)
 have JC : Hid (F0 = xa x f) := by rw [Hid, Tc]
 obtain ⟨W, hW⟩ := ex ((w.alloc (.cells F0 35)).alloc (.cells zF 35))
 have H0 := iD (Fr.two hW)
 have zj := iD (h.xf H0.below 2)
 obtain ⟨K, hK⟩ := ex (2 * k + 2)
 have hKb : 4 ≤ K ∧ K ≤ 18 := oM
 rw [hK] at cB HG FE Zs J7 xZ HGU U4 FM uE DK Zi Xw AF Fx uC ⊢
 have DC : (0 : Int) ≤ fi ∧ fi ≤ 64 := oM
 have V6 : ew n * 64 < n + 64 ∧ n ≤ ew n * 64 := by unfold ew; omega
 obtain ⟨np, Lq⟩ := ex (ew n)
 rw [Lq] at V6 yT FE HG Zs
 obtain ⟨aan, aam⟩ := V6
 obtain ⟨aaR, aaQ⟩ := hKb
 obtain ⟨aaz, aay⟩ := DC
 obtain ⟨aaT, aaS⟩ := UK
 have hw' : (a : Int) + K ≤ 64 := oM
 obtain ⟨P0, hP⟩ := ex ((a + 2) * f.pg)
 have hP1 : P0 + np ≤ 1024 := by rw [← hP]; exact Nat.le_trans yT nX
 rw [hP] at FE HG Zs
 have PQ := iD hP
 obtain ⟨G, hG⟩ := ex (eD f a K img)
 rw [hG] at HG xZ HGU U4 FM uE DK Zi Xw AF Fx uC ⊢
 have q3 : IntKind.i64.wrap Cs = Cs := IntWalk.i64_in _ oM
 have HK8 := iD jE
 have zl := iD hK
 have iG := hv.1
 have jA := hv.2
 have h1i : (1 : Int) ≤ (n : Int) := oM
 have h2i : (n : Int) ≤ (N : Int) := oM
 have hal : a ≤ 64 := oM
 unfold maxLen at fQ
 unfold RFM
 rw [← uk, Tc] at HR ⊢
 simp only [Rc.v] at px
 have Fw : Hid (∀ (y : Rc) (g : Fl), (xa y g).size = 6) := fun y g => aT y g
 have MJ : Hid (∀ (y : Rc) (g : Fl), (xa y g).all (·.oneCell') = true) := fun y g => mF y g
 have HFZ : Hid (F0.size = 6) := by rw [← Tc]; exact aT _ _
 have HRG : Hid (∀ W, bW w W → ca (XF X w.heap.size 2) W x f) := fun W hb => HR0.xf hb 2
 clear hsf h hX hA hn hb hu hE LG hC gp gw gk gu gb GC hP hN GH kC iA hk jE hw gr nX hv hG OP Lq Wj x1 x2 x3 x4 x5 x6 hp hK yT h1 h2 Tc
 subst lk cB
 go_enter func10, ntmps10
 go_upto_region 1 with (fail)
 try rw [hW]
 clear hW
 refine wp_region_list ?_
 refine lF H0.aE HFZ ?_
 go_wp2_with (fail)
 refine (HR W).mono ?_
 rintro e v1 ⟨rfl, dC⟩
 have H2 := iD (H0.ab dC)
 clear dC
 have HF0' := JC.out
 have d0 := H2.cell0 0 (v := .slice x.A f.img.length x.c) (by rw [HF0']; rfl)
 have d1 := H2.cell0 1 (v := .int .i64 f.pg) (by rw [HF0']; rfl)
 have d2 := H2.cell0 2 (v := .slice x.B f.ar.length x.d) (by rw [HF0']; rfl)
 have d3 := H2.cell0 3 (v := .bool f.aF) (by rw [HF0']; rfl)
 have d4 := H2.cell0 4 (v := .int .i64 f.be) (by rw [HF0']; rfl)
 have d5 := H2.cell0 5 (v := .slice x.P f.az.length x.r) (by rw [HF0']; rfl)
 clear HF0'
 go_wp2_with (fail)
 clear d0 d1 d2 d3 d4 d5
 refine (px v1).mono ?_
 rintro e v2 ⟨rfl, dP⟩
 have H3 := iD (H2.ab dP)
 clear dP
 have FC : Hid (ca (XF X w.heap.size 2) v2 x f) := HRG _ H3.below
 go_wp2_with (fail)
 go_loopw [47] (fun i wr => ∃ (j : Nat) (y : Rc), j ≤ K ∧ i = .int .i64 (j : Int) ∧ Fr w wr [(xa y (eh f a j), 35), (zF, 35)] ∧ ca (XF X w.heap.size 2) wr y (eh f a j)) (fun i _ => K - (intOf i).toNat)
 case atStart => exact ⟨0, x, Nat.zero_le _, rfl, by have := H3.out; rw [JC.out] at this; exact this, FC.out⟩
 case round =>
  obtain ⟨j, y, hj, rfl, hF, hR⟩ := hrel
  have Yc := iD hF
  have Zq := iD hR
  clear hF hR
  by_cases aY : j < K
  ·have ny := iD (fun (W : World) (hb : bW wr W) => qv (Zq.below hb) (XF.lt HX (Nat.le_trans Yc.len hb.size)) ((a : Int) + (j : Int)))
   have q5 : IntKind.i64.wrap ((a : Int) + (j : Int)) = (a : Int) + (j : Int) := IntWalk.i64_in _ oM
   have hec := J7 j aY
   rw [show (a : Int) + (j : Int) = ((a + j : Nat) : Int) by push_cast; rfl] at ny
   rw [hec] at ny
   rw [show (aR (eh f a j) ((a + j : Nat) : Int)).1 = eh f a (j + 1) from rfl, show ((a + j : Nat) : Int) = (a : Int) + (j : Int) by push_cast; rfl] at ny
   obtain ⟨g, hg⟩ := ex (eh f a j)
   obtain ⟨g', du⟩ := ex (eh f a (j + 1))
   rw [hg, du] at ny
   rw [hg] at Yc
   simp only [← uk] at ny
   have HG' := iD du
   clear hec hg du
   go_upto_region 10 with (fail)
   refine wp_region_list ?_
   refine lF Yc.aE (Fw y g) ?_
   refine wV (.int .i64 (a : Int)) ?_
   refine wV (.int .i64 (j : Int)) ?_
   refine wV (.int .i64 ((a : Int) + (j : Int))) ?_
   refine cP (ny wr bV) ?_
   rintro e v3 ⟨z, rfl, EE, gV⟩
   refine rP ?_
   have H2 := iD (Yc.ab gV)
   have PM := iD EE
   clear gV EE
   refine wV (.tuple #[.agg (xa z g'), .int .i64 0]) ?_
   refine wV (.agg (xa z g')) ?_
   refine wV (.int .i64 0) ?_
   refine sP 0 H2 fun w3 o H3 => ?_
   have abf := iD (PM.ao (Nc o))
   go_wp2
   go_roundw
   case rel => exact ⟨j + 1, z, oM, by go_num, by rw [HG']; exact H3, by rw [HG']; exact abf⟩
   case measure => simp [intOf]; omega
  have hjK : j = K := oM
  subst hjK
  go_wp2_with (fail)
  go_loopw [15] (fun i wr => ∃ (m : Nat) (y : Rc), m ≤ np ∧ i = .int .i64 ((64 * m : Nat) : Int) ∧ Fr w wr [(xa y (iS (eh f a j) P0 img m), 35), (zF, 35)] ∧ ca (XF X w.heap.size 2) wr y (iS (eh f a j) P0 img m)) (fun i _ => np - (intOf i).toNat / 64)
  case atStart => exact ⟨0, y, Nat.zero_le _, rfl, Yc, Zq⟩
  case round =>
   obtain ⟨m, z, hm, rfl, hF, hR⟩ := hrel
   have TP := iD hF
   have Zp := iD hR
   clear hF hR
   obtain ⟨I, hI⟩ := ex (64 * m)
   by_cases sN : m < np
   ·obtain ⟨bb, off, rfl⟩ : ∃ b off, A = some ⟨b, off, none⟩ := by
     obtain ⟨b, off, e, _⟩ := HA (by
      intro e
      have := aD .u8 img
      rw [e, FJ] at this
      simp at this
      omega)
     exact ⟨b, off, e⟩
    obtain ⟨M, hM⟩ := ex (min 64 (n - 64 * m))
    have Dp : Hid ((eQ img m).length = M) := by rw [Hid, ju, FJ, hM]
    have CB : 1 ≤ M ∧ M ≤ 64 ∧ I + M ≤ n := oM
    obtain ⟨hM3, LD, WK⟩ := CB
    have SB : min ((I : Int) + 64) (n : Int) = (I : Int) + (M : Int) := oM
    have hIm : (I : Int) < (n : Int) := oM
    have hIc : I ≤ c := oM
    have k1 : (I : Int) ≤ (I : Int) + (M : Int) := oM
    have k2 : (I : Int) + (M : Int) ≤ (c : Int) := oM
    have k3 : (0 : Int) ≤ (I : Int) := oM
    have k4 : ((I : Int) + (M : Int)).toNat = I + M := oM
    have k5 : I + M - I = M := oM
    have k6 : ¬ (c = I) := oM
    have k7 : IntKind.i64.wrap ((I : Int) + 64) = (I : Int) + 64 := IntWalk.i64_in _ oM
    have k8 : (0 : Int) ≤ (I : Int) + (M : Int) := oM
    have hdv : (I : Int).tdiv 64 = (m : Int) := by rw [Int.tdiv_eq_ediv_of_nonneg oM]; omega
    have acg : (I : Int) / 64 = (m : Int) := oM
    have abY : IntKind.i64.wrap (m : Int) = (m : Int) := IntWalk.i64_in _ oM
    have Uw : IntKind.i64.wrap ((P0 : Int) + (m : Int)) = (P0 : Int) + (m : Int) := IntWalk.i64_in _ oM
    obtain ⟨g, hg⟩ := ex (iS (eh f a j) P0 img m)
    obtain ⟨g', du⟩ := ex (iS (eh f a j) P0 img (m + 1))
    have hpf : bz g ((P0 + m : Nat) : Int) (gd (eQ img m)) = (g', 0) := by
     have e2 := FE m sN
     rw [← hg, ← du]
     exact Prod.ext rfl e2
    have hgp := Zs m oM
    rw [hg] at hgp TP Zp
    have HG' := iD du
    have TM : Hid (∀ W, bW wr W → Calls prog 28 #[.agg (xa z g), .int .i64 (a : Int), .int .i64 (j : Int), .int .i64 0] W fun e w' => e = .returned (.int .i64 (P0 : Int)) ∧ bW wr w' ∧ bW W w') := fun W hb => by
     have := uN Zp k a 0 HK8 oM hal (a : Int) (j : Int) 0 rfl (by rw [← zl]) rfl W
     rw [show (a + 2 + 0 * k) * g.pg = P0 by rw [hgp, Nat.zero_mul, Nat.add_zero]; exact PQ] at this
     exact this.mono (fun e w' ⟨he, h2⟩ => ⟨he, hb.trans (h2.mono hb.size), h2⟩)
    have PZ : Hid (∀ W, bW wr W → Calls prog 29 #[.slice (some ⟨bb, off + I, none⟩) M (c - I)] W fun e w' => ∃ A' c', e = .returned (.slice A' 64 c') ∧ 64 ≤ c' ∧ c' ≤ maxLen ∧ Rd w' w'.heap.size A' (ag .u8 (gd (eQ img m))) ∧ bW wr w' ∧ bW W w') := fun W hb => by
     have QR := TP.below.trans (hb.mono TP.below.size)
     have Du : Rd W W.heap.size (some ⟨bb, off + I, none⟩) (ag .u8 (eQ img m)) := by
      rw [← hI]
      exact ((HA.below QR cV).more QR.size).part (64 * m) 64
     refine (Gb (some ⟨bb, off + I, none⟩) M (c - I) (eQ img m) W Du Dp LD).mono ?_
     rintro e w' ⟨A', c', he, ho, h2⟩
     obtain ⟨A3, c3, e3, h4, h5, h6⟩ := bM ho
     injection e3 with e31 e32 e33
     subst e31 e33
     exact ⟨A', c', he, h4, h5, h6, hb.trans (h2.mono hb.size), h2⟩
    have mA : Hid (∀ W, bW wr W → ∀ A' c', Rd W W.heap.size A' (ag .u8 (gd (eQ img m))) → 64 ≤ c' → c' ≤ maxLen → Calls prog 27 #[.agg (xa z g), .int .i64 ((P0 : Int) + (m : Int)), .slice A' 64 c'] W fun e w' => ∃ y' : Rc, e = .returned (.tuple #[.agg (xa y' g'), .int .i64 0]) ∧ ca (XF X w.heap.size 2) w' y' g' ∧ bW wr w' ∧ bW W w') := fun W hb A' c' hr h4 h5 => by
     have := mm (Zp.below hb) (XF.lt HX (Nat.le_trans TP.len hb.size)) ((P0 + m : Nat) : Int) A' 64 c' (gd (eQ img m)) hr (eR (by rw [Dp]; exact LD)) h4 h5 (kt (kh HB m))
     rw [hpf, show ((P0 + m : Nat) : Int) = (P0 : Int) + (m : Int) by push_cast; rfl] at this
     exact this.mono (fun e w' ⟨y', he, h2, h3⟩ => ⟨y', he, h2, hb.trans (h3.mono hb.size), h3⟩)
    rw [hI]
    clear hM hg du hpf hgp
    go_upto_region 17 with (fail)
    have H2 := iD (TP.ab fY)
    refine wp_region_held_drew (S := fun _ => True) (by kernel_rfl) (trivial) (fun _ => ?_)
    refine vN 2 (a : Int) (trivial) ?_
    refine vN 3 (j : Int) (trivial) ?_
    refine vN 5 (I : Int) (trivial) ?_
    refine vN 6 (m : Int) (trivial) ?_
    refine tV 8 (.slice (some ⟨bb, off, none⟩) n c) (trivial) ?_
    refine vN 9 (I : Int) (trivial) ?_
    refine vN 10 (I : Int) (trivial) ?_
    refine tV 11 (.int .i64 ((I : Int) + 64)) (trivial) ?_
    refine tV 12 (.slice (some ⟨bb, off, none⟩) n c) (trivial) ?_
    refine vN 13 (n : Int) (trivial) ?_
    refine tV 14 (.int .i64 ((I : Int) + (M : Int))) (trivial) ?_
    refine tV 15 (.slice (some ⟨bb, off + I, none⟩) M (c - I)) (trivial) ?_
    refine wJ 0 1 ?_ ?_
    ·refine od rfl (by rfl) 35 _ rfl w.heap.size rfl 35 (xa z g) _ H2.aE underlying35 rfl (pF (Fw z g)) ⟨trivial, ?_⟩
     change wpAnyH _ _ _ _ _ _ _ (Act.put _ (some 69) _) _
     simp only [nm]
     refine wI 1 ?_
     refine od rfl (by rfl) 35 _ rfl w.heap.size rfl 35 (xa z g) _ H2.aE underlying35 rfl (pF (Fw z g)) ⟨trivial, ?_⟩
     change wpAnyH _ _ _ _ _ _ _ (Act.put _ (some 70) _) _
     simp only [nm]
     refine wI 4 (cW (TM _ (Below.drew bV)) ?_)
     rintro e v5 ⟨rfl, gC, ri⟩
     have H3 := iD (H2.ab (ri))
     refine rW trivial ?_
     refine tV 7 (.int .i64 ((P0 : Int) + (m : Int))) (trivial) ?_
     refine wI 16 (cW (PZ _ (gC)) ?_)
     rintro e v6 ⟨A6, c6, rfl, pf, pa, kD, fB, m6⟩
     have H4 := iD (H3.ab (m6))
     refine rW trivial ?_
     refine wI 17 (cW (mA _ (fB) A6 c6 kD pf pa) ?_)
     rintro e v7 ⟨y7, rfl, It, jB, ke⟩
     have H5 := iD (H4.ab (ke))
     have tm := iD It
     refine rW trivial ?_
     refine tV 18 (.tuple #[.agg (xa y7 g'), .int .i64 0]) (trivial) ?_
     refine vA 19 (xa y7 g') (trivial) ?_
     refine vN 20 0 (trivial) ?_
     refine wI 21 (sW 0 H5 fun w6 o H6 => ?_)
     have FD := iD (tm.ao (Nc o))
     refine ⟨trivial, ?_⟩
     refine vN 22 0 (trivial) ?_
     refine wD ?_
     clear gC ri fB m6 kD jB ke It
     go_wp2
     go_roundw
     case rel => exact ⟨m + 1, y7, oM, by go_num, by rw [HG']; exact H6, by rw [HG']; exact FD⟩
     case measure => simp [intOf]; omega
    refine od rfl (by rfl) 35 _ rfl w.heap.size rfl 35 (xa z g) _ H2.aE underlying35 rfl (pF (Fw z g)) ⟨trivial, ?_⟩
    change wpAnyH _ _ _ _ _ _ _ (Act.put _ (some 70) _) _
    simp only [nm]
    refine wJ 0 4 ?_ ?_
    ·refine od rfl (by rfl) 35 _ rfl w.heap.size rfl 35 (xa z g) _ H2.aE underlying35 rfl (pF (Fw z g)) ⟨trivial, ?_⟩
     change wpAnyH _ _ _ _ _ _ _ (Act.put _ (some 69) _) _
     simp only [nm]
     refine wI 4 (cW (TM _ (Below.drew bV)) ?_)
     rintro e v5 ⟨rfl, gC, ri⟩
     have H3 := iD (H2.ab (ri))
     refine rW trivial ?_
     refine tV 7 (.int .i64 ((P0 : Int) + (m : Int))) (trivial) ?_
     refine wI 16 (cW (PZ _ (gC)) ?_)
     rintro e v6 ⟨A6, c6, rfl, pf, pa, kD, fB, m6⟩
     have H4 := iD (H3.ab (m6))
     refine rW trivial ?_
     refine wI 17 (cW (mA _ (fB) A6 c6 kD pf pa) ?_)
     rintro e v7 ⟨y7, rfl, It, jB, ke⟩
     have H5 := iD (H4.ab (ke))
     have tm := iD It
     refine rW trivial ?_
     refine tV 18 (.tuple #[.agg (xa y7 g'), .int .i64 0]) (trivial) ?_
     refine vA 19 (xa y7 g') (trivial) ?_
     refine vN 20 0 (trivial) ?_
     refine wI 21 (sW 0 H5 fun w6 o H6 => ?_)
     have FD := iD (tm.ao (Nc o))
     refine ⟨trivial, ?_⟩
     refine vN 22 0 (trivial) ?_
     refine wD ?_
     clear gC ri fB m6 kD jB ke It
     go_wp2
     go_roundw
     case rel => exact ⟨m + 1, y7, oM, by go_num, by rw [HG']; exact H6, by rw [HG']; exact FD⟩
     case measure => simp [intOf]; omega
    refine cW (TM _ (Below.drew bV)) ?_
    rintro e v5 ⟨rfl, gC, ri⟩
    have H3 := iD (H2.ab (ri))
    refine rW trivial ?_
    refine tV 7 (.int .i64 ((P0 : Int) + (m : Int))) (trivial) ?_
    refine wJ 0 16 ?_ ?_
    ·refine od rfl (by rfl) 35 _ rfl w.heap.size rfl 35 (xa z g) _ H3.aE underlying35 rfl (pF (Fw z g)) ⟨trivial, ?_⟩
     change wpAnyH _ _ _ _ _ _ _ (Act.put _ (some 69) _) _
     simp only [nm]
     refine wI 16 (cW (PZ _ (gC)) ?_)
     rintro e v6 ⟨A6, c6, rfl, pf, pa, kD, fB, m6⟩
     have H4 := iD (H3.ab (m6))
     refine rW trivial ?_
     refine wI 17 (cW (mA _ (fB) A6 c6 kD pf pa) ?_)
     rintro e v7 ⟨y7, rfl, It, jB, ke⟩
     have H5 := iD (H4.ab (ke))
     have tm := iD It
     refine rW trivial ?_
     refine tV 18 (.tuple #[.agg (xa y7 g'), .int .i64 0]) (trivial) ?_
     refine vA 19 (xa y7 g') (trivial) ?_
     refine vN 20 0 (trivial) ?_
     refine wI 21 (sW 0 H5 fun w6 o H6 => ?_)
     have FD := iD (tm.ao (Nc o))
     refine ⟨trivial, ?_⟩
     refine vN 22 0 (trivial) ?_
     refine wD ?_
     clear gC ri fB m6 kD jB ke It
     go_wp2
     go_roundw
     case rel => exact ⟨m + 1, y7, oM, by go_num, by rw [HG']; exact H6, by rw [HG']; exact FD⟩
     case measure => simp [intOf]; omega
    refine cW (PZ _ (gC)) ?_
    rintro e v6 ⟨A6, c6, rfl, pf, pa, kD, fB, m6⟩
    have H4 := iD (H3.ab (m6))
    refine rW trivial ?_
    refine wI 0 ?_
    refine od rfl (by rfl) 35 _ rfl w.heap.size rfl 35 (xa z g) _ H4.aE underlying35 rfl (pF (Fw z g)) ⟨trivial, ?_⟩
    change wpAnyH _ _ _ _ _ _ _ (Act.put _ (some 69) _) _
    simp only [nm]
    refine wI 17 (cW (mA _ (fB) A6 c6 kD pf pa) ?_)
    rintro e v7 ⟨y7, rfl, It, jB, ke⟩
    have H5 := iD (H4.ab (ke))
    have tm := iD It
    refine rW trivial ?_
    refine tV 18 (.tuple #[.agg (xa y7 g'), .int .i64 0]) (trivial) ?_
    refine vA 19 (xa y7 g') (trivial) ?_
    refine vN 20 0 (trivial) ?_
    refine wI 21 (sW 0 H5 fun w6 o H6 => ?_)
    have FD := iD (tm.ao (Nc o))
    refine ⟨trivial, ?_⟩
    refine vN 22 0 (trivial) ?_
    refine wD ?_
    clear gC ri fB m6 kD jB ke It
    go_wp2
    go_roundw
    case rel => exact ⟨m + 1, y7, oM, by go_num, by rw [HG']; exact H6, by rw [HG']; exact FD⟩
    case measure => simp [intOf]; omega
   have hmn : m = np := oM
   subst hmn
   have Dk : Hid (Fr w wr [(xa z G, 35), (zF, 35)]) := by rw [HG]; exact TP
   have Jw : Hid (ca (XF X w.heap.size 2) wr z G) := by rw [HG]; exact Zp
   have hIn : ¬ ((I : Int) < (n : Int)) := oM
   rw [hI]
   obtain ⟨s0, fp⟩ := ex (aJ G a 2 (aH N))
   rw [fp] at xZ Zi Xw AF Fx uC
   have xD := iD fp
   have Jt : Hid (∀ W, bW wr W → Calls prog 25 #[.agg (xa z G), .int .i64 (j : Int)] W fun e w' => e = .returned (.int .i64 (N : Int)) ∧ bW wr w' ∧ bW W w') := fun W hb => by
    have := uM Jw k HK8 (j : Int) (by rw [← zl]) W
    rw [zl, uE] at this
    exact this.mono (fun e w' ⟨he, dP⟩ => ⟨he, hb.trans (dP.mono hb.size), dP⟩)
   have xC : Hid (∀ W, bW wr W → Calls prog 31 #[.int .i64 (N : Int)] W fun e w' => ∃ A c, e = .returned (.slice A 9 c) ∧ 9 ≤ c ∧ c ≤ maxLen ∧ Rd w' w'.heap.size A (bK (aH N)) ∧ bW wr w' ∧ bW W w') := fun W hb => (F8 N oM W).mono (fun e w' ⟨A, c, he, h1, h2, h3, dP⟩ => ⟨A, c, he, h1, h2, h3, hb.trans (dP.mono hb.size), dP⟩)
   have FG := iD (fun (W : World) (hb : bW wr W) (A' : Option Addr) (c' : Nat) hA h1 h2 => F9 (Jw.wide hb) (fun b dO => dO.elim (fun e => Nat.lt_of_lt_of_le (XF.lt HX Dk.len b e) hb.size) (fun e => e.2)) FM rfl (N := N) oM A' c' hA h1 h2)
   rw [fp] at FG
   have uD : Hid (∀ w3, bW wr w3 → ∀ W, bW w3 W → ∀ A' c', Rd w3 w3.heap.size A' (bK (aH N)) → 9 ≤ c' → c' ≤ maxLen → Calls prog 30 #[.agg (xa z G), .int .i64 (a : Int), .int .i64 2, .slice A' 9 c'] W fun e w' => ∃ q : Qv, e = .returned (.tuple #[.agg (sa q s0), .int .i64 0]) ∧ iE (XW (XF X w.heap.size 2) wr.heap.size W.heap.size) w' q s0 G.pg ∧ bW wr w' ∧ bW W w') := fun w3 gV W hbx A' c' h1 h2 h3 =>
    have hb := gV.trans (hbx.mono gV.size)
    (FG W hb A' c' ((h1.below hbx cV).more hbx.size) h2 h3).mono (fun e w' ⟨q, he, dP, h4⟩ => ⟨q, he, h4, hb.trans (dP.mono hb.size), dP⟩)
   clear fp
   go_upto_region 20 with (fail)
   go_cut [16, 17] (fun p cd wx => ∃ (B5 : Nat) (q : Qv), p = .pointer (some ⟨B5, 0, none⟩) ∧ cd = .int .i64 0 ∧ Fs X w wx z G B5 q s0)
   case first =>
    have H2 := iD (Dk.ab fY)
    refine wp_region_held_drew (S := fun w' => w'.heap[w.heap.size]? = some (.cells (xa z G) 35 (0, 0))) (by kernel_rfl) H2.aE (fun _ => ?_)
    refine tL 0 _ rfl (jT (fun _ hS => hS) (Fw z G)) H2.aE ?_
    refine vN 1 (a : Int) H2.aE ?_
    refine tL 2 _ rfl (jT (fun _ hS => hS) (Fw z G)) H2.aE ?_
    refine vN 3 (j : Int) H2.aE ?_
    refine wJ 4 10 ?_ ?_
    ·refine cW (Jt _ (Below.drew (Below.refl wr.heap.size wr))) ?_
     rintro e v5 ⟨rfl, gC, ri⟩
     have H3 := iD (H2.ab (ri))
     refine rW H3.aE ?_
     refine wJ 5 10 ?_ ?_
     ·refine cW (xC _ (gC)) ?_
      rintro e v6 ⟨A6, c6, rfl, pf, pa, kD, fB, m6⟩
      have H4 := iD (H3.ab (m6))
      refine rW H4.aE ?_
      refine wJ 6 10 ?_ ?_
      ·refine cW (uD v6 fB _ bV A6 c6 kD pf pa) ?_
       rintro e v7 ⟨q7, rfl, Sr, jB, ke⟩
       have H5 := iD (H4.ab (ke))
       have Jx := iD Sr
       refine rW H5.aE ?_
       refine tV 7 (.tuple #[.agg (sa q7 s0), .int .i64 0]) H5.aE ?_
       refine vA 8 (sa q7 s0) H5.aE ?_
       refine vN 9 0 H5.aE ?_
       refine wI 10 ?_
       refine oR rfl (by rfl) rfl ⟨(H5.ab (bV.alloc cV _)).aE, ?_⟩
       change wpAnyH _ _ _ _ _ _ _ (Act.put _ (some 16) _) _
       simp only [nm]
       obtain ⟨B5, po⟩ := ex (v7).heap.size
       obtain ⟨W5, pM⟩ := ex ((v7).alloc (.cells zS 43))
       have tT : W5.heap[B5]? = some (.cells zS 43 (0, 0)) := by rw [← pM, ← po]; exact heap_alloc_new _ _
       have IE : bW wr W5 := by rw [← pM]; exact (jB).alloc (jB).size _
       have zP : Below (v7).heap.size (v7) W5 := by rw [← pM]; exact bV.alloc cV _
       have vQ : wr.heap.size ≤ B5 := by rw [← po]; exact (jB).size
       have QX := iD (H5.ab zP)
       rw [pM]
       try rw [po]
       clear pM
       refine wI 11 ?_
       refine fO rfl (by rfl) rfl 43 _ _ rfl B5 (sa q7 s0) zS rfl rfl 43 tT (yk (cD q7 s0)) rfl (gL q7 s0) ⟨(setRow_other _ _ _ _ (by have := Dk.len; simp only [List.length_cons, List.length_nil] at this; omega)).trans QX.aE, ?_⟩
       refine vN 12 0 ((setRow_other _ _ _ _ (by have := Dk.len; simp only [List.length_cons, List.length_nil] at this; omega)).trans QX.aE) ?_
       refine wD ?_
       (try go_wp2_with fail)
       go_meet
       exact ⟨B5, q7, rfl, rfl, Fs.new Dk Jw jB vQ Jx (.inr (by rw [← po]; exact Nat.le_refl _)) ((ah.ak zP).trans (ah.row _ _ _ rfl)) (below_setRow (IE) vQ _) (setRow_heap _ _ _ _ _ _ tT)⟩
      refine oR rfl (by rfl) rfl ⟨(H4.ab (bV.alloc cV _)).aE, ?_⟩
      change wpAnyH _ _ _ _ _ _ _ (Act.put _ (some 16) _) _
      simp only [nm]
      obtain ⟨B5, po⟩ := ex (v6).heap.size
      obtain ⟨W5, pM⟩ := ex ((v6).alloc (.cells zS 43))
      have tT : W5.heap[B5]? = some (.cells zS 43 (0, 0)) := by rw [← pM, ← po]; exact heap_alloc_new _ _
      have IE : bW wr W5 := by rw [← pM]; exact (fB).alloc (fB).size _
      have zP : Below (v6).heap.size (v6) W5 := by rw [← pM]; exact bV.alloc cV _
      have vQ : wr.heap.size ≤ B5 := by rw [← po]; exact (fB).size
      have QX := iD (H4.ab zP)
      rw [pM]
      try rw [po]
      clear pM
      refine wI 6 (cW (uD v6 fB _ (zP) A6 c6 kD pf pa) ?_)
      rintro e v7 ⟨q7, rfl, Sr, jB, ke⟩
      have H6 := iD (QX.ab (ke))
      have yS := (ke.block _ (Array.getElem?_eq_some_iff.1 tT).1).trans tT
      have Jx := iD Sr
      refine rW H6.aE ?_
      refine tV 7 (.tuple #[.agg (sa q7 s0), .int .i64 0]) H6.aE ?_
      refine vA 8 (sa q7 s0) H6.aE ?_
      refine vN 9 0 H6.aE ?_
      refine wI 11 ?_
      refine fO rfl (by rfl) rfl 43 _ _ rfl B5 (sa q7 s0) zS rfl rfl 43 yS (yk (cD q7 s0)) rfl (gL q7 s0) ⟨(setRow_other _ _ _ _ (by have := Dk.len; simp only [List.length_cons, List.length_nil] at this; omega)).trans H6.aE, ?_⟩
      refine vN 12 0 ((setRow_other _ _ _ _ (by have := Dk.len; simp only [List.length_cons, List.length_nil] at this; omega)).trans H6.aE) ?_
      refine wD ?_
      (try go_wp2_with fail)
      go_meet
      exact ⟨B5, q7, rfl, rfl, Fs.new Dk Jw jB vQ Jx (.inl (Array.getElem?_eq_some_iff.1 tT).1) (ah.row _ _ _ rfl) (below_setRow (jB) vQ _) (setRow_heap _ _ _ _ _ _ yS)⟩
     refine oR rfl (by rfl) rfl ⟨(H3.ab (bV.alloc cV _)).aE, ?_⟩
     change wpAnyH _ _ _ _ _ _ _ (Act.put _ (some 16) _) _
     simp only [nm]
     obtain ⟨B5, po⟩ := ex (v5).heap.size
     obtain ⟨W5, pM⟩ := ex ((v5).alloc (.cells zS 43))
     have tT : W5.heap[B5]? = some (.cells zS 43 (0, 0)) := by rw [← pM, ← po]; exact heap_alloc_new _ _
     have IE : bW wr W5 := by rw [← pM]; exact (gC).alloc (gC).size _
     have zP : Below (v5).heap.size (v5) W5 := by rw [← pM]; exact bV.alloc cV _
     have vQ : wr.heap.size ≤ B5 := by rw [← po]; exact (gC).size
     have QX := iD (H3.ab zP)
     rw [pM]
     try rw [po]
     clear pM
     refine wI 5 (cW (xC _ (IE)) ?_)
     rintro e v6 ⟨A6, c6, rfl, pf, pa, kD, fB, m6⟩
     have H5 := iD (QX.ab (m6))
     have Ln := (m6.block _ (Array.getElem?_eq_some_iff.1 tT).1).trans tT
     refine rW H5.aE ?_
     refine wI 6 (cW (uD v6 fB _ bV A6 c6 kD pf pa) ?_)
     rintro e v7 ⟨q7, rfl, Sr, jB, ke⟩
     have H7 := iD (H5.ab (ke))
     have Qz := (ke.block _ (Array.getElem?_eq_some_iff.1 Ln).1).trans Ln
     have Jx := iD Sr
     refine rW H7.aE ?_
     refine tV 7 (.tuple #[.agg (sa q7 s0), .int .i64 0]) H7.aE ?_
     refine vA 8 (sa q7 s0) H7.aE ?_
     refine vN 9 0 H7.aE ?_
     refine wI 11 ?_
     refine fO rfl (by rfl) rfl 43 _ _ rfl B5 (sa q7 s0) zS rfl rfl 43 Qz (yk (cD q7 s0)) rfl (gL q7 s0) ⟨(setRow_other _ _ _ _ (by have := Dk.len; simp only [List.length_cons, List.length_nil] at this; omega)).trans H7.aE, ?_⟩
     refine vN 12 0 ((setRow_other _ _ _ _ (by have := Dk.len; simp only [List.length_cons, List.length_nil] at this; omega)).trans H7.aE) ?_
     refine wD ?_
     (try go_wp2_with fail)
     go_meet
     exact ⟨B5, q7, rfl, rfl, Fs.new Dk Jw jB vQ Jx (.inl (Array.getElem?_eq_some_iff.1 Ln).1) (ah.row _ _ _ rfl) (below_setRow (jB) vQ _) (setRow_heap _ _ _ _ _ _ Qz)⟩
    refine oR rfl (by rfl) rfl ⟨(H2.ab (bV.alloc cV _)).aE, ?_⟩
    change wpAnyH _ _ _ _ _ _ _ (Act.put _ (some 16) _) _
    simp only [nm]
    obtain ⟨B5, po⟩ := ex (wr.drew).heap.size
    obtain ⟨W5, pM⟩ := ex ((wr.drew).alloc (.cells zS 43))
    have tT : W5.heap[B5]? = some (.cells zS 43 (0, 0)) := by rw [← pM, ← po]; exact heap_alloc_new _ _
    have IE : bW wr W5 := by rw [← pM]; exact (Below.drew (Below.refl wr.heap.size wr)).alloc (Below.drew (Below.refl wr.heap.size wr)).size _
    have zP : Below (wr.drew).heap.size (wr.drew) W5 := by rw [← pM]; exact bV.alloc cV _
    have vQ : wr.heap.size ≤ B5 := by rw [← po]; exact (Below.drew (Below.refl wr.heap.size wr)).size
    have QX := iD (H2.ab zP)
    rw [pM]
    try rw [po]
    clear pM
    refine wI 4 (cW (Jt _ (IE)) ?_)
    rintro e v5 ⟨rfl, gC, ri⟩
    have H4 := iD (QX.ab (ri))
    have QA := (ri.block _ (Array.getElem?_eq_some_iff.1 tT).1).trans tT
    refine rW H4.aE ?_
    refine wI 5 (cW (xC _ (gC)) ?_)
    rintro e v6 ⟨A6, c6, rfl, pf, pa, kD, fB, m6⟩
    have H6 := iD (H4.ab (m6))
    have yS := (m6.block _ (Array.getElem?_eq_some_iff.1 QA).1).trans QA
    refine rW H6.aE ?_
    refine wI 6 (cW (uD v6 fB _ bV A6 c6 kD pf pa) ?_)
    rintro e v7 ⟨q7, rfl, Sr, jB, ke⟩
    have H8 := iD (H6.ab (ke))
    have Qy := (ke.block _ (Array.getElem?_eq_some_iff.1 yS).1).trans yS
    have Jx := iD Sr
    refine rW H8.aE ?_
    refine tV 7 (.tuple #[.agg (sa q7 s0), .int .i64 0]) H8.aE ?_
    refine vA 8 (sa q7 s0) H8.aE ?_
    refine vN 9 0 H8.aE ?_
    refine wI 11 ?_
    refine fO rfl (by rfl) rfl 43 _ _ rfl B5 (sa q7 s0) zS rfl rfl 43 Qy (yk (cD q7 s0)) rfl (gL q7 s0) ⟨(setRow_other _ _ _ _ (by have := Dk.len; simp only [List.length_cons, List.length_nil] at this; omega)).trans H8.aE, ?_⟩
    refine vN 12 0 ((setRow_other _ _ _ _ (by have := Dk.len; simp only [List.length_cons, List.length_nil] at this; omega)).trans H8.aE) ?_
    refine wD ?_
    (try go_wp2_with fail)
    go_meet
    exact ⟨B5, q7, rfl, rfl, Fs.new Dk Jw jB vQ Jx (.inl (Array.getElem?_eq_some_iff.1 yS).1) (ah.row _ _ _ rfl) (below_setRow (jB) vQ _) (setRow_heap _ _ _ _ _ _ Qy)⟩
   case rest =>
    as_aux_lemma =>
     obtain ⟨B5, q, rfl, rfl, Tc⟩ := hcut
     have JC := iD Tc
     clear Tc
     have Cm := F7 JC.rv xZ (JC.Ui HX) 3 (v)
     rw [Zi] at Cm
     obtain ⟨s1, gF⟩ := ex (aU s0 3 (v))
     rw [gF] at Cm Xw AF
     rw [← Eb] at Cm
     simp only [← Eb] at Cm
     have aa7 := iD Cm
     have Rq : Hid (bC G s1) := by rw [← gF]; exact eH xZ (by unfold dI; omega)
     have Dm := iD gF
     clear Cm gF
     go_upto_region 21 with (fail)
     refine wp_region_list ?_
     refine Lb rfl _ rfl B5 rfl (sa q s0) JC.row (cD q s0) ?_
     simp only [nm]
     refine wV (.int .i64 v) ?_
     refine cP (aa7) ?_
     rintro e u1 ⟨q1, rfl, iG, dC⟩
     refine rP ?_
     refine wV (.tuple #[.agg (sa q1 s1), .int .i64 0]) ?_
     refine wV (.agg (sa q1 s1)) ?_
     refine wV (.int .i64 0) ?_
     refine Qh rfl _ _ rfl rfl B5 (sa q1 s1) rfl rfl _ (JC.ab dC).row (cD q1 s1) (cD q s0) (gL q1 s1) ?_
     have Dl := iD (JC.N2 dC iG)
     generalize u1.setRow B5 (sa q1 s1) = V1 at Dl ⊢
     clear iG dC
     have Cl := F7 Dl.rv Rq (Dl.Ui HX) 4 ((n : Int))
     rw [Xw] at Cl
     obtain ⟨s2, je⟩ := ex (aU s1 4 ((n : Int)))
     rw [je] at Cl AF
     rw [← Eb] at Cl
     simp only [← Eb] at Cl
     have aa6 := iD Cl
     have Rp : Hid (bC G s2) := by rw [← je]; exact eH Rq (by unfold dI; omega)
     have G3 := iD je
     clear Cl je
     go_upto_region 22 with (fail)
     refine wp_region_list ?_
     refine Lb rfl _ rfl B5 rfl (sa q1 s1) Dl.row (cD q1 s1) ?_
     simp only [nm]
     refine wV (.slice A n c) ?_
     refine wV (.int .i64 (n : Int)) ?_
     refine cP (aa6) ?_
     rintro e u2 ⟨q2, rfl, jA, dP⟩
     refine rP ?_
     refine wV (.tuple #[.agg (sa q2 s2), .int .i64 0]) ?_
     refine wV (.agg (sa q2 s2)) ?_
     refine wV (.int .i64 0) ?_
     refine Qh rfl _ _ rfl rfl B5 (sa q2 s2) rfl rfl _ (Dl.ab dP).row (cD q2 s2) (cD q1 s1) (gL q2 s2) ?_
     have uf := iD (Dl.N2 dP jA)
     generalize u2.setRow B5 (sa q2 s2) = V2 at uf ⊢
     clear jA dP
     obtain ⟨s3, uv⟩ := ex (aU s2 5 Cs)
     have XE : Hid (∀ W, bW V2 W → Calls prog 32 #[.agg (sa q2 s2), .int .i64 5, .int .i64 Cs] W fun e w' => ∃ q' : Qv, e = .returned (.tuple #[.agg (sa q' s3), .int .i64 0]) ∧ iE (X5 X w.heap.size B5) w' q' s3 G.pg ∧ bW V2 w' ∧ bW W w') := fun W hb => by
      have := F7 (uf.ab hb).rv Rp ((uf.ab hb).Ui HX) 5 Cs
      rw [AF, uv] at this
      exact this.mono (fun e w' ⟨q', h1, h2, h3⟩ => ⟨q', h1, h2, hb.trans (h3.mono hb.size), h3⟩)
     have PL : Hid (bC G s3) := by rw [← uv]; exact eH Rp (by unfold dI; omega)
     have PF : Hid (∀ W, bW V2 W → Calls prog 33 #[.slice A n c] W fun e w' => e = .returned (.int .u32 Cs) ∧ bW V2 w' ∧ bW W w') := fun W hb => by
      have QR := uf.fr.below.trans (hb.mono uf.fr.below.size)
      have := nG A n c img W ((HA.below QR cV).more QR.size) FJ HB oM
      rw [P5] at this
      refine this.mono ?_
      rintro e w' ⟨h1, qd, rfl⟩
      exact ⟨h1, Below.drewN hb qd, Below.drewN bV qd⟩
     have HEQ : Hid (dD (aJ G a 2 (aH N)) 3 [v, (n : Int), Cs] = s3) := by
      rw [Hid, xD, ← uv, ← G3, ← Dm]
      rfl
     have abc : Hid (dD s0 3 [v, (n : Int), Cs] = s3) := by
      rw [Hid, ← uv, ← G3, ← Dm]
      rfl
     have TU : Hid (s3.af = false ∧ s3.bt = false ∧ s3.seq = 0 ∧ s3.aj.length = 9) := by
      obtain ⟨b1, b2, b3, b4⟩ := uC
      obtain ⟨c1, c2, c3, c4⟩ := sA s0 3 v
      obtain ⟨d1, d2, d3, d4⟩ := sA (aU s0 3 v) 4 (n : Int)
      obtain ⟨e1, e2, e3, e4⟩ := sA (aU (aU s0 3 v) 4 (n : Int)) 5 Cs
      rw [Dm, G3, uv] at e1 e2 e3 e4
      rw [Dm, G3] at d1 d2 d3 d4
      rw [Dm] at c1 c2 c3 c4
      exact ⟨by rw [e1, d1, c1, b1], by rw [e2, d2, c2, b2], by rw [e3, d3, c3, b3], by rw [e4, d4, c4, b4]⟩
     clear uv
     go_upto_region 23 with (fail)
     go_cut [] (fun wx => ∃ q3 : Qv, Fs X w wx z G B5 q3 s3)
     case first =>
      refine wp_region_held_drew (S := fun _ => True) (by kernel_rfl) trivial (fun _ => ?_)
      refine tV 1 (.slice A n c) (trivial) ?_
      refine wJ 0 2 ?_ ?_
      ·refine od rfl (by rfl) 43 _ rfl B5 rfl 43 (sa q2 s2) _ (uf.ab fY).row underlying43 rfl (yk (cD q2 s2)) ⟨trivial, ?_⟩
       change wpAnyH _ _ _ _ _ _ _ (Act.put _ (some 116) _) _
       simp only [nm]
       refine wI 2 (cW (PF _ (Below.drew bV)) ?_)
       rintro e v7 ⟨rfl, jB, ke⟩
       have QB := (uf.ab jB).row
       refine rW trivial ?_
       refine vN 3 Cs (trivial) ?_
       refine wI 4 (cW (XE _ (jB)) ?_)
       rintro e v8 ⟨q3, rfl, yQ, kG, aaH⟩
       have Lo := (uf.ab kG).row
       refine rW trivial ?_
       refine tV 5 (.tuple #[.agg (sa q3 s3), .int .i64 0]) (trivial) ?_
       refine vA 6 (sa q3 s3) (trivial) ?_
       refine vN 7 0 (trivial) ?_
       refine wI 8 ?_
       refine fO rfl (by rfl) rfl 43 _ _ rfl B5 (sa q3 s3) (sa q2 s2) rfl rfl 43 Lo (yk (cD q3 s3)) rfl (gL q3 s3) ⟨trivial, ?_⟩
       refine wD ?_
       (try go_wp2_with fail)
       go_meet
       exact ⟨q3, uf.N2 kG yQ⟩
      refine cW (PF _ (Below.drew bV)) ?_
      rintro e v7 ⟨rfl, jB, ke⟩
      have QB := (uf.ab jB).row
      refine rW trivial ?_
      refine vN 3 Cs (trivial) ?_
      refine wI 0 ?_
      refine od rfl (by rfl) 43 _ rfl B5 rfl 43 (sa q2 s2) _ QB underlying43 rfl (yk (cD q2 s2)) ⟨trivial, ?_⟩
      change wpAnyH _ _ _ _ _ _ _ (Act.put _ (some 116) _) _
      simp only [nm]
      refine wI 4 (cW (XE _ (jB)) ?_)
      rintro e v8 ⟨q3, rfl, yQ, kG, aaH⟩
      have Lo := (uf.ab kG).row
      refine rW trivial ?_
      refine tV 5 (.tuple #[.agg (sa q3 s3), .int .i64 0]) (trivial) ?_
      refine vA 6 (sa q3 s3) (trivial) ?_
      refine vN 7 0 (trivial) ?_
      refine wI 8 ?_
      refine fO rfl (by rfl) rfl 43 _ _ rfl B5 (sa q3 s3) (sa q2 s2) rfl rfl 43 Lo (yk (cD q3 s3)) rfl (gL q3 s3) ⟨trivial, ?_⟩
      refine wD ?_
      (try go_wp2_with fail)
      go_meet
      exact ⟨q3, uf.N2 kG yQ⟩
     case rest =>
      as_aux_lemma =>
       obtain ⟨q3, UJ⟩ := hcut
       have AO := iD UJ
       have Ly := CX AO.rv AO.ra PL (AO.Ui HX) (by rw [TU.1, HGU.dn]) (fun _ => by rw [TU.2.2.1, TU.2.2.2]; rfl)
       have Us := Fx.out
       rw [abc] at Us
       rw [Us] at Ly
       obtain ⟨t, ht⟩ := ex (ay s3 G)
       rw [ht] at Ly
       simp only [← Eb, ← uk] at Ly
       have ug := iD Ly
       have HT := iD ht
       clear UJ Ly Us ht
       go_upto_region 24 with (fail)
       refine wp_region_list ?_
       refine Lb rfl _ rfl B5 rfl (sa q3 s3) AO.row (cD q3 s3) ?_
       refine lF AO.fr.aE (Fw z G) ?_
       refine cP (ug) ?_
       rintro e v9 ⟨q4, y4, rfl, Qw, Oy, iI⟩
       refine rP ?_
       refine wV (.tuple #[.agg (sa q4 t.1), .agg (xa y4 t.2.1), .int .i64 0]) ?_
       refine wV (.agg (sa q4 t.1)) ?_
       refine wV (.agg (xa y4 t.2.1)) ?_
       refine wV (.int .i64 0) ?_
       refine RT rfl _ _ rfl rfl w.heap.size (xa y4 t.2.1) rfl rfl _ (AO.ab iI).fr.aE (Fw y4 t.2.1) (Fw z G) (MJ y4 t.2.1) ?_
       have ZC := iD ((AO.ab iI).fr.BR (xa y4 t.2.1))
       have TG := iD (Oy.ao (ah.row v9 w.heap.size (xa y4 t.2.1) (.inl (pS X _))))
       generalize v9.setRow w.heap.size (xa y4 t.2.1) = V9 at ZC TG ⊢
       clear Qw Oy iI
       go_upto_region 25 with (fail)
       refine wp_region_list ?_
       refine lF ZC.aE (Fw y4 t.2.1) ?_
       refine wV (.int .i64 0) ?_
       refine RT rfl _ _ rfl rfl (w.heap.size + 1) (xa y4 t.2.1) rfl rfl _ ZC.dL (Fw y4 t.2.1) rfl (MJ y4 t.2.1) ?_
       have Yi := iD (ZC.ZU (xa y4 t.2.1))
       have xE := iD (TG.ao (ah.row V9 (w.heap.size + 1) (xa y4 t.2.1) (.inl (xf1 X _))))
       go_wp2
       (try simp only [Exit.inBlock, Exit.then])
       refine rI rfl Yi.dL (pF (Fw y4 t.2.1)) ?_
       rw [HEQ, HT]
       exact ⟨y4, rfl, xE.cU (fun b hb => .inl (.inl hb)), Yi.below⟩
end Go.Proofs.YtjdknddnanopaaaGreat
