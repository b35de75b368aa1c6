/-
  Part 16 of the proof.
-/
import Derived.Lib.SmallJoins
import Derived.Test.YtjdknddnanopaaaGreatR15
namespace Go.Proofs.YtjdknddnanopaaaGreat
open Go.RowKit Tryz
set_option maxRecDepth 100000
set_option maxHeartbeats 16000000
set_option linter.all false
variable {f g : Fl} {b : Bk} {s : St} {B a p : Nat} {w w0 : World} {c m n : Int} {X Y : Nat → Prop} {r : Rb} {q : Qv} {x : Rc} {v : List Int} {L : Lc}
section
variable {w0 w w1 w' : World} {L L' : Lc} {S S' : Sc} {K K' : Kc} {f f' : Fl} {b b' : Bk} {s : St}
theorem IS (ho : bU f b) (hb : b.st.af = false) (hD : b.dst ≤ 1) (hc : 0 ≤ c ∧ c < 4294967296) :
 ls b.st (3 + 3 * b.dst) [b.version, (b.length : Int), c] ∧ ls (dD b.st (3 + 3 * b.dst) [b.version, (b.length : Int), c]) 1 [(b.dst : Int), 3] := by
 have hv := ho.DV
 have hl := ho.len
 have gT := ho.sp
 obtain ⟨N, hN⟩ := ex (aM f b.aa)
 rw [hN] at hl gT
 have key : ∀ (s : St) (i : Nat) (p : eB) (v : Int), s.af = false → s.aw = aH N → (aH N)[i]? = some p → p.lo ≤ v ∧ v ≤ p.hi → ga s (i : Int) v = 0 ∧ (aU s (i : Int) v).af = false ∧ (aU s (i : Int) v).aw = aH N := fun s i p v h1 h2 h3 h4 => by
  obtain ⟨x1, x2⟩ := mP h1 h2 h3 h4
  exact ⟨x1, by rw [x2]; exact h1, by rw [x2]; exact h2⟩
 match hd : b.dst, hD with
 | 0, _ =>
  obtain ⟨a1, a2, a3⟩ := key b.st 3 ⟨0, 1073741824, 0⟩ b.version hb gT rfl ⟨hv.1, hv.2⟩
  obtain ⟨b1, b2, b3⟩ := key _ 4 ⟨0, N, 0⟩ (b.length : Int) a2 a3 rfl ⟨by simp only; omega, by simp only; omega⟩
  obtain ⟨c1, c2, c3⟩ := key _ 5 ⟨0, 4294967295, 0⟩ c b2 b3 rfl ⟨hc.1, by simp only; omega⟩
  obtain ⟨d1, d2, d3⟩ := key _ 1 ⟨0, 2, 2⟩ ((0 : Nat) : Int) c2 c3 rfl ⟨by simp only; omega, by simp only; omega⟩
  obtain ⟨e1, e2, e3⟩ := key _ 2 ⟨0, 3, 0⟩ 3 d2 d3 rfl ⟨by simp only; omega, by simp only; omega⟩
  exact ⟨⟨a1, b1, c1, trivial⟩, d1, e1, trivial⟩
 | 1, _ =>
  obtain ⟨a1, a2, a3⟩ := key b.st 6 ⟨0, 1073741824, 0⟩ b.version hb gT rfl ⟨hv.1, hv.2⟩
  obtain ⟨b1, b2, b3⟩ := key _ 7 ⟨0, N, 0⟩ (b.length : Int) a2 a3 rfl ⟨by simp only; omega, by simp only; omega⟩
  obtain ⟨c1, c2, c3⟩ := key _ 8 ⟨0, 4294967295, 0⟩ c b2 b3 rfl ⟨hc.1, by simp only; omega⟩
  obtain ⟨d1, d2, d3⟩ := key _ 1 ⟨0, 2, 2⟩ ((1 : Nat) : Int) c2 c3 rfl ⟨by simp only; omega, by simp only; omega⟩
  obtain ⟨e1, e2, e3⟩ := key _ 2 ⟨0, 3, 0⟩ 3 d2 d3 rfl ⟨by simp only; omega, by simp only; omega⟩
  exact ⟨⟨a1, b1, c1, trivial⟩, d1, e1, trivial⟩
theorem CL (h : bo w0 w L S K f b) (ho : bU f b) (lh : b.af = false → b.bh = false → b.st.bt = false) (rO : b.st.seq ≤ 1000000) (vO : b.au = true → 1 ≤ b.length) (c : Int) (hc : 0 ≤ c ∧ c < 4294967296) : Calls prog 41 #[.pointer (some ⟨K.D, 0, none⟩), .int .u32 c] w (xq w0 w L S K f (bX b f c)) := by
 have g1 := ne_nil
 have g2 := fT
 have HR := iD (ff h)
 have HO := iD (gZ ho)
 have tn : Hid (∀ d, (aq b f).data = some d → d ≠ []) := ho.ne
 by_cases cO : (aq b f).af = true
 ·have HB : Hid (bX b f c = (aq b f, 20)) := by unfold bX; rw [Hid, iP cO]
  rw [iP cO, dJ (by decide)] at HR
  clear h ho cO lh rO vO
  go_enter func41, ntmps41
  go_wp2_with (fail)
  refine HR.mono ?_
  rintro e w1 ⟨rfl, hK, hX⟩
  have HK := iD hK
  have HX := iD hX
  have c6 : w1.cell? ⟨K.D, 6, none⟩ = some (.bool b.au) := hK.row 6 _ rfl
  have ua : w1.cell? ⟨K.D, 10, none⟩ = some (.int .i64 b.cH) := hK.row 10 _ rfl
  have c9 : w1.cell? ⟨K.D, 9, none⟩ = some (.int .i64 b.length) := hK.row 9 _ rfl
  clear hK hX
  go_wp2
  go_ret
  rw [HB]
  exact ⟨rfl, .mk' (.dj HX) HK⟩
 have jF : (aq b f).af = false := by simpa using cO
 have HU := iD (fS jF)
 have pO := iD (ho.Kr HU.1)
 rw [iN cO, bG] at HR
 by_cases gE : b.au = false
 ·have HB : Hid (bX b f c = (aq b f, 12)) := by unfold bX; rw [Hid, iN cO, iP (.inl gE)]
  clear h ho cO lh rO vO jF
  go_enter func41, ntmps41
  go_wp2_with (fail)
  refine HR.mono ?_
  rintro e w1 ⟨rfl, hK, hX⟩
  have HK := iD hK
  have HX := iD hX
  have c6 : w1.cell? ⟨K.D, 6, none⟩ = some (.bool b.au) := hK.row 6 _ rfl
  have ua : w1.cell? ⟨K.D, 10, none⟩ = some (.int .i64 b.cH) := hK.row 10 _ rfl
  have c9 : w1.cell? ⟨K.D, 9, none⟩ = some (.int .i64 b.length) := hK.row 9 _ rfl
  clear hK hX
  rw [gE] at c6
  go_wp2_with (fail)
  go_quiet (fail)
  go_wp2
  go_ret
  rw [HB]
  exact ⟨rfl, .mk' ((bZ.dj HX).trans (bZ.ak (Below.drewN bV _))) (HK.ab (Below.drewN bV _))⟩
 have zR := gE
 have gE : b.au = true := by simpa using gE
 by_cases gU : b.cH = b.length
 case neg =>
  have HB : Hid (bX b f c = (aq b f, 12)) := by unfold bX; rw [Hid, iN cO, iP (.inr gU)]
  have Cx : ¬ (b.cH : Int) = (b.length : Int) := oM
  have Nr : ((b.cH : Int) == (b.length : Int)) = false := by simpa using Cx
  clear h ho cO lh rO vO jF zR gU
  go_enter func41, ntmps41
  go_wp2_with (fail)
  refine HR.mono ?_
  rintro e w1 ⟨rfl, hK, hX⟩
  have HK := iD hK
  have HX := iD hX
  have c6 : w1.cell? ⟨K.D, 6, none⟩ = some (.bool b.au) := hK.row 6 _ rfl
  have ua : w1.cell? ⟨K.D, 10, none⟩ = some (.int .i64 b.cH) := hK.row 10 _ rfl
  have c9 : w1.cell? ⟨K.D, 9, none⟩ = some (.int .i64 b.length) := hK.row 9 _ rfl
  clear hK hX
  rw [gE] at c6
  go_wp2_with (fail)
  go_quiet (fail)
  go_wp2
  go_ret
  rw [HB]
  exact ⟨rfl, .mk' ((bZ.dj HX).trans (bZ.ak (Below.drewN bV _))) (HK.ab (Below.drewN bV _))⟩
 have dX : ¬ (b.au = false ∨ b.cH ≠ b.length) := fun e => by rcases e with e | e <;> contradiction
 by_cases hw : bQ b = true
 ·have jP : Hid (bQ (aq b f) = true) := hw
  have HB : Hid (bX b f c = (aq b f, 14)) := by unfold bX; rw [Hid, iN cO, iN dX, iP hw]
  clear h ho cO lh rO vO jF zR dX hw
  go_enter func41, ntmps41
  go_wp2_with (fail)
  refine HR.mono ?_
  rintro e w1 ⟨rfl, hK, hX⟩
  have HK := iD hK
  have HX := iD hX
  have c6 : w1.cell? ⟨K.D, 6, none⟩ = some (.bool b.au) := hK.row 6 _ rfl
  have ua : w1.cell? ⟨K.D, 10, none⟩ = some (.int .i64 b.cH) := hK.row 10 _ rfl
  have c9 : w1.cell? ⟨K.D, 9, none⟩ = some (.int .i64 b.length) := hK.row 9 _ rfl
  rw [gU] at ua
  clear hK hX gU
  rw [gE] at c6
  go_wp2_with (fail)
  go_quiet (fail)
  obtain ⟨W2, lX⟩ := ex (w1.drewN nq)
  have fI : Hid (bo w0 W2 L S K f (aq b f)) := by rw [← lX]; exact HK.ab (Below.drewN bV _)
  have nz : Hid (bZ w W2 L S K L S K) := by rw [← lX]; exact (bZ.dj HX).trans (bZ.ak (Below.drewN bV _))
  rw [lX]
  clear lX c6 c9 ua
  go_wp2_with (fail)
  refine (dG fI tn).mono ?_
  rintro e w3 ⟨rfl, rfl⟩
  rw [jP]
  go_wp2
  go_ret
  rw [HB]
  exact ⟨rfl, .mk' nz fI⟩
 have xu : bQ b = false := by simpa using hw
 have jP : Hid (bQ (aq b f) = false) := xu
 have xO : b.bh = false := by unfold bQ at xu; simp only [Bool.or_eq_false_iff] at xu; exact xu.2
 have nU := lh HU.1 xO
 have Iz := vO gE
 have Te := ho.dst
 have hl8 : b.length ≤ 8192 := Nat.le_trans ho.len (by rw [ho.bk]; exact ef h.st.fl.ok ho.k8)
 obtain ⟨D, hD⟩ := ex b.dst
 obtain ⟨l, hl⟩ := ex b.length
 obtain ⟨img, gG⟩ := ex (fv f b D l)
 obtain ⟨C, hC⟩ := ex (eS img)
 have ZB : Hid (bX b f c = if C ≠ c then ({ aq b f with au := false }, 19) else (jw { aq b f with au := false } (fZ b c) f, 0)) := by
  unfold bX; rw [Hid, iN cO, iN dX, iN hw, hD, hl, gG, hC]
 have pz : Hid (∀ w3 : World, bo w0 w3 L S K f { aq b f with au := false } → Calls prog 76 #[.pointer (some ⟨K.D, 0, none⟩), .int .i64 D, .int .i64 l] w3 fun e w' => ∃ A c, e = .returned (.tuple #[.slice A l c, .nilIface]) ∧ l ≤ c ∧ c ≤ maxLen ∧ Rd w' w'.heap.size A (ag .u8 img) ∧ bW w3 w') := fun w3 hK => by
  have kV : bU f { aq b f with au := false } := ⟨HO.ok, HO.sp, HO.fi, HO.bl, HO.lg, HO.br, HO.bk, HO.k1, HO.k8, HO.fw, HO.pg, HO.slot, HO.dst, HO.DV, HO.len, HO.cH, HO.er, HO.dt, HO.page⟩
  have := yY hK kV HU.2 D l oM oM (by rw [← hl]; exact ho.len) (fun g => g < w3.heap.size) (fun g hg => hg)
  rw [show fv f { aq b f with au := false } D l = img from gG] at this
  refine this.mono ?_
  rintro e w' ⟨A, c, he, h1, h2, h3, h4, h5⟩
  exact ⟨A, c, he, h1, h2, h3.rd, h5⟩
 have Dt : Hid (Bytes img) := by rw [← gG]; unfold fv; exact gy (ei h.st.fl.ok.wP _) _
 have uF : Hid (img.length = l) := by
  obtain ⟨r1, r2⟩ := mf ho h.st.fl.ok.b2 h.st.fl.ok.p2 (s := D) oM
  have hlen : f.img.length = f.ar.length * f.pg * 64 := h.st.fl.ok.len
  have ib := ho.len
  rw [r2, hl] at ib
  rw [← gG]; unfold fv
  rw [Hid, List.length_take, List.length_drop, hlen]
  generalize cE b D * f.pg = x1 at *
  generalize b.k * f.pg = x2 at *
  omega
 have Yq := iD hC
 have NA := iD hD
 have yc := iD hl
 rw [hl] at Iz hl8
 rw [hD] at Te
 by_cases rh : C = c
 case neg =>
  have HB : Hid (bX b f c = ({ aq b f with au := false }, 19)) := by rw [Hid, ZB, iP rh]
  have ach : (C == c) = false := by simpa using rh
  clear h ho cO lh rO vO jF zR dX hw xu xO nU hD hl gG hC
  go_enter func41, ntmps41
  go_wp2_with (fail)
  refine HR.mono ?_
  rintro e w1 ⟨rfl, hK, hX⟩
  have HK := iD hK
  have HX := iD hX
  have c6 : w1.cell? ⟨K.D, 6, none⟩ = some (.bool b.au) := hK.row 6 _ rfl
  have ua : w1.cell? ⟨K.D, 10, none⟩ = some (.int .i64 b.cH) := hK.row 10 _ rfl
  have c9 : w1.cell? ⟨K.D, 9, none⟩ = some (.int .i64 b.length) := hK.row 9 _ rfl
  rw [gU] at ua
  clear hK hX gU
  rw [gE] at c6
  go_wp2_with (fail)
  go_quiet (fail)
  obtain ⟨W2, lX⟩ := ex (w1.drewN nq)
  have fI : Hid (bo w0 W2 L S K f (aq b f)) := by rw [← lX]; exact HK.ab (Below.drewN bV _)
  have nz : Hid (bZ w W2 L S K L S K) := by rw [← lX]; exact (bZ.dj HX).trans (bZ.ak (Below.drewN bV _))
  rw [lX]
  clear lX c6 c9 ua
  go_wp2_with (fail)
  refine (dG fI tn).mono ?_
  rintro e w3 ⟨rfl, rfl⟩
  rw [jP]
  have d6 : W2.cell? ⟨K.D, 6, none⟩ = some (.bool b.au) := fI.row 6 _ rfl
  have z6 := fI.fz 6
  have uI := iD (fI.jX 6 (.bool false) { aq b f with au := false } rfl rfl rfl rfl)
  obtain ⟨W3, mC⟩ := ex (W2.setCell ⟨K.D, 6, none⟩ (.bool false))
  have pB : Hid (bo w0 W3 L S K f { aq b f with au := false }) := by rw [← mC]; exact uI.1
  have G7 : Hid (bZ w W3 L S K L S K) := by rw [← mC]; exact nz.trans (.dj uI.2)
  go_wp2_with (fail)
  try rw [mC]
  clear mC d6 z6 uI
  have iO : Hid (∀ W, bW W3 W → W.cell? ⟨K.D, 7, none⟩ = some (.int .i64 D) ∧ W.cell? ⟨K.D, 9, none⟩ = some (.int .i64 l)) := fun W hB => by
   have h1 := (pB.ab hB).row 7 _ rfl
   have h2 := (pB.ab hB).row 9 _ rfl
   rw [show ({ aq b f with au := false } : Bk).dst = D from NA] at h1
   rw [show ({ aq b f with au := false } : Bk).length = l from yc] at h2
   exact ⟨h1, h2⟩
  obtain ⟨d7, d9⟩ := iO _ bV
  have TH : Hid (∀ q, Calls prog 76 #[.pointer (some ⟨K.D, 0, none⟩), .int .i64 D, .int .i64 l] (W3.drewN q) fun e w' => ∃ A c, e = .returned (.tuple #[.slice A l c, .nilIface]) ∧ l ≤ c ∧ c ≤ maxLen ∧ Rd w' w'.heap.size A (ag .u8 img) ∧ bW W3 w') := fun q => by
   have hb := Below.drewN (Below.refl W3.heap.size W3) q
   refine (pz _ (pB.ab hb)).mono ?_
   rintro e w' ⟨A, c, he, h1, h2, h3, h4⟩
   exact ⟨A, c, he, h1, h2, h3, hb.trans (h4.mono hb.size)⟩
  go_region_held3 (fun w9 => w9.cell? ⟨K.D, 7, none⟩ = some (.int .i64 D) ∧ w9.cell? ⟨K.D, 9, none⟩ = some (.int .i64 l)) (first | exact iO _ (Below.drewN bV _) | exact iO _ jG | go_keep) (first
   | (go_at_call 76; refine (TH _).mono ?_; rintro e wb ⟨A4, c4, rfl, mv, rU, Lm, jG⟩))
  all_goals
   have uX := iD (pB.ab jG)
   have JF : Hid (bZ w wb L S K L S K) := G7.trans (bZ.ak jG)
   have Rs := iD Lm
   clear jG Lm mv rU d7 d9
   go_wp2_with (fail)
   refine (nZ A4 l c4 img wb Rs uF Dt oM).mono ?_
   rintro e w5 ⟨rfl, q, rfl⟩
   rw [Yq]
   have Bn : Hid (bW wb (wb.drewN q)) := Below.drewN (Below.refl wb.heap.size wb) q
   have pA := iD (uX.ab Bn)
   have JE : Hid (bZ w (wb.drewN q) L S K L S K) := JF.trans (bZ.ak Bn)
   generalize wb.drewN q = W5 at pA JE ⊢
   clear Bn
   go_wp2
   go_ret
   rw [HB]
   exact ⟨rfl, .mk' JE pA⟩
 subst rh
 have HB : Hid (bX b f C = (jw { aq b f with au := false } (fZ b C) f, 0)) := by rw [Hid, ZB, iN (by simp)]
 obtain ⟨YJ, ZY⟩ := IS ho pO ho.dst hc
 rw [hD, hl] at YJ ZY
 have UI : ∀ x ∈ [b.version, (l : Int), C], dI x := fun x hx => by
  have := ho.DV
  simp only [List.mem_cons, List.not_mem_nil, or_false] at hx
  rcases hx with rfl | rfl | rfl <;> (unfold dI; omega)
 have WO : ∀ x ∈ [(D : Int), 3], dI x := fun x hx => by
  simp only [List.mem_cons, List.not_mem_nil, or_false] at hx
  rcases hx with rfl | rfl <;> (unfold dI; omega)
 have SN : fZ b C = dD (dD b.st (3 + 3 * D) [b.version, (l : Int), C]) 1 [(D : Int), 3] := by unfold fZ; rw [hD, hl]
 have uB : Hid (bC f (dD b.st (3 + 3 * D) [b.version, (l : Int), C])) := lu ho.ok UI
 have XH : Hid (bC f (fZ b C)) := by rw [Hid, SN]; exact lu uB WO
 have FS1 : Hid (∀ w4 : World, bo w0 w4 L S K f { aq b f with au := false } → Calls prog 74 #[.pointer (some ⟨K.D, 0, none⟩), .int .i64 (3 + 3 * (D : Int)), .slice (some ⟨w4.heap.size, 0, none⟩) 3 3] (w4.alloc (.cells #[.int .i64 b.version, .int .i64 l, .int .i64 C] 3)) fun e w' => e = .returned .nilIface ∧ bo w0 w' L S K f { aq b f with au := false, st := dD b.st (3 + 3 * D) [b.version, (l : Int), C] } ∧ bZ w4 w' L S K L S K) := fun w4 hK =>
  rm hK ho.ok (3 + 3 * (D : Int)) (3 + 3 * D) (by push_cast; rfl) oM #[.int .i64 b.version, .int .i64 l, .int .i64 C] [b.version, (l : Int), C] rfl 3 rfl oM YJ UI
 have FS2 : Hid (∀ w4 : World, bo w0 w4 L S K f { aq b f with au := false, st := dD b.st (3 + 3 * D) [b.version, (l : Int), C] } → Calls prog 74 #[.pointer (some ⟨K.D, 0, none⟩), .int .i64 1, .slice (some ⟨w4.heap.size, 0, none⟩) 2 2] (w4.alloc (.cells #[.int .i64 D, .int .i64 3] 3)) fun e w' => e = .returned .nilIface ∧ bo w0 w' L S K f { aq b f with au := false, st := fZ b C } ∧ bZ w4 w' L S K L S K) := fun w4 hK => by
  rw [SN]
  exact rm hK uB 1 1 rfl oM #[.int .i64 D, .int .i64 3] [(D : Int), 3] rfl 2 rfl oM ZY WO
 have FRC : Hid (∀ w5 : World, bo w0 w5 L S K f { aq b f with au := false, st := fZ b C } → Calls prog 89 #[.pointer (some ⟨K.D, 0, none⟩)] w5 fun e w' => e = .returned .nilIface ∧ nA w0 w5 L S K f (jw { aq b f with au := false } (fZ b C) f) w') := fun w5 hK => by
  obtain ⟨k1, k2, k3, k4, k5, k6, -, -⟩ := gY [(D : Int), 3] (dD b.st (3 + 3 * D) [b.version, (l : Int), C]) 1
  obtain ⟨j1, j2, j3, j4, j5, j6, -, -⟩ := gY [b.version, (l : Int), C] b.st (3 + 3 * D)
  rw [← SN] at k1 k2 k3 k6
  exact CI hK XH (wU (k1.trans (j1.trans pO)) HU.2 (k2.trans (j2.trans nU)) (by show 0 ≤ (fZ b C).seq; rw [k3, j3]; exact ho.ok.q1) (by show (fZ b C).seq ≤ 1000000; rw [k3, j3]; exact rO) (k6.trans (j6.trans (by rw [ho.ok.tl]; exact ho.Um))))
 have OK1 := iD YJ
 have HI1 := iD UI
 have q3 : IntKind.i64.wrap C = C := IntWalk.i64_in _ oM
 have q4 : IntKind.i64.wrap (3 * (D : Int)) = 3 * (D : Int) := IntWalk.i64_in _ oM
 have q5 : IntKind.i64.wrap (3 + 3 * (D : Int)) = 3 + 3 * (D : Int) := IntWalk.i64_in _ oM
 obtain ⟨CA, aaD⟩ := hc
 clear h ho cO lh rO vO jF zR dX hw xu xO nU hD hl gG hC YJ ZY UI WO SN
 go_enter func41, ntmps41
 go_wp2_with (fail)
 refine HR.mono ?_
 rintro e w1 ⟨rfl, hK, hX⟩
 have HK := iD hK
 have HX := iD hX
 have c6 : w1.cell? ⟨K.D, 6, none⟩ = some (.bool b.au) := hK.row 6 _ rfl
 have ua : w1.cell? ⟨K.D, 10, none⟩ = some (.int .i64 b.cH) := hK.row 10 _ rfl
 have c9 : w1.cell? ⟨K.D, 9, none⟩ = some (.int .i64 b.length) := hK.row 9 _ rfl
 rw [gU] at ua
 clear hK hX gU
 rw [gE] at c6
 go_wp2_with (fail)
 go_quiet (fail)
 obtain ⟨W2, lX⟩ := ex (w1.drewN nq)
 have fI : Hid (bo w0 W2 L S K f (aq b f)) := by rw [← lX]; exact HK.ab (Below.drewN bV _)
 have nz : Hid (bZ w W2 L S K L S K) := by rw [← lX]; exact (bZ.dj HX).trans (bZ.ak (Below.drewN bV _))
 rw [lX]
 clear lX c6 c9 ua
 go_wp2_with (fail)
 refine (dG fI tn).mono ?_
 rintro e w3 ⟨rfl, rfl⟩
 rw [jP]
 have d6 : W2.cell? ⟨K.D, 6, none⟩ = some (.bool b.au) := fI.row 6 _ rfl
 have z6 := fI.fz 6
 have uI := iD (fI.jX 6 (.bool false) { aq b f with au := false } rfl rfl rfl rfl)
 obtain ⟨W3, mC⟩ := ex (W2.setCell ⟨K.D, 6, none⟩ (.bool false))
 have pB : Hid (bo w0 W3 L S K f { aq b f with au := false }) := by rw [← mC]; exact uI.1
 have G7 : Hid (bZ w W3 L S K L S K) := by rw [← mC]; exact nz.trans (.dj uI.2)
 go_wp2_with (fail)
 try rw [mC]
 clear mC d6 z6 uI
 have iO : Hid (∀ W, bW W3 W → W.cell? ⟨K.D, 7, none⟩ = some (.int .i64 D) ∧ W.cell? ⟨K.D, 9, none⟩ = some (.int .i64 l)) := fun W hB => by
  have h1 := (pB.ab hB).row 7 _ rfl
  have h2 := (pB.ab hB).row 9 _ rfl
  rw [show ({ aq b f with au := false } : Bk).dst = D from NA] at h1
  rw [show ({ aq b f with au := false } : Bk).length = l from yc] at h2
  exact ⟨h1, h2⟩
 obtain ⟨d7, d9⟩ := iO _ bV
 have TH : Hid (∀ q, Calls prog 76 #[.pointer (some ⟨K.D, 0, none⟩), .int .i64 D, .int .i64 l] (W3.drewN q) fun e w' => ∃ A c, e = .returned (.tuple #[.slice A l c, .nilIface]) ∧ l ≤ c ∧ c ≤ maxLen ∧ Rd w' w'.heap.size A (ag .u8 img) ∧ bW W3 w') := fun q => by
  have hb := Below.drewN (Below.refl W3.heap.size W3) q
  refine (pz _ (pB.ab hb)).mono ?_
  rintro e w' ⟨A, c, he, h1, h2, h3, h4⟩
  exact ⟨A, c, he, h1, h2, h3, hb.trans (h4.mono hb.size)⟩
 go_region_held3 (fun w9 => w9.cell? ⟨K.D, 7, none⟩ = some (.int .i64 D) ∧ w9.cell? ⟨K.D, 9, none⟩ = some (.int .i64 l)) (first | exact iO _ (Below.drewN bV _) | exact iO _ jG | go_keep) (first
  | (go_at_call 76; refine (TH _).mono ?_; rintro e wb ⟨A4, c4, rfl, mv, rU, Lm, jG⟩))
 all_goals
  have uX := iD (pB.ab jG)
  have JF : Hid (bZ w wb L S K L S K) := G7.trans (bZ.ak jG)
  have Rs := iD Lm
  clear jG Lm mv rU d7 d9
  go_wp2_with (fail)
  refine (nZ A4 l c4 img wb Rs uF Dt oM).mono ?_
  rintro e w5 ⟨rfl, q, rfl⟩
  rw [Yq]
  have Bn : Hid (bW wb (wb.drewN q)) := Below.drewN (Below.refl wb.heap.size wb) q
  have pA := iD (uX.ab Bn)
  have JE : Hid (bZ w (wb.drewN q) L S K L S K) := JF.trans (bZ.ak Bn)
  generalize wb.drewN q = W5 at pA JE ⊢
  clear Bn
  have PU : Hid (∀ W, bW W5 W → W.cell? ⟨K.D, 7, none⟩ = some (.int .i64 D) ∧ W.cell? ⟨K.D, 8, none⟩ = some (.int .i64 b.version) ∧ W.cell? ⟨K.D, 9, none⟩ = some (.int .i64 l)) := fun W hB => by
   have h1 := (pA.ab hB).row 7 _ rfl
   have h2 := (pA.ab hB).row 9 _ rfl
   have h3 := (pA.ab hB).row 8 _ rfl
   rw [show ({ aq b f with au := false } : Bk).dst = D from NA] at h1
   rw [show ({ aq b f with au := false } : Bk).length = l from yc] at h2
   exact ⟨h1, h3, h2⟩
  have HKA : Hid (∀ (W : World) (s : St), bo w0 W L S K f { aq b f with au := false, st := s } → W.cell? ⟨K.D, 7, none⟩ = some (.int .i64 D) ∧ W.cell? ⟨K.D, 8, none⟩ = some (.int .i64 b.version) ∧ W.cell? ⟨K.D, 9, none⟩ = some (.int .i64 l)) := fun W s hK => by
   have h1 := hK.row 7 _ rfl
   have h2 := hK.row 9 _ rfl
   have h3 := hK.row 8 _ rfl
   rw [show ({ aq b f with au := false, st := s } : Bk).dst = D from NA] at h1
   rw [show ({ aq b f with au := false, st := s } : Bk).length = l from yc] at h2
   exact ⟨h1, h3, h2⟩
  obtain ⟨Iz, Dy, hl3⟩ := pA.lit #[.int .i64 b.version, .int .i64 l, .int .i64 C] [b.version, (l : Int), C] rfl (W5.alloc (.cells #[.int .i64 b.version, .int .i64 l, .int .i64 C] 3)) rfl
  have abF : Hid (∀ W', Below (W5.alloc (.cells #[.int .i64 b.version, .int .i64 l, .int .i64 C] 3)).heap.size (W5.alloc (.cells #[.int .i64 b.version, .int .i64 l, .int .i64 C] 3)) W' → Calls prog 74 #[.pointer (some ⟨K.D, 0, none⟩), .int .i64 (3 + 3 * (D : Int)), .slice (some ⟨W5.heap.size, 0, none⟩) 3 3] W' fun e w' => e = .returned .nilIface ∧ bo w0 w' L S K f { aq b f with au := false, st := dD b.st (3 + 3 * D) [b.version, (l : Int), C] } ∧ bZ W5 w' L S K L S K) := fun W' hb => by
   refine (CH (Iz.ab hb) HO.ok (3 + 3 * (D : Int)) (3 + 3 * D) (by push_cast; rfl) oM rfl (by simp) (hl3.ao (ah.ak hb)) OK1 HI1).mono ?_
   rintro e w' ⟨he, hk, hx⟩
   exact ⟨he, hk, Dy.trans ((bZ.ak hb).trans (bZ.iT hx rfl rfl))⟩
  clear Iz Dy hl3
  obtain ⟨d7, d8, d9⟩ := PU _ bV
  go_wp2_with (fail)
  go_region_held3 (fun w9 => w9.cell? ⟨K.D, 7, none⟩ = some (.int .i64 D) ∧ w9.cell? ⟨K.D, 8, none⟩ = some (.int .i64 b.version) ∧ w9.cell? ⟨K.D, 9, none⟩ = some (.int .i64 l)) (first | exact PU _ (Below.drewN bV _) | exact PU _ (Below.drew bV) | exact HKA _ _ (by assumption) | exact PU _ (Below.drew (bV.alloc cV _)) | go_keep) (first
   | (go_at_call 74; with_reducible refine (abF.out _ (by first | exact Below.refl _ _ | exact Below.drew bV | exact Below.drewN bV _)).mono ?_; rintro e wa ⟨rfl, nW, CC⟩; obtain ⟨x7, x8, x9⟩ := HKA.out _ _ nW)
   | (go_at_call 74; with_reducible refine (FS2.out _ nW).mono ?_; rintro e wc ⟨rfl, hKc, hAc⟩; obtain ⟨y7, y8, y9⟩ := HKA.out _ _ hKc)
   | fail)
  all_goals
   have Ry := iD hKc
   have HAC : Hid (bZ w wc L S K L S K) := JE.trans (CC.trans hAc)
   clear nW CC hKc hAc
   go_wp2_with (fail)
   refine (FRC _ Ry).mono ?_
   rintro e wd ⟨rfl, hk⟩
   have HKD := iD hk
   clear hk
   go_wp2
   go_ret
   rw [HB]
   exact ⟨rfl, .then HAC HKD⟩
end
theorem bU.xH (h : bU f b) (hs : ep f g) (s : St) (br : Bool) (sl : Nat) (er : List Int) (da : Option (List Int)) (rc : Bool) (dX : bC g s) (AZ : Same b.st s) (QH : Lg s.aw s.saved) (cO : s.af = false ∨ br = true) (lR : sl ≤ 2) (GD : ∀ e ∈ er, e ∈ b.erase) (YW : da = none ∨ da = b.data) :
 bU g { b with st := s, af := br, slot := sl, erase := er, data := da, bh := rc } := by
 have hz : aM g b.aa = aM f b.aa := by unfold aM; rw [hs.p]
 refine ⟨dX, ?_, ?_, ?_, QH, cO, h.bk, h.k1, h.k8, ?_, ?_, lR, h.dst, h.DV, ?_, h.cH, fun e he => h.er e (GD e he), fun d hd => ?_, h.page⟩
 ·show s.aw = aH (aM g b.aa)
  rw [AZ.aw, hz]
  exact h.sp
 ·show s.first = b.first
  rw [AZ.first]; exact h.fi
 ·show s.aa = 2
  rw [AZ.aa]; exact h.bl
 ·show b.first + b.aa ≤ g.ar.length
  rw [hs.w]; exact h.fw
 ·rw [hs.p]; exact h.pg
 ·show b.length ≤ aM g b.aa
  rw [hz]; exact h.len
 have kW : da = some d := hd
 rcases YW with e | e
 ·rw [e] at kW; cases kW
 exact h.dt d (by rw [← e]; exact kW)
theorem oD : ∀ (l : List Int) (s : St) (i : Nat), Same s (dD s i l)
 | [], s, i => Same.refl s
 | v :: l, s, i => (eG s i v).trans (oD l _ _)
theorem oE {f : Fl} : ∀ {l : List Int} {s : St} {i : Nat}, dW f s → (∀ x ∈ l, dI x) → dW f (dD s i l)
 | [], s, i, h, hl => h
 | v :: l, s, i, h, hl => oE (l := l) (h.set (hl v (by simp))) (fun x hx => hl x (by simp [hx]))
theorem eo.JM {o : Option (List Int)} (h : eo f s v o) : xU f s o := by
 rcases h.2 with ⟨h1, h2⟩ | ⟨h1, h2⟩
 ·exact .inl ⟨by rw [Kg h1.up]; exact h1, h2⟩
 exact .inr ⟨h1, h2⟩
theorem eo.lg {o : Option (List Int)} (h : eo f s v o) : Lg s.aw s.saved := by
 rcases h.2 with ⟨h1, _⟩ | ⟨h1, _⟩
 ·exact h1.xr
 exact h1.xr
theorem dW.Vf (h : dW f s) : eo f s s.saved (if s.bt = true then some s.values else none) := ⟨rfl, .inl ⟨h, rfl⟩⟩
theorem CW (h : dW f s) : ∃ v o, eo (ay s f).2.1 (ay s f).1 v o ∧ ((ay s f).2.2 = 0 → v = s.aj ∧ o = none) := by
 rcases h.Vf.wN with ⟨h1, h2⟩ | ⟨h1, h2⟩ | ⟨h1, h2, h3⟩
 ·exact ⟨_, _, h2, fun _ => ⟨rfl, rfl⟩⟩
 ·exact ⟨_, _, h2, fun e => by rw [e] at h1; cases h1⟩
 exact ⟨_, _, h3, fun e => absurd e h1⟩
theorem eo.sH (h : eo f s v none) : dW f s ∧ s.bt = false := by
 rcases h.2 with ⟨h1, h2⟩ | ⟨_, h2⟩
 ·refine ⟨h1, ?_⟩
  cases hb : s.bt with
  | false => rfl
  | true => rw [hb] at h2; cases h2
 cases h2
theorem Pn (h : jJ f b n) : jJ (cy b f).2.1 (cy b f).1 (n + 1) := by
 have h' := h.fk
 unfold cy
 split
 ·exact h'.more oM
 rename_i hb
 split
 ·exact h'.more oM
 obtain ⟨va, vt, vk, v0, l0, c0, v1, l1, c1, hv, b1, b2, b3, -⟩ := h.ok.vec
 have Ck : aV b 0 = (va : Int) := by unfold aV; rw [hv]; rfl
 have iG : aV b 1 = (vt : Int) := by unfold aV; rw [hv]; rfl
 have jA : aV b 2 = (vk : Int) := by unfold aV; rw [hv]; rfl
 split
 ·refine (h'.with (c := { aq b f with slot := (aV b 0).toNat }) ?_ rfl rfl rfl h'.Ag h'.Ge h'.ul).more oM
  have ho := h'.ok
  exact ⟨ho.ok, ho.sp, ho.fi, ho.bl, ho.lg, ho.br, ho.bk, ho.k1, ho.k8, ho.fw, ho.pg, by show (aV b 0).toNat ≤ 2; rw [Ck]; omega, ho.dst, ho.DV, ho.len, ho.cH, ho.er, ho.dt, ho.page⟩
 have jF : (aq b f).af = false := by simpa using hb
 obtain ⟨u1, u2⟩ := fS jF
 obtain ⟨hl, hr⟩ := h.lv u1 u2
 obtain ⟨s, hs⟩ := ex (if 0 < aV b 2 then aU b.st 2 (aV b 2 - 1) else aU b.st 1 2)
 have hls : dW f s := by
  rw [← hs]
  split
  ·exact hl.set (by rw [jA]; unfold dI; omega)
  exact hl.set (by unfold dI; omega)
 have nO : Same b.st s := by
  rw [← hs]
  split
  ·exact eG _ _ _
  exact eG _ _ _
 have rO : s.seq = b.st.seq := by
  rw [← hs]
  split
  ·exact mg _ _ _
  exact mg _ _ _
 have nU : s.bt = b.st.bt := by
  rw [← hs]
  split
  ·exact (pV _ _ _).2.1
  exact (pV _ _ _).2.1
 simp only [hs]
 obtain ⟨v, o, fL, hz⟩ := CW hls
 have js := jt s f
 have AZ := nO.trans (rB s f)
 have Ir := og s f
 have UD : (ay s f).2.1.ok := fL.wu
 split
 ·rename_i hc
  refine ⟨h'.ok.xH js _ true b.slot b.erase b.data b.bh fL.ok AZ fL.lg (.inr rfl) h.ok.slot (fun e he => he) (.inr rfl), UD, fun e => (by cases e), fun e => (by cases e), ⟨_, fL.JM⟩, h'.Ag, fun d hd => ?_, by show (ay s f).1.seq ≤ n + 1; have := h.sq; omega, h'.ul⟩
  rw [js.p]
  exact h'.Ge d hd
 rename_i hc
 have CA : (ay s f).2.2 = 0 := Classical.byContradiction hc
 obtain ⟨rfl, rfl⟩ := hz CA
 obtain ⟨GA, hbz⟩ := fL.sH
 have aaF : b.st.bt = false := by
  cases nD : b.st.bt with
  | false => rfl
  | true =>
   have he : aO s f = 14 := by
    unfold aO
    rw [hls.br, u2, iN (by decide), nU, nD, iP rfl]
   have : (ay s f).2.2 = 14 := by unfold ay; rw [iP (by rw [he]; decide)]; exact he
   rw [this] at CA
   cases CA
 refine ⟨h'.ok.xH js _ (aq b f).af _ b.erase b.data b.bh fL.ok AZ fL.lg (.inl GA.br) ?_ (fun e he => he) (.inr rfl), UD, fun _ _ => ⟨GA, ?_⟩, fun _ => GA.up, ⟨_, fL.JM⟩, h'.Ag, fun d hd => ?_, by show (ay s f).1.seq ≤ n + 1; have := h.sq; omega, h'.ul⟩
 ·split
  ·rw [iG]; omega
  rw [Ck]; omega
 ·show b.bh = _
  rw [hr, aaF, hbz]
 rw [js.p]
 exact h'.Ge d hd
theorem KA (h : jJ f b n) (hb : b.af = false) (hd : f.aF = false) (hl : dW f s) (AZ : Same b.st s) (rO : s.seq = b.st.seq) (nU : s.bt = b.st.bt) (fL : s.saved = b.st.saved) : jJ f (jw b s f) n := by
 obtain ⟨hlb, hr⟩ := h.lv hb hd
 have GA : dW f (aZ s f) := hl.begin
 have Nh : (if aO s f = 0 then true else b.bh) = (aZ s f).bt := by
  split
  ·rename_i he
   exact (gI he).1.symm
  rename_i he
  rw [hl.iZ he, nU]
  exact hr
 refine ⟨h.ok.xH (ep.refl f) _ b.af b.slot b.erase b.data _ GA.ok (AZ.trans (lK s f)) GA.xr (.inl GA.br) h.ok.slot (fun e he => he) (.inr rfl), h.fo, fun _ _ => ⟨GA, Nh⟩, fun _ => hd, ⟨_, xU.live GA⟩, h.Ag, h.Ge, ?_, h.ul⟩
 show (aZ s f).seq ≤ n
 rw [nj, rO]
 exact h.sq
theorem E9 (h : jJ f b n) : jJ f (bJ b f).1 n := by
 have h' := h.fk
 unfold bJ
 split
 ·exact h'
 rename_i hb
 split
 ·exact h'
 split
 ·exact h'
 have jF : (aq b f).af = false := by simpa using hb
 obtain ⟨u1, u2⟩ := fS jF
 obtain ⟨hl, _⟩ := h.lv u1 u2
 have hI : ∀ x ∈ [(b.slot : Int), 2, 0], dI x := fun x hx => by
  have := h.ok.slot
  simp only [List.mem_cons, List.not_mem_nil, or_false] at hx
  rcases hx with rfl | rfl | rfl <;> (unfold dI; omega)
 obtain ⟨k1, k2, k3, k4, -⟩ := gY [(b.slot : Int), 2, 0] b.st 0
 exact KA h' jF u2 (oE hl hI) (oD _ _ _) k3 k2 k4
theorem IU (h : jJ f b n) (hc : 0 ≤ c ∧ c < 4294967296) : jJ f (bX b f c).1 n := by
 have h' := h.fk
 unfold bX
 split
 ·exact h'
 rename_i hb
 split
 ·exact h'
 split
 ·exact h'
 have jF : (aq b f).af = false := by simpa using hb
 obtain ⟨u1, u2⟩ := fS jF
 have hw : jJ f { aq b f with au := false } n := by
  have ho := h'.ok
  exact h'.with ⟨ho.ok, ho.sp, ho.fi, ho.bl, ho.lg, ho.br, ho.bk, ho.k1, ho.k8, ho.fw, ho.pg, ho.slot, ho.dst, ho.DV, ho.len, ho.cH, ho.er, ho.dt, ho.page⟩ rfl rfl rfl h'.Ag h'.Ge (fun e => by cases e)
 split
 ·exact hw
 obtain ⟨hl, _⟩ := h.lv u1 u2
 have hl8 : b.length ≤ 8192 := Nat.le_trans h.ok.len (by rw [h.ok.bk]; exact ef h.fo h.ok.k8)
 have UI : ∀ x ∈ [b.version, (b.length : Int), c], dI x := fun x hx => by
  have := h.ok.DV
  simp only [List.mem_cons, List.not_mem_nil, or_false] at hx
  rcases hx with rfl | rfl | rfl <;> (unfold dI; omega)
 have WO : ∀ x ∈ [(b.dst : Int), 3], dI x := fun x hx => by
  have := h.ok.dst
  simp only [List.mem_cons, List.not_mem_nil, or_false] at hx
  rcases hx with rfl | rfl <;> (unfold dI; omega)
 obtain ⟨k1, k2, k3, k4, -⟩ := gY [b.version, (b.length : Int), c] b.st (3 + 3 * b.dst)
 obtain ⟨j1, j2, j3, j4, -⟩ := gY [(b.dst : Int), 3] (dD b.st (3 + 3 * b.dst) [b.version, (b.length : Int), c]) 1
 exact KA hw jF u2 (oE (oE hl UI) WO) ((oD _ _ _).trans (oD _ _ _)) (j3.trans k3) (j2.trans k2) (j4.trans k4)
theorem CO {b : Int} (h : (aR f b).2 = 0) (hd : f.aF = false) : (aR f b).1.aF = false := by
 revert h
 unfold aR
 split
 ·intro e; cases e
 split
 ·intro e; cases e
 split
 ·intro e; cases e
 rename_i h1 h2 h3
 intro _
 rcases nf f with ⟨e, _⟩ | ⟨_, e⟩
 ·exact absurd e h3
 exact e.trans hd
theorem Eh {p : Int} {b : List Int} (h : (bz f p b).2 = 0) (hd : f.aF = false) : (bz f p b).1.aF = false := by
 revert h
 unfold bz
 split
 ·rename_i h1; intro e; exact absurd e h1
 split
 ·intro e; cases e
 split
 ·intro e; cases e
 split
 ·intro e; cases e
 rename_i h1 h2 h3 h4
 intro _
 rcases nf f with ⟨e, _⟩ | ⟨_, e⟩
 ·exact absurd e h4
 exact e.trans hd
theorem F1 (h : jJ f b n) : jJ (aK b f).2.1 (aK b f).1 (n + 1) := by
 have h' := h.fk
 unfold aK
 split
 ·exact h'.more oM
 rename_i hb
 have jF : (aq b f).af = false := by simpa using hb
 obtain ⟨u1, u2⟩ := fS jF
 obtain ⟨hl, hr⟩ := h.lv u1 u2
 have lk : b.st.first = b.first := h.ok.fi
 have cB : b.st.aa = 2 := h.ok.bl
 have rO : b.st.seq ≤ n + 1 := by have := h.sq; omega
 cases he : b.erase with
 | cons e l =>
  simp only
  obtain ⟨x1, x2⟩ := h.Ag e (by rw [he]; simp)
  obtain ⟨E, rfl⟩ : ∃ E : Nat, e = E := ⟨e.toNat, oM⟩
  have dc := kn (f := f) (block := (E : Int)) h.fo
  have js := iW f (E : Int)
  have iA : ∀ x, b.st.first * f.pg ≤ x → x < (b.st.first + b.st.aa) * f.pg → aB (aR f (E : Int)).1 x = aB f x := fun x h1 h2 => by
   refine qw h.fo ?_
   rw [lk, cB] at h2
   have : (b.first + 2) * f.pg ≤ E * f.pg := Nat.mul_le_mul_right _ oM
   omega
  have QC : ∀ d, b.data = some d → (b.first + 2) * (aR f (E : Int)).1.pg ≤ b.page ∧ b.page < (b.first + b.aa) * (aR f (E : Int)).1.pg := fun d hd => by rw [js.p]; exact h.Ge d hd
  have Lk : ∃ o, xU (aR f (E : Int)).1 b.st o := ⟨_, .inl ⟨hl.KZ js dc iA, rfl⟩⟩
  split
  ·exact ⟨h'.ok.xH js b.st true b.slot b.erase b.data b.bh (hl.ok.shape js) (Same.refl _) h.ok.lg (.inr rfl) h.ok.slot (fun e he => he) (.inr rfl), dc, fun e => (by cases e), fun e => (by cases e), Lk, h.Ag, QC, rO, h.ul⟩
  rename_i hc
  have CA : (aR f (E : Int)).2 = 0 := Classical.byContradiction hc
  have qp := CO CA u2
  exact ⟨h'.ok.xH js b.st (aq b f).af b.slot l b.data b.bh (hl.ok.shape js) (Same.refl _) h.ok.lg (.inl hl.br) h.ok.slot (fun x hx => by show x ∈ b.erase; rw [he]; simp [hx]) (.inr rfl), dc, fun _ _ => ⟨hl.R7 js dc qp iA, hr⟩, fun _ => qp, Lk, fun x hx => h.Ag x (by rw [he]; simp only [List.mem_cons]; exact .inr hx), QC, rO, h.ul⟩
 | nil =>
  cases hd : b.data with
  | some d =>
   simp only
   obtain ⟨x1, x2⟩ := h.Ge d hd
   obtain ⟨y1, y2⟩ := h.ok.dt d hd
   have dc := nL (f := f) (page := (b.page : Int)) h.fo y2
   have js := jy f (b.page : Int) d
   have iA : ∀ x, b.st.first * f.pg ≤ x → x < (b.st.first + b.st.aa) * f.pg → aB (bz f (b.page : Int) d).1 x = aB f x := fun x h1 h2 => by
    rw [lk, cB] at h2
    exact sE h.fo y1 oM
   have QC : ∀ d2, b.data = some d2 → (b.first + 2) * (bz f (b.page : Int) d).1.pg ≤ b.page ∧ b.page < (b.first + b.aa) * (bz f (b.page : Int) d).1.pg := fun d2 qp => by rw [js.p]; exact h.Ge d2 qp
   have Lk : ∃ o, xU (bz f (b.page : Int) d).1 b.st o := ⟨_, .inl ⟨hl.KZ js dc iA, rfl⟩⟩
   split
   ·exact ⟨h'.ok.xH js b.st true b.slot b.erase b.data b.bh (hl.ok.shape js) (Same.refl _) h.ok.lg (.inr rfl) h.ok.slot (fun e he => he) (.inr rfl), dc, fun e => (by cases e), fun e => (by cases e), Lk, h.Ag, QC, rO, h.ul⟩
   rename_i hc
   have CA : (bz f (b.page : Int) d).2 = 0 := Classical.byContradiction hc
   have qp := Eh CA u2
   exact ⟨h'.ok.xH js b.st (aq b f).af b.slot b.erase none b.bh (hl.ok.shape js) (Same.refl _) h.ok.lg (.inl hl.br) h.ok.slot (fun e he => he) (.inl rfl), dc, fun _ _ => ⟨hl.R7 js dc qp iA, hr⟩, fun _ => qp, Lk, h.Ag, fun d2 qp => (by cases qp), rO, h.ul⟩
  | none =>
   simp only
   split
   ·rename_i xO
    have nU : b.st.bt = true := by rw [← hr]; exact xO
    have js := gn b.st f
    have AZ := mK b.st f
    have VQ := mc hl.ok
    have UD := yo h.fo hl.ok
    have Ir : (aI b.st f).1.seq ≤ n + 1 := by
     have e1 := su b.st f
     have e2 := h.sq
     split at e1 <;> omega
    have QC : ∀ d, b.data = some d → (b.first + 2) * (aI b.st f).2.1.pg ≤ b.page ∧ b.page < (b.first + b.aa) * (aI b.st f).2.1.pg := fun d qp => by rw [js.p]; exact h.Ge d qp
    split
    ·rename_i hc
     cases hl.step nU with
     | more e1 e2 => exact absurd e2 hc
     | last e1 e2 => exact absurd e2 hc
     | dead e1 e2 e3 => exact ⟨h'.ok.xH js _ true b.slot b.erase b.data b.bh VQ AZ e3.xr (.inr rfl) h.ok.slot (fun e he => he) (.inr rfl), UD, fun e => (by cases e), fun e => (by cases e), ⟨_, .inr ⟨e3, rfl⟩⟩, h.Ag, QC, Ir, h.ul⟩
    rename_i hc
    have CA : (aI b.st f).2.2.2 = 0 := Classical.byContradiction hc
    cases hl.step nU with
    | more e1 e2 e3 e4 => exact ⟨h'.ok.xH js _ (aq b f).af b.slot b.erase b.data _ VQ AZ e3.xr (.inl e3.br) h.ok.slot (fun e he => he) (.inr rfl), UD, fun _ _ => ⟨e3, by show (!(aI b.st f).2.2.1) = _; rw [e1, e4]; rfl⟩, fun _ => e3.up, ⟨_, xU.live e3⟩, h.Ag, QC, Ir, h.ul⟩
    | last e1 e2 e3 e4 => exact ⟨h'.ok.xH js _ (aq b f).af b.slot b.erase b.data _ VQ AZ e3.xr (.inl e3.br) h.ok.slot (fun e he => he) (.inr rfl), UD, fun _ _ => ⟨e3, by show (!(aI b.st f).2.2.1) = _; rw [e1, e4]; rfl⟩, fun _ => e3.up, ⟨_, xU.live e3⟩, h.Ag, QC, Ir, h.ul⟩
    | dead e1 e2 => rw [CA] at e2; cases e2
   exact h'.more oM
section
variable {f g : Fl} (h : fE f g)
include h
theorem fE.fk (b : Bk) : aq b g = aq b f := by unfold aq; rw [h.aF]
theorem fE.YF (n : Nat) : aM g n = aM f n := by unfold aM; rw [h.pg]
theorem fE.Vs (a b : Int) : eC g a b = eC f a b := by unfold eC; rw [h.aF, h.ar, h.pg]
theorem fE.fv (b : Bk) (s n : Nat) : YtjdknddnanopaaaGreat.fv g b s n = YtjdknddnanopaaaGreat.fv f b s n := by unfold YtjdknddnanopaaaGreat.fv; rw [h.img, h.pg]
theorem fE.cy (b : Bk) : (YtjdknddnanopaaaGreat.cy b g).1 = (YtjdknddnanopaaaGreat.cy b f).1 ∧ (YtjdknddnanopaaaGreat.cy b g).2.2 = (YtjdknddnanopaaaGreat.cy b f).2.2 ∧ fE (YtjdknddnanopaaaGreat.cy b f).2.1 (YtjdknddnanopaaaGreat.cy b g).2.1 := by
 unfold YtjdknddnanopaaaGreat.cy
 rw [h.fk]
 split
 ·exact ⟨rfl, rfl, h⟩
 split
 ·exact ⟨rfl, rfl, h⟩
 split
 ·exact ⟨rfl, rfl, h⟩
 simp only
 generalize (if 0 < aV b 2 then aU b.st 2 (aV b 2 - 1) else aU b.st 1 2) = s
 obtain ⟨h1, h2, h3⟩ := h.wN s
 rw [h1, h2]
 split
 ·exact ⟨rfl, rfl, h3⟩
 exact ⟨rfl, rfl, h3⟩
theorem fE.cz (b : Bk) (v n : Int) : YtjdknddnanopaaaGreat.cz b g v n = YtjdknddnanopaaaGreat.cz b f v n := by
 unfold YtjdknddnanopaaaGreat.cz
 rw [h.fk, h.YF]
theorem fE.dH (b : Bk) (x : List Int) : YtjdknddnanopaaaGreat.dH b g x = YtjdknddnanopaaaGreat.dH b f x := by
 unfold YtjdknddnanopaaaGreat.dH
 rw [h.fk, h.pg]
theorem fE.jw (b : Bk) (s : St) : YtjdknddnanopaaaGreat.jw b s g = YtjdknddnanopaaaGreat.jw b s f := by
 unfold YtjdknddnanopaaaGreat.jw
 rw [h.aZ, h.aO]
theorem fE.bX (b : Bk) (c : Int) : YtjdknddnanopaaaGreat.bX b g c = YtjdknddnanopaaaGreat.bX b f c := by
 unfold YtjdknddnanopaaaGreat.bX
 rw [h.fk, h.fv, h.jw]
theorem fE.ej (b : Bk) : YtjdknddnanopaaaGreat.ej b g = YtjdknddnanopaaaGreat.ej b f := by
 unfold YtjdknddnanopaaaGreat.ej
 rw [h.fk]
theorem fE.bJ (b : Bk) : YtjdknddnanopaaaGreat.bJ b g = YtjdknddnanopaaaGreat.bJ b f := by
 unfold YtjdknddnanopaaaGreat.bJ
 rw [h.fk, h.jw]
theorem fE.aK (b : Bk) : (YtjdknddnanopaaaGreat.aK b g).1 = (YtjdknddnanopaaaGreat.aK b f).1 ∧ (YtjdknddnanopaaaGreat.aK b g).2.2 = (YtjdknddnanopaaaGreat.aK b f).2.2 ∧ fE (YtjdknddnanopaaaGreat.aK b f).2.1 (YtjdknddnanopaaaGreat.aK b g).2.1 := by
 unfold YtjdknddnanopaaaGreat.aK
 rw [h.fk]
 split
 ·exact ⟨rfl, rfl, h⟩
 split
 ·rename_i e l _
  obtain ⟨h1, h2⟩ := h.erase e
  rw [h1]
  split
  ·exact ⟨rfl, rfl, h2⟩
  exact ⟨rfl, rfl, h2⟩
 split
 ·rename_i d _
  obtain ⟨h1, h2⟩ := h.prog b.page d
  rw [h1]
  split
  ·exact ⟨rfl, rfl, h2⟩
  exact ⟨rfl, rfl, h2⟩
 split
 ·obtain ⟨h1, h2, h3⟩ := h.step b.st
  rw [h1, h2]
  split
  ·exact ⟨rfl, rfl, h3⟩
  exact ⟨rfl, rfl, h3⟩
 exact ⟨rfl, rfl, h⟩
theorem fE.dr (b : Bk) (s : Int) : YtjdknddnanopaaaGreat.dr b g s = YtjdknddnanopaaaGreat.dr b f s := by
 unfold YtjdknddnanopaaaGreat.dr
 rw [h.fk, h.fv]
theorem fE.Ti (a b : Int) : dU g a b = dU f a b ∧ dh g a b = dh f a b := by
 unfold dU dh
 rw [h.Vs, h.YF, h.aJ]
 exact ⟨rfl, rfl⟩
theorem bU.xI (k : bU f b) : bU g b :=
 ⟨k.ok.shape ⟨h.pg, by rw [h.ar]⟩, by rw [h.YF]; exact k.sp, k.fi, k.bl, k.lg, k.br, k.bk, k.k1, k.k8, by rw [h.ar]; exact k.fw, by rw [h.pg]; exact k.pg, k.slot, k.dst, k.DV, by rw [h.YF]; exact k.len, k.cH, k.er, k.dt, k.page⟩
theorem xU.xI (hg : g.ok) {o : Option (List Int)} (k : xU f s o) : xU g s o := by
 rcases k with ⟨k1, k2⟩ | ⟨k1, k2⟩
 ·exact .inl ⟨k1.fl (g := Qe g) h.img h.pg h.ar rfl (DY hg), k2⟩
 exact .inr ⟨k1.fl h.img h.pg h.ar h.aF hg, k2⟩
theorem jJ.xI (hg : g.ok) (k : jJ f b n) : jJ g b n :=
 ⟨bU.xI h k.ok, hg, fun hb hd => ⟨(k.lv hb (by rw [← h.aF]; exact hd)).1.fl h.img h.pg h.ar h.aF hg, (k.lv hb (by rw [← h.aF]; exact hd)).2⟩, fun hb => by rw [h.aF]; exact k.dn hb, by
  obtain ⟨o, ho⟩ := k.JM
  exact ⟨o, xU.xI h hg ho⟩, k.Ag, by rw [h.pg]; exact k.Ge, k.sq, k.ul⟩
end
structure ui (p : Nat) (b : Bk) : Prop where
 al : b.cH % 64 = 0 ∨ b.cH = b.length
 pg : ∀ d, b.data = some d → b.page = cE b b.dst * p + (b.cH - 1) / 64 ∧ 1 ≤ b.cH
section
variable {f : Fl} {b : Bk}
theorem KX (p : Nat) (s : St) (a n : Nat) : ui p (qg s a n) := ⟨.inl rfl, fun d hd => by cases hd⟩
theorem ui.fk (h : ui p b) : ui p (aq b f) := ⟨h.al, h.pg⟩
theorem ui.same {c : Bk} (h : ui p b) (h1 : c.cH = b.cH) (h2 : c.length = b.length) (h3 : c.first = b.first) (h4 : c.aa = b.aa) (h5 : c.dst = b.dst) (h6 : c.page = b.page) (h7 : c.data = b.data ∨ c.data = none) : ui p c := by
 refine ⟨by rw [h1, h2]; exact h.al, fun d hd => ?_⟩
 rcases h7 with h7 | h7
 ·rw [h7] at hd
  obtain ⟨k1, k2⟩ := h.pg d hd
  refine ⟨?_, by rw [h1]; exact k2⟩
  rw [h6, h1, h5, k1]
  unfold cE Bk.k
  rw [h3, h4]
 rw [h7] at hd
 cases hd
theorem Pm (h : ui p b) : ui p (cy b f).1 := by
 unfold cy
 split
 ·exact h.fk
 split
 ·exact h.fk
 split
 ·exact h.same rfl rfl rfl rfl rfl rfl (.inl rfl)
 simp only
 generalize (if 0 < aV b 2 then aU b.st 2 (aV b 2 - 1) else aU b.st 1 2) = s
 by_cases hc : (ay s f).2.2 ≠ 0
 ·rw [iP hc]
  exact h.same rfl rfl rfl rfl rfl rfl (.inl rfl)
 rw [iN hc]
 exact h.same rfl rfl rfl rfl rfl rfl (.inl rfl)
theorem Mt (h : ui p b) (v n : Int) : ui p (cz b f v n).1 := by
 unfold cz
 split
 ·exact h.fk
 split
 ·exact h.fk
 split
 ·exact h.fk
 rename_i hw
 split
 ·exact h.fk
 refine ⟨.inl rfl, fun d hd => ?_⟩
 have kW : b.data = some d := hd
 unfold bQ at hw
 rw [kW] at hw
 simp at hw
theorem OZ (h : ui f.pg b) (IA : b.cH ≤ b.length) (x : List Int) : ui f.pg (dH b f x).1 := by
 unfold dH
 split
 ·exact h.fk
 split
 ·exact h.fk
 rename_i h2
 split
 ·exact h.fk
 split
 ·exact h.fk
 rename_i h4
 have h4' : x.length = min 64 (b.length - b.cH) := Classical.byContradiction h4
 have gB : b.cH ≠ b.length := fun e => h2 (.inr e)
 have hal : b.cH % 64 = 0 := h.al.resolve_right gB
 refine ⟨?_, fun d _ => ?_⟩
 ·show (b.cH + x.length) % 64 = 0 ∨ b.cH + x.length = b.length
  omega
 show cE b b.dst * f.pg + b.cH / 64 = cE b b.dst * f.pg + (b.cH + x.length - 1) / 64 ∧ 1 ≤ b.cH + x.length
 have : (b.cH + x.length - 1) / 64 = b.cH / 64 := oM
 rw [this]
 exact ⟨rfl, oM⟩
theorem IT (h : ui p b) (c : Int) : ui p (bX b f c).1 := by
 unfold bX
 split
 ·exact h.fk
 split
 ·exact h.fk
 split
 ·exact h.fk
 split
 ·exact h.same rfl rfl rfl rfl rfl rfl (.inl rfl)
 exact h.same rfl rfl rfl rfl rfl rfl (.inl rfl)
theorem MB (h : ui p b) : ui p (ej b f).1 := by
 unfold ej
 split
 ·exact h.fk
 split
 ·exact h.fk
 exact h.same rfl rfl rfl rfl rfl rfl (.inr rfl)
theorem E8 (h : ui p b) : ui p (bJ b f).1 := by
 unfold bJ
 split
 ·exact h.fk
 split
 ·exact h.fk
 split
 ·exact h.fk
 exact h.same rfl rfl rfl rfl rfl rfl (.inl rfl)
theorem NZ (h : ui p b) : ui p (aK b f).1 := by
 unfold aK
 split
 ·exact h.fk
 split
 ·split
  ·exact h.same rfl rfl rfl rfl rfl rfl (.inl rfl)
  exact h.same rfl rfl rfl rfl rfl rfl (.inl rfl)
 split
 ·split
  ·exact h.same rfl rfl rfl rfl rfl rfl (.inl rfl)
  exact h.same rfl rfl rfl rfl rfl rfl (.inr rfl)
 split
 ·split
  ·exact h.same rfl rfl rfl rfl rfl rfl (.inl rfl)
  exact h.same rfl rfl rfl rfl rfl rfl (.inl rfl)
 exact h.fk
end
theorem uO (h : b.af = false) (hd : f.aF = false) : aq b f = b := by
 unfold aq
 rw [h, hd]
 obtain ⟨_, _, _, _, _, _, _, _, _, _, _, _, _, _⟩ := b
 simp only at h
 subst h
 rfl
theorem Fh (h : b.af = false) (hd : f.aF = false) (hs : b.slot = 2) (h0 : aV b 0 = a) (h1 : aV b 1 = 2) : cy b f = ({ b with slot := a }, f, (a : Int), 0) := by
 unfold cy
 rw [uO h hd, iN (by rw [h]; decide), iN (by rw [hs]; simp), h1, iP rfl, h0, Int.toNat_natCast]
theorem Ch (h : b.af = false) (hd : f.aF = false) {s n : Nat} {img : List Int} (hs : s ≤ 1) (hn : aV b (4 + 3 * s) = n) (yU : 1 ≤ n) (hu : b.au = false ∨ b.dst ≠ s) (hi : fv f b s n = img) (hc : aV b (5 + 3 * s) = eS img) : dr b f (s : Int) = (b, img, 0) := by
 unfold dr
 rw [uO h hd, iN (by rw [h]; decide), iN oM, Int.toNat_natCast, hn, iN (by
  rintro (e | e)
  ·omega
  rcases hu with hu | hu
  ·rw [hu] at e; cases e.1
  exact hu oM), Int.toNat_natCast, hi, hc, iN (by simp)]
theorem sT (h : bB w0 w L f) (first aa : Int) (hE : eC f first aa = 0) (hz : dU f first aa = 0) (Iw : cn L.E w L.Ap (ag .u8 f.az)) :
 Calls prog 17 #[.pointer (some ⟨L.d, 0, none⟩), .int .i64 first, .int .i64 aa] w (AS w0 w L f (dh f first aa)) :=
 (Gk h first aa hE Iw).mono (fun e w' hh => by rw [iP hz] at hh; exact hh)
theorem IP (h : bB w0 w L f) (first aa : Int) (hE : eC f first aa = 0) (hz : dU f first aa ≠ 0) (Iw : cn L.E w L.Ap (ag .u8 f.az)) :
 Calls prog 17 #[.pointer (some ⟨L.d, 0, none⟩), .int .i64 first, .int .i64 aa] w fun e w' => e = .returned (.tuple #[.pointer none, fx (dU f first aa)]) ∧ bW w w' :=
 (Gk h first aa hE Iw).mono (fun e w' hh => by rw [iN hz] at hh; exact hh)
theorem td (s n : Int) (N : Nat) (hN : (dN n 0 2000).toNat = N) (w : World) : Calls prog 11 #[.int .i64 s, .int .i64 n] w fun e w' => ∃ A, e = .returned (.slice A N N) ∧ w'.ownsRow w.heap.size 5 1 (.slice A N N) N (ag .u8 (eT s N)) ∧ bW w w' :=
 (Mk s n w).mono (fun e w' ⟨A, N', he, hn, ho, hb⟩ => by
  rw [hN] at hn
  subst hn
  exact ⟨A, he, ho, hb⟩)
theorem ZQ : eS [49, 50, 51, 52, 53, 54, 55, 56, 57] = 3421780262 := by decide +kernel
theorem Tr : Bytes [49, 50, 51, 52, 53, 54, 55, 56, 57] := by
 intro x hx
 simp only [List.mem_cons, List.not_mem_nil, or_false] at hx
 omega
theorem Kn (w8 : World) (C : Array Value) (hC : C.toList = ag .u8 [49, 50, 51, 52, 53, 54, 55, 56, 57]) (fr : Nat × Nat) : Calls prog 22 #[.slice (some ⟨w8.heap.size, 0, none⟩) 9 9] (w8.alloc (.cells C 5 fr)) fun e w' => e = .returned (.int .u32 3421780262) ∧ ∃ q, w' = (w8.alloc (.cells C 5 fr)).drewN q := by
 have hr : Rd (w8.alloc (.cells C 5 fr)) (w8.alloc (.cells C 5 fr)).heap.size (some ⟨w8.heap.size, 0, none⟩) (ag .u8 [49, 50, 51, 52, 53, 54, 55, 56, 57]) := fun _ =>
  ⟨w8.heap.size, 0, rfl, by rw [World.size_alloc]; omega, fun j u hu => by
   rw [Nat.zero_add, Joins.cell_alloc_mark_at w8 C 5 fr w8.heap.size j rfl, ← Array.getElem?_toList, hC]
   exact hu⟩
 have := nZ (some ⟨w8.heap.size, 0, none⟩) 9 9 [49, 50, 51, 52, 53, 54, 55, 56, 57] (w8.alloc (.cells C 5 fr)) hr rfl Tr oM
 rw [ZQ] at this
 exact this
theorem Km (w8 : World) (fr : Nat × Nat) : Calls prog 22 #[.slice (some ⟨w8.heap.size, 0, none⟩) 9 9] (w8.alloc (.cells #[.int .u8 49, .int .u8 50, .int .u8 51, .int .u8 52, .int .u8 53, .int .u8 54, .int .u8 55, .int .u8 56, .int .u8 57] 5 fr)) fun e w' => e = .returned (.int .u32 3421780262) ∧ ∃ q, w' = (w8.alloc (.cells #[.int .u8 49, .int .u8 50, .int .u8 51, .int .u8 52, .int .u8 53, .int .u8 54, .int .u8 55, .int .u8 56, .int .u8 57] 5 fr)).drewN q :=
 Kn w8 #[.int .u8 49, .int .u8 50, .int .u8 51, .int .u8 52, .int .u8 53, .int .u8 54, .int .u8 55, .int .u8 56, .int .u8 57] rfl fr
theorem uc (w : World) : Calls prog 5 #[] w fun e w' => e = .returned (.bool true) ∧ bW w w' := by
 have g1 := ne_nil
 have g3 := eq_nil
 obtain ⟨img, gG⟩ := ex (eT 1 70)
 have qn : img.length = 70 := by rw [← gG]; exact cS _ _
 have Lv : Bytes img := by rw [← gG]; exact iC _ _
 have gE := zK (b := 4) (p := 2) oM oM oM oM
 obtain ⟨fA, -, qH⟩ := zC (first := 0) (k := 1) gE oM oM (by show 0 + (2 * 1 + 2) ≤ (dT 4 2).ar.length; unfold dT; simp) (by show 2 ≤ 2; omega) Lv (by rw [qn]; omega) (by rw [qn]; show 70 ≤ 1 * 2 * 64; omega) (v := 9) ⟨oM, oM⟩
 obtain ⟨G, hG⟩ := ex (iJ (dT 4 2) 0 (2 * 1 + 2) 9 (eS img) img).2.1
 rw [hG] at fA qH
 obtain ⟨B, hB⟩ := ex (dh G ((0 : Nat) : Int) ((2 * 1 + 2 : Nat) : Int))
 rw [hB] at fA
 have fL : B.st.saved = [0, 2, 0, 9, (img.length : Int), eS img, 0, 0, 0] := fA.fr.sv.1
 have cO : B.af = false := by rw [fA.nb]; rfl
 have lR : B.slot = 2 := by rw [fA.nb]; rfl
 have Ov : B.au = false := by rw [fA.nb]; rfl
 have HBT : Hid (cy B G = ({ B with slot := 0 }, G, ((0 : Nat) : Int), 0)) := Fh cO fA.up.dn lR (by unfold aV; rw [fL]; rfl) (by unfold aV; rw [fL]; rfl)
 have PW : Hid (dr { B with slot := 0 } G 0 = ({ B with slot := 0 }, img, 0)) :=
  Ch (b := { B with slot := 0 }) cO fA.up.dn (s := 0) oM (n := img.length) (by show aV B 4 = _; unfold aV; rw [fL]; rfl) oM (.inl Ov) fA.im (by show aV B 5 = _; unfold aV; rw [fL]; rfl)
 have Rr : Hid (BL { B with slot := 0 } = (0, 9)) := by
  unfold BL
  rw [Hid, iN (by show ¬ (0 : Nat) = 2; omega)]
  show ((0 : Int), aV B 3) = _
  unfold aV; rw [fL]; rfl
 have gX : Hid (bU G B) := fA.ok
 have XY : Hid (bU G { B with slot := 0 }) := by
  have ho := fA.ok
  exact ⟨ho.ok, ho.sp, ho.fi, ho.bl, ho.lg, ho.br, ho.bk, ho.k1, ho.k8, ho.fw, ho.pg, by show 0 ≤ 2; omega, ho.dst, ho.DV, ho.len, ho.cH, ho.er, ho.dt, ho.page⟩
 have lV := iD fA
 have xb : Hid (G.az = []) := qH
 have uF := iD qn
 have HIB := iD Lv
 have HGG := iD hG
 have uh := iD hB
 have NC := iD (fun W => td 1 70 70 (by decide) W)
 rw [gG] at NC
 have HUP := iD gE
 have Zk : Hid (0 + (2 * 1 + 2) ≤ (dT 4 2).ar.length) := by unfold dT; simp [Hid]
 have U0 : Hid (2 ≤ (dT 4 2).pg) := by show 2 ≤ 2; omega
 have px : Hid (70 ≤ aM (dT 4 2) (2 * 1 + 2)) := by show 70 ≤ 1 * 2 * 64; omega
 clear fA fL cO lR Ov qn Lv hG hB gG gE qH
 go_enter func5, ntmps5
 go_wp2_with (fail)
 refine (Gn 4 2 4 2 rfl rfl w oM oM oM oM).mono ?_
 rintro e w1 ⟨L, rfl, hF⟩
 have HF := iD hF
 clear hF
 go_wp2_with (fail)
 refine (NC w1).mono ?_
 rintro e w2 ⟨A2, rfl, kV, dP⟩
 obtain ⟨A3, c3, e3, h31, h32, -⟩ := a9 kV
 injection e3 with e31 e32 e33
 subst e31 e33
 have ZH : Hid (gA L w2 A2 (ag .u8 img)) := tg HF (by rw [aD]; exact uF) kV
 have uf := iD (HF.ab dP)
 clear kV dP e32 h31 h32
 go_wp2_with (fail)
 refine (GI uf HUP rfl 0 1 oM oM Zk U0 9 ⟨oM, oM⟩ A2 70 70 img ZH uF oM (by unfold maxLen; omega) HIB oM px 0 4 rfl rfl).mono ?_
 rintro e w3 ⟨rfl, UJ, hO3⟩
 rw [HGG] at UJ
 have AO := iD UJ
 have jI : Hid (bW w w3) := AO.below
 clear UJ hO3
 have uD := iD (sT AO 0 4 lV.Vs lV.oe (by rw [show G.az = [] from xb]; exact cn.nil))
 rw [show dh G 0 4 = B from uh] at uD
 unfold AS at uD
 go_wp2_with (fail)
 refine uD.mono ?_
 rintro e w4 ⟨S, K, rfl, hk, hb, hD, hG, hKD, hKv⟩
 have uX := iD hk
 have e2 := wC K.D
 clear hk hb hD hG hKD hKv
 go_wp2_with (fail)
 refine (yZ uX gX).mono ?_
 rintro e w5 ⟨rfl, hk⟩
 rw [HBT] at hk ⊢
 simp only [bG]
 obtain ⟨L5, S5, K5, hA, hk⟩ := hk
 have pA := iD hk
 have uY : Hid (K5.D = K.D) := hA.d
 clear hA hk
 have TT := iD (wy pA XY 0)
 rw [uY, PW] at TT
 unfold PA at TT
 go_wp2_with (fail)
 refine TT.mono ?_
 rintro e w6 ⟨A6, n6, c6, rfl, hl6, pf, pa, kD, hk⟩
 obtain ⟨L6, S6, K6, hA, hk⟩ := hk
 have oz := iD hk
 have HD6 : Hid (K6.D = K.D) := hA.d.trans uY
 have TI := iD (kD (fun _ => False) (fun g hg => hg.elim)).rd
 have aar : n6 = 70 := by rw [← hl6]; exact uF
 subst aar
 have XJ := iD (Ad oz XY)
 rw [HD6, Rr] at XJ
 simp only [bG]
 clear hA hk kD hl6 pf pa
 go_wp2_with (fail)
 refine XJ.mono ?_
 rintro e w7 ⟨rfl, hb⟩
 have P8 : Hid (bW w w7) := oz.st.fl.below.trans (hb.mono oz.st.fl.below.size)
 have tm := iD ((TI.below hb cV).more hb.size)
 clear hb
 have eX : Hid (∀ W, bW w7 W → (convert 32 9 (.slice A6 70 c6)).run prog W = .ok (.string (strOfNums img)) W) := fun W hb => lO (tm.below hb cV) uF
 have k0 := eX w7 bV
 have k1 := eX w7.drew (Below.drew bV)
 have P4 : Hid (∀ W, bW w7 W → Calls prog 11 #[.int .i64 1, .int .i64 70] W fun e w' => ∃ A, e = .returned (.slice A 70 70) ∧ Rd w' w'.heap.size A (ag .u8 img) ∧ bW w7 w') := fun W hb => (NC W).mono (fun e w' ⟨A, he, ho, dP⟩ => ⟨A, he, ku ho, hb.trans (dP.mono hb.size)⟩)
 go_wp2_with (fail)
 go_region_held (fun w' => (convert 32 9 (.slice A6 70 c6)).run prog w' = .ok (.string (strOfNums img)) w') (first | exact k0 | exact k1 | exact eX _ kG | exact eX _ (kG.alloc kG.size _) | exact eX _ (Below.drewN (kG.alloc kG.size _) _)) (first
  | (go_at_call 11; with_reducible refine (P4.out _ (Below.drew bV)).mono ?_; rintro e w8 ⟨A8, rfl, hr8, kG⟩; have t7 : (convert 32 9 (.slice A8 70 70)).run prog w8 = .ok (.string (strOfNums img)) w8 := lO hr8 uF.out; have k3 := Joins.run_convert_bytes_const_at (P := prog) w8 32 5 #[.int .u8 49, .int .u8 50, .int .u8 51, .int .u8 52, .int .u8 53, .int .u8 54, .int .u8 55, .int .u8 56, .int .u8 57] 9 9 w8.heap.size rfl underlying32 underlying5)
  | (go_at_call 22; with_reducible refine (Km _ _).mono ?_; rintro e w9 ⟨rfl, q9, rfl⟩))
 all_goals
  go_wp2
  go_ret
  exact ⟨rfl, P8.trans ((Below.drewN (kG.alloc kG.size _) _).mono P8.size)⟩
theorem Ji (ho : bU f b) (hf : f.ok) (v n : Int) : bU f (cz b f v n).1 := by
 unfold cz
 split
 ·exact gZ ho
 split
 ·exact gZ ho
 split
 ·exact gZ ho
 split
 ·exact gZ ho
 rename_i hr
 have qG : 1 ≤ v ∧ v ≤ 1073741824 := Classical.byContradiction fun e => hr (.inl e)
 have nQ : 1 ≤ n ∧ n ≤ (aM f b.aa : Nat) := Classical.byContradiction fun e => hr (.inr e)
 have h' := gZ ho
 refine ⟨h'.ok, h'.sp, h'.fi, h'.bl, h'.lg, h'.br, h'.bk, h'.k1, h'.k8, h'.fw, h'.pg, h'.slot, by show 1 - (aV b 0).toNat ≤ 1; omega, ⟨by show 0 ≤ v; omega, by show v ≤ 1073741824; exact qG.2⟩, by show n.toNat ≤ aM f b.aa; omega, Nat.zero_le _, fun e he => ?_, h'.dt, h'.page⟩
 have he' : e ∈ (List.range b.k).map fun (i : Nat) => ((cE b (1 - (aV b 0).toNat) + i : Nat) : Int) := he
 obtain ⟨i, hi, rfl⟩ := List.mem_map.1 he'
 have hi := List.mem_range.1 hi
 have h1 : (1 - (aV b 0).toNat) * b.k ≤ 1 * b.k := Nat.mul_le_mul_right _ oM
 have h2 := ho.fw
 have h3 := ho.bk
 have h4 := hf.b2
 unfold cE
 omega
structure Ue (b : Bk) : Prop where
 u1 : b.au = true → b.bh = false ∧ aV b 1 = 2 ∧ (b.dst : Int) = 1 - aV b 0
 u2 : b.au = false → b.erase = [] ∧ b.data = none
 er : ∀ e ∈ b.erase, ((cE b b.dst : Nat) : Int) ≤ e ∧ e < ((cE b b.dst + b.k : Nat) : Int)
structure jH (f : Fl) (b : Bk) (n : Int) : Prop where
 ok : bU f b
 fo : f.ok
 fl : ∃ s o, xU f s o ∧ s.aw = b.st.aw ∧ s.first = b.st.first ∧ s.aa = b.st.aa ∧ s.seq ≤ n
 q : ui f.pg b
 up : b.af = false → jJ f b n ∧ Ue b
theorem jH.of (h : jJ f b n) (q : ui f.pg b) (u : b.af = false → Ue b) : jH f b n := by
 obtain ⟨o, ho⟩ := h.JM
 exact ⟨h.ok, h.fo, ⟨b.st, o, ho, rfl, rfl, rfl, h.sq⟩, q, fun hb => ⟨h, u hb⟩⟩
theorem jH.more (h : jH f b n) (hm : n ≤ m) : jH f b m := by
 obtain ⟨s, o, h1, h2, h3, h4, h5⟩ := h.fl
 exact ⟨h.ok, h.fo, ⟨s, o, h1, h2, h3, h4, Int.le_trans h5 hm⟩, h.q, fun hb => ⟨(h.up hb).1.more hm, (h.up hb).2⟩⟩
structure G8 (f f' : Fl) (b : Bk) : Prop where
 sh : ep f f'
 pg : ∀ x, cE b (aV b 0).toNat * f.pg ≤ x → x < (cE b (aV b 0).toNat + b.k) * f.pg → aB f' x = aB f x
theorem G8.refl (f : Fl) (b : Bk) : G8 f f b := ⟨ep.refl f, fun _ _ _ => rfl⟩
section
variable {f : Fl} {b : Bk} {n : Int}
theorem Ue.fk (h : Ue b) : Ue (aq b f) := ⟨h.u1, h.u2, h.er⟩
theorem jH.fk (h : jH f b n) : jH f (aq b f) n :=
 ⟨gZ h.ok, h.fo, h.fl, h.q.fk, fun hb => ⟨(h.up (fS hb).1).1.fk, (h.up (fS hb).1).2.fk⟩⟩
theorem jH.two (h : jH f b n) : (aq b f).af = true ∨ ((aq b f).af = false ∧ aq b f = b ∧ b.af = false ∧ f.aF = false ∧ jJ f b n ∧ Ue b) := by
 cases hb : (aq b f).af with
 | true => exact .inl rfl
 | false =>
  obtain ⟨h1, h2⟩ := fS hb
  exact .inr ⟨rfl, uO h1 h2, h1, h2, (h.up h1).1, (h.up h1).2⟩
theorem ve (h : ¬ bQ b = true) : b.erase = [] ∧ b.data = none ∧ b.bh = false := by
 unfold bQ at h
 cases he : b.erase with
 | cons e l => rw [he] at h; simp at h
 | nil =>
  cases hd : b.data with
  | some d => rw [hd] at h; simp at h
  | none =>
   rw [he, hd] at h
   refine ⟨rfl, rfl, by simpa using h⟩
theorem bU.Qk (h : bU f b) : (aV b 0 = 0 ∨ aV b 0 = 1) ∧ 0 ≤ aV b 1 ∧ aV b 1 ≤ 2 := by
 obtain ⟨a, t, k, v0, l0, c0, v1, l1, c1, hv, q1, q2, _⟩ := h.vec
 unfold aV
 rw [hv]
 simp only [List.getElem?_cons_zero, List.getElem?_cons_succ, Option.getD_some]
 omega
theorem Pp (h : jH f b n) (v l : Int) : jH f (cz b f v l).1 n := by
 rcases h.two with hb | ⟨hb, hr, h1, h2, hJ, hU⟩
 ·unfold cz
  rw [iP hb]
  exact h.fk
 refine .of (Mu hJ (fun v l => Ji hJ.ok hJ.fo v l) v l) (Mt h.q v l) (fun _ => ?_)
 unfold cz
 rw [iN (by rw [hb]; decide)]
 split
 ·exact hU.fk
 rename_i hc
 split
 ·exact hU.fk
 rename_i hw
 split
 ·exact hU.fk
 obtain ⟨w1, w2, w3⟩ := ve hw
 obtain ⟨s1, s2, s3⟩ := hJ.ok.Qk
 have hs : aV b 1 = 2 := Classical.byContradiction fun e => hc (.inr (.inl e))
 refine ⟨fun _ => ⟨w3, hs, ?_⟩, fun e => (by cases e), fun e he => ?_⟩
 ·show ((1 - (aV b 0).toNat : Nat) : Int) = 1 - aV b 0
  omega
 have he' : e ∈ (List.range b.k).map fun (i : Nat) => ((cE b (1 - (aV b 0).toNat) + i : Nat) : Int) := he
 obtain ⟨i, hi, rfl⟩ := List.mem_map.1 he'
 have hi := List.mem_range.1 hi
 show ((cE b (1 - (aV b 0).toNat) : Nat) : Int) ≤ _ ∧ _ < ((cE b (1 - (aV b 0).toNat) + b.k : Nat) : Int)
 omega
theorem Tm (h : jH f b n) {x : List Int} (hx : Bytes x) : jH f (dH b f x).1 n := by
 rcases h.two with hb | ⟨hb, hr, h1, h2, hJ, hU⟩
 ·unfold dH
  rw [iP hb]
  exact h.fk
 refine .of (O0 hJ hx) (OZ h.q hJ.ok.cH x) (fun _ => ?_)
 unfold dH
 rw [iN (by rw [hb]; decide)]
 split
 ·exact hU.fk
 rename_i hc
 split
 ·exact hU.fk
 split
 ·exact hU.fk
 refine ⟨hU.u1, fun e => absurd (.inl e) hc, hU.er⟩
theorem Kz (he : b.erase = []) (hd : b.data = none) (hu : b.au = false) : Ue (jw b s f) :=
 ⟨fun e => (by have e' : b.au = true := e; rw [hu] at e'; cases e'), fun _ => ⟨he, hd⟩, fun e hm => (by have e' : e ∈ b.erase := hm; rw [he] at e'; cases e')⟩
theorem LR (h : jH f b n) (hc : 0 ≤ c ∧ c < 4294967296) : jH f (bX b f c).1 n := by
 rcases h.two with hb | ⟨hb, hr, h1, h2, hJ, hU⟩
 ·unfold bX
  rw [iP hb]
  exact h.fk
 refine .of (IU hJ hc) (IT h.q c) (fun _ => ?_)
 unfold bX
 rw [iN (by rw [hb]; decide)]
 split
 ·exact hU.fk
 split
 ·exact hU.fk
 rename_i hw
 obtain ⟨w1, w2, w3⟩ := ve hw
 split
 ·exact ⟨fun e => (by cases e), fun _ => ⟨w1, w2⟩, fun e hm => (by have e' : e ∈ b.erase := hm; rw [w1] at e'; cases e')⟩
 exact Kz (b := { aq b f with au := false }) w1 w2 rfl
theorem Pv (h : jH f b n) : jH f (ej b f).1 n := by
 rcases h.two with hb | ⟨hb, hr, h1, h2, hJ, hU⟩
 ·unfold ej
  rw [iP hb]
  exact h.fk
 refine .of (MC hJ) (MB h.q) (fun _ => ?_)
 unfold ej
 rw [iN (by rw [hb]; decide)]
 split
 ·exact hU.fk
 exact ⟨fun e => (by cases e), fun _ => ⟨rfl, rfl⟩, fun e hm => (by cases hm)⟩
theorem I7 (h : jH f b n) : jH f (bJ b f).1 n := by
 rcases h.two with hb | ⟨hb, hr, h1, h2, hJ, hU⟩
 ·unfold bJ
  rw [iP hb]
  exact h.fk
 refine .of (E9 hJ) (E8 h.q) (fun _ => ?_)
 unfold bJ
 rw [iN (by rw [hb]; decide)]
 split
 ·exact hU.fk
 rename_i hc
 split
 ·exact hU.fk
 rename_i hw
 obtain ⟨w1, w2, w3⟩ := ve hw
 refine Kz (b := aq b f) w1 w2 ?_
 cases hu : b.au with
 | false => exact hu
 | true =>
  have := (hU.u1 hu).2.1
  exact absurd (Classical.byContradiction fun e => hc (.inr e)) (show ¬ aV b 1 = (b.slot : Int) by intro e; exact hc (.inl oM))
theorem Ok (h : jH f b n) (s : Int) : jH f (dr b f s).1 n := by rw [qj]; exact h.fk
theorem oq (b : Bk) (f : Fl) : ep f (cy b f).2.1 := by
 unfold cy
 split
 ·exact ep.refl f
 split
 ·exact ep.refl f
 split
 ·exact ep.refl f
 simp only
 generalize (if 0 < aV b 2 then aU b.st 2 (aV b 2 - 1) else aU b.st 1 2) = s
 split
 ·exact jt s f
 exact jt s f
theorem Tt (h : jH f b n) : jH (cy b f).2.1 (cy b f).1 (n + 1) := by
 rcases h.two with hb | ⟨hb, hr, h1, h2, hJ, hU⟩
 ·unfold cy
  rw [iP hb]
  exact h.fk.more oM
 have iA : (cy b f).2.1.pg = f.pg := (oq b f).p
 refine .of (Pn hJ) (by rw [iA]; exact Pm h.q) ?_
 unfold cy
 rw [iN (by rw [hb]; decide)]
 split
 ·exact fun _ => hU.fk
 split
 ·exact fun _ => ⟨hU.u1, hU.u2, hU.er⟩
 rename_i hs
 have hu : b.au = false := by
  cases hu : b.au with
  | false => rfl
  | true => exact absurd (hU.u1 hu).2.1 hs
 obtain ⟨w1, w2⟩ := hU.u2 hu
 simp only
 generalize (if 0 < aV b 2 then aU b.st 2 (aV b 2 - 1) else aU b.st 1 2) = s
 split
 ·exact fun e => (by cases e)
 exact fun _ => ⟨fun e => (by have e' : b.au = true := e; rw [hu] at e'; cases e'), fun _ => ⟨w1, w2⟩, fun e hm => (by have e' : e ∈ b.erase := hm; rw [w1] at e'; cases e')⟩
theorem gq (b : Bk) (f : Fl) : ep f (aK b f).2.1 := by
 unfold aK
 split
 ·exact ep.refl f
 split
 ·split
  ·exact iW f _
  exact iW f _
 split
 ·split
  ·exact jy f _ _
  exact jy f _ _
 split
 ·split
  ·exact gn b.st f
  exact gn b.st f
 exact ep.refl f
theorem RQ (h : jH f b n) : jH (aK b f).2.1 (aK b f).1 (n + 1) := by
 rcases h.two with hb | ⟨hb, hr, h1, h2, hJ, hU⟩
 ·unfold aK
  rw [iP hb]
  exact h.fk.more oM
 refine .of (F1 hJ) (by rw [(gq b f).p]; exact NZ h.q) ?_
 unfold aK
 rw [iN (by rw [hb]; decide)]
 split
 ·rename_i e l he
  have hu : b.au = true := by
   cases hu : b.au with
   | true => rfl
   | false =>
    have := (hU.u2 hu).1
    rw [he] at this
    cases this
  split
  ·exact fun e => (by cases e)
  exact fun _ => ⟨hU.u1, fun e' => (by have e2 : b.au = false := e'; rw [hu] at e2; cases e2), fun e' hm => hU.er e' (by rw [he]; exact List.mem_cons_of_mem _ hm)⟩
 rename_i he
 split
 ·split
  ·exact fun e => (by cases e)
  exact fun _ => ⟨hU.u1, fun e => ⟨(hU.u2 e).1, rfl⟩, hU.er⟩
 rename_i hd
 split
 ·rename_i xO
  have hu : b.au = false := by
   cases hu : b.au with
   | false => rfl
   | true =>
    have := (hU.u1 hu).1
    rw [xO] at this
    cases this
  split
  ·exact fun e => (by cases e)
  exact fun _ => ⟨fun e => (by have e' : b.au = true := e; rw [hu] at e'; cases e'), fun _ => ⟨he, hd⟩, fun e hm => (by have e' : e ∈ b.erase := hm; rw [he] at e'; cases e')⟩
 exact fun _ => hU.fk
theorem bU.qh (k : bU f b) (hp : g.pg = f.pg) (hw : g.ar.length = f.ar.length) : bU g b := by
 have hz : aM g b.aa = aM f b.aa := by unfold aM; rw [hp]
 exact ⟨k.ok.shape ⟨hp, hw⟩, by rw [hz]; exact k.sp, k.fi, k.bl, k.lg, k.br, k.bk, k.k1, k.k8, by rw [hw]; exact k.fw, by rw [hp]; exact k.pg, k.slot, k.dst, k.DV, by rw [hz]; exact k.len, k.cH, k.er, k.dt, k.page⟩
theorem jJ.be (k : jJ f b n) {p : List Int} (hp : Bytes p) (hm : m < 9223372036854775808) : jJ (fM f m p) b n := by
 have dc := nY (n := m) k.fo hp hm
 obtain ⟨o, ho⟩ := k.JM
 exact ⟨k.ok.qh rfl rfl, dc, fun hb hd => ⟨(k.lv hb hd).1.fl (g := fM f m p) rfl rfl rfl rfl dc, (k.lv hb hd).2⟩, fun hb => k.dn hb, ⟨o, ho.be k.fo hp hm⟩, k.Ag, k.Ge, k.sq, k.ul⟩
theorem Tj (h : jH f b n) {p : List Int} (hp : Bytes p) (hm : m < 9223372036854775808) : jH (fM f m p) b n := by
 obtain ⟨s, o, h1, h2⟩ := h.fl
 exact ⟨h.ok.qh rfl rfl, nY h.fo hp hm, ⟨s, o, h1.be h.fo hp hm, h2⟩, h.q, fun hb => ⟨(h.up hb).1.be hp hm, (h.up hb).2⟩⟩
theorem zr (h : jH f b n) : jH (aQ f) b (n + 1) ∧ eC (aQ f) (b.first : Int) (b.aa : Int) = 0 ∧ jH (aQ f) (dh (aQ f) (b.first : Int) (b.aa : Int)) (n + 1) := by
 obtain ⟨s, o, h1, h2, h3, h4, h5⟩ := h.fl
 obtain ⟨i1, i2, i3, i4⟩ := ik f
 have YU := me h.fo
 have gT : s.aw = aH (aM f b.aa) := h2.trans h.ok.sp
 have fh : s.aw.any fy = false := by rw [gT]; exact ic _
 obtain ⟨a1, a2, a3, a4⟩ := h1.again h.fo fh
 have a5 := h1.seq h.fo fh h5
 have YX : f.aF = false → aQ f = f := fun e => tF e
 obtain ⟨g, hg⟩ := ex (aQ f)
 rw [hg] at i1 i2 i3 i4 a1 a2 a3 a4 a5 YU YX ⊢
 have hsz : aM g b.aa = aM f b.aa := by unfold aM; rw [i2]
 rw [gT, h3, h4, h.ok.fi, h.ok.bl] at a1 a2 a3 a5
 rw [gT, h3, h4, h.ok.fi, h.ok.bl] at a4
 have qX : eC g (b.first : Int) (b.aa : Int) = 0 := by
  have := h.ok.bk
  have := h.ok.k1
  have := h.ok.k8
  have := h.ok.fw
  have := h.ok.pg
  unfold eC
  rw [iN (by rw [i4]; decide), iN oM, iN (by rw [i3]; omega), iN (by rw [i2]; omega)]
 have Nk : dh g (b.first : Int) (b.aa : Int) = qg (aJ g b.first 2 (aH (aM f b.aa))) b.first b.aa := by
  unfold dh
  rw [Int.toNat_natCast, Int.toNat_natCast, hsz]
 have Lz := oO YU qX
 have hfr := tQ (f := g) (fi := b.first) (bl := 2) (sp := aH (aM f b.aa)) (iB (by
  have := ef h.fo h.ok.k8
  have e : 2 * b.k + 2 = b.aa := h.ok.bk.symm
  rw [e] at this
  omega)) a1 a2
 rw [Nk] at Lz
 obtain ⟨z1, z2⟩ := hfr.sv.sH
 have hJ : jJ g (qg (aJ g b.first 2 (aH (aM f b.aa))) b.first b.aa) (n + 1) :=
  ⟨Lz, YU, fun _ _ => ⟨z1, z2.symm⟩, fun _ => i4, ⟨_, hfr.sv.JM⟩, fun e he => (by cases he), fun d hd => (by cases hd), a5, fun e => (by cases e)⟩
 refine ⟨⟨h.ok.qh i2 (by rw [i3]), YU, ⟨_, _, hfr.sv.JM, ?_, ?_, ?_, a5⟩, by rw [i2]; exact h.q, fun hb => ?_⟩, qX, ?_⟩
 ·exact a4.aw.trans h2
 ·exact a4.first.trans h3
 ·exact a4.aa.trans h4
 ·obtain ⟨k1, k2⟩ := h.up hb
  rw [YX (k1.dn hb)]
  exact ⟨k1.more oM, k2⟩
 rw [Nk]
 exact .of hJ (KX _ _ _ _) (fun _ => ⟨fun e => (by cases e), fun _ => ⟨rfl, rfl⟩, fun e he => (by cases he)⟩)
theorem vn {k d x pg : Nat} (ha : a ≤ 1) (hd : d = 1 - a) (h1 : (B + a * k) * pg ≤ x) (h2 : x < (B + a * k + k) * pg) (h3 : (B + d * k) * pg ≤ x) (h4 : x < (B + d * k + k) * pg) : False := by
 subst hd
 rcases (by omega : a = 0 ∨ a = 1) with rfl | rfl
 ·simp only [Nat.zero_mul, Nat.add_zero, Nat.sub_zero, Nat.one_mul] at *
  omega
 simp only [Nat.sub_self, Nat.zero_mul, Nat.add_zero, Nat.one_mul] at *
 omega
theorem RR (h : jH f b n) : G8 f (aK b f).2.1 b := by
 refine ⟨gq b f, fun x Ez yO => ?_⟩
 rcases h.two with hb | ⟨hb, hr, h1, h2, hJ, hU⟩
 ·unfold aK
  rw [iP hb]
 obtain ⟨s1, s2, s3⟩ := hJ.ok.Qk
 have Wl : b.au = true → b.dst = 1 - (aV b 0).toNat := fun hu => by
  have := (hU.u1 hu).2.2
  omega
 have ha : (aV b 0).toNat ≤ 1 := oM
 unfold aK
 rw [iN (by rw [hb]; decide)]
 split
 ·rename_i e l he
  have hu : b.au = true := by
   cases hu : b.au with
   | true => rfl
   | false =>
    have := (hU.u2 hu).1
    rw [he] at this
    cases this
  have hd := Wl hu
  obtain ⟨e1, e2⟩ := hU.er e (by rw [he]; exact List.mem_cons_self)
  obtain ⟨E, rfl⟩ := Int.eq_ofNat_of_zero_le (a := e) oM
  have qZ := qw h.fo (B := E) (x := x) (fun hc => by
   have i1 : cE b b.dst ≤ E := oM
   have i2 : E + 1 ≤ cE b b.dst + b.k := oM
   have j1 := Nat.mul_le_mul_right f.pg i1
   have j2 := Nat.mul_le_mul_right f.pg i2
   rw [Nat.add_mul E 1, Nat.one_mul] at j2
   unfold cE at *
   exact vn ha hd Ez yO oM oM)
  split
  ·exact qZ
  exact qZ
 split
 ·rename_i d vV
  have hu : b.au = true := by
   cases hu : b.au with
   | true => rfl
   | false =>
    have := (hU.u2 hu).2
    rw [vV] at this
    cases this
  have hd := Wl hu
  obtain ⟨q1, q2⟩ := h.q.pg d vV
  have hl := (hJ.ok.dt d vV).1
  have IA := hJ.ok.cH
  have Uz := hJ.ok.len
  have gB : x ≠ b.page := fun e => by
   subst e
   have hs : aM f b.aa = b.k * f.pg * 64 := rfl
   rw [hs] at Uz
   have i1 : (b.cH - 1) / 64 < b.k * f.pg := oM
   unfold cE at *
   refine vn ha hd Ez yO ?_ ?_
   ·rw [q1]; exact Nat.le_add_right _ _
   rw [q1, Nat.add_mul (b.first + 2 + b.dst * b.k) b.k]; omega
  have qZ := sE h.fo (P := b.page) (x := x) (b := d) hl gB
  split
  ·exact qZ
  exact qZ
 split
 ·have qZ := yp h.fo hJ.ok.ok (x := x) (by
   right
   rw [hJ.ok.fi, hJ.ok.bl]
   have : b.first + 2 ≤ cE b (aV b 0).toNat := by unfold cE; omega
   have := Nat.mul_le_mul_right f.pg this
   omega)
  split
  ·exact qZ
  exact qZ
 rfl
theorem Tu (h : jH f b n) : G8 f (cy b f).2.1 b := by
 refine ⟨oq b f, fun x Ez yO => ?_⟩
 rcases h.two with hb | ⟨hb, hr, h1, h2, hJ, hU⟩
 ·unfold cy
  rw [iP hb]
 obtain ⟨s1, s2, s3⟩ := hJ.ok.Qk
 unfold cy
 rw [iN (by rw [hb]; decide)]
 split
 ·rfl
 split
 ·rfl
 simp only
 obtain ⟨s, hs⟩ := ex (if 0 < aV b 2 then aU b.st 2 (aV b 2 - 1) else aU b.st 1 2)
 rw [hs]
 have VP : bC f s ∧ s.first = b.st.first ∧ s.aa = b.st.aa := by
  have hk := hJ.ok.vec
  rw [← hs]
  split
  ·have := eG b.st 2 (aV b 2 - 1)
   refine ⟨eH hJ.ok.ok ?_, this.first, this.aa⟩
   obtain ⟨a, t, k, v0, l0, c0, v1, l1, c1, hv, q1, q2, q3, _⟩ := hk
   unfold aV dI
   rw [hv]
   simp only [List.getElem?_cons_zero, List.getElem?_cons_succ, Option.getD_some]
   omega
  have := eG b.st 1 2
  exact ⟨eH hJ.ok.ok (by unfold dI; omega), this.first, this.aa⟩
 have qZ := (tZ h.fo VP.1 (x := x) (by
  right
  rw [VP.2.1, VP.2.2, hJ.ok.fi, hJ.ok.bl]
  have : b.first + 2 ≤ cE b (aV b 0).toNat := by unfold cE; omega
  have := Nat.mul_le_mul_right f.pg this
  omega)).1
 split
 ·exact qZ
 exact qZ
end
def ba (r : Rb) (b : Bk) : Array Value := #[.int .i64 b.first, .int .i64 b.aa, .int .i64 b.st.first, .int .i64 b.st.aa, .slice r.q.Q1 b.st.aw.length r.q.c1, .slice r.q.Q2 b.st.aj.length r.q.c2, .slice r.q.Q3 b.st.saved.length r.q.c3, .int .i64 b.st.seq, .int .i64 b.st.block, .int .i64 b.st.slot, .slice r.q.Q4 r.q.n4 r.q.c4, .slice r.q.Q5 r.q.n5 r.q.c5, .int .i64 r.q.pg, .int .i64 r.q.er, .int .i64 r.q.nb, .int .i64 r.q.ns, .bool b.st.af,
 .int .i64 b.slot, .bool b.af, .bool b.au, .int .i64 b.dst, .int .i64 b.version, .int .i64 b.length, .int .i64 b.cH, .slice r.E r.ne r.ce, .slice r.P r.np r.cp]
theorem Tv (r : Rb) (b : Bk) : .agg (ba r b) = r.v b := rfl
theorem bD (r : Rb) (b : Bk) : (ba r b).size = 26 := rfl
theorem eY (r : Rb) (b : Bk) : (ba r b).all (·.oneCell') = true := by simp [ba, Value.oneCell']
theorem Xk (r : Rb) (b : Bk) : (ba r b).extract 2 17 = sa r.q b.st := rfl
theorem Tw (r : Rb) (b : Bk) (q : Qv) (s : St) : F4 (ba r b) 2 (sa q s).toList = ba { r with q := q } { b with st := s } := rfl
structure gW (X : Nat → Prop) (B : Nat) (w : World) (r : Rb) (b : Bk) (p : Nat) : Prop where
 v : iE X w r.q b.st p
 er : b.af = false → QS w 3 B (.slice r.E r.ne r.ce) b.erase ∧ b.erase.length = r.ne
 dt : b.af = false → (b.data = none ∧ r.P = none ∧ r.np = 0 ∧ r.cp = 0) ∨ ∃ d g o, b.data = some d ∧ r.P = some ⟨g, o, none⟩ ∧ cn X w r.P (ag .u8 d) ∧ d.length = r.np ∧ r.np ≤ r.cp ∧ r.cp ≤ maxLen
section
variable {X : Nat → Prop} {B : Nat} {w w' : World} {r : Rb} {b : Bk} {p : Nat}
theorem gW.below (h : gW X B w r b p) (hb : bW w w') : gW X B w' r b p :=
 ⟨h.v.below hb, fun e => ⟨(h.er e).1.block (fun g hg => hb.block g ((h.er e).1.lt hg).2), (h.er e).2⟩, fun e => by
  rcases h.dt e with h1 | ⟨d, g, o, h1, h2, h3, h4⟩
  ·exact .inl h1
  exact .inr ⟨d, g, o, h1, h2, h3.below hb, h4⟩⟩
theorem gW.ao (h : gW X B w r b p) (hb : ah Y w w') (hY : ∀ g, Y g → X g) (hE : ∀ g, (Value.slice r.E r.ne r.ce).ownBlock = some g → ¬ Y g) : gW X B w' r b p :=
 ⟨h.v.ao (hb.more hY), fun e => ⟨(h.er e).1.block (fun g hg => hb.block g ((h.er e).1.lt hg).2 (hE g hg)), (h.er e).2⟩, fun e => by
  rcases h.dt e with h1 | ⟨d, g, o, h1, h2, h3, h4⟩
  ·exact .inl h1
  exact .inr ⟨d, g, o, h1, h2, h3.ao (hb.more hY), h4⟩⟩
theorem gW.dS (h : gW X B w r b p) (hY : ∀ b, b < w.heap.size → Y b → X b) : gW Y B w r b p :=
 ⟨h.v.dS hY, h.er, fun e => by
  rcases h.dt e with h1 | ⟨d, g, o, h1, h2, h3, h4⟩
  ·exact .inl h1
  exact .inr ⟨d, g, o, h1, h2, h3.dS hY, h4⟩⟩
theorem gW.fk (h : gW X B w r b p) (f : Fl) : gW X B w r (aq b f) p :=
 ⟨h.v, fun e => h.er (fS e).1, fun e => h.dt (fS e).1⟩
theorem gW.with {c : Bk} (h : gW X B w r b p) (hs : c.st = b.st) (he : c.erase = b.erase) (hd : c.data = b.data) (hb : c.af = false → b.af = false) : gW X B w r c p :=
 ⟨by rw [hs]; exact h.v, fun e => by rw [he]; exact h.er (hb e), fun e => by rw [hd]; exact h.dt (hb e)⟩
theorem gW.dead {c : Bk} {r' : Rb} (hv : iE X w r'.q c.st p) (hb : c.af = true) : gW X B w r' c p :=
 ⟨hv, fun e => (by rw [hb] at e; cases e), fun e => (by rw [hb] at e; cases e)⟩
end
theorem To (C C1 F : Array Value) (hC : C.size = 26) (jf : C1.size = 26) (hF : F.size = 6) (lW : C1.all (·.oneCell') = true) (b1 o1 z : Bool) (c18 : C[18]? = some (.bool b1)) (f3 : F[3]? = some (.bool o1)) (hz : (b1 || o1) = z) (e1 : C.setIfInBounds 18 (.bool z) = C1) (g18 : C1[18]? = some (.bool z)) (w : World) :
 Calls prog 87 #[.agg C, .agg F] w fun e w' => e = .returned (.tuple #[.agg C1, .bool z]) ∧ bW w w' := by
 obtain ⟨W, hW⟩ := ex (((w.alloc (.cells C 45)).alloc (.cells F 35)).alloc (.cells zB 45))
 have H0 := iD (Fr.three hW)
 have HS := iD hC
 have l4 := iD jf
 have uC := iD hF
 have iL := iD lW
 have uH := iD c18
 have AO := iD f3
 have Dn := iD e1
 have Yg := iD g18
 clear hC jf hF lW c18 f3 e1 g18
 have d18 := H0.cell0 18 uH
 have k18 := H0.sS 18
 have d3 := H0.oh 3 AO
 go_enter func87, ntmps87
 go_upto_region 1 with (fail)
 try rw [hW]
 clear hW
 have vW : ((b1 = true ∧ z = true) ∨ (b1 = false ∧ o1 = z)) := by cases b1 <;> simp_all
 clear hz
 rcases vW with ⟨rfl, rfl⟩ | ⟨rfl, rfl⟩
 ·go_upto_region 2 with (fail)
  clear d18 k18 d3
  have H2 := iD (H0.iF 18 (.bool true))
  rw [Dn] at H2
  generalize (W.setCell ⟨w.heap.size, 18, none⟩ (.bool true)) = w2 at H2 ⊢
  have H3 := iD (H2.ab fY)
  refine wp_region_held (S := fun w' => w'.heap[w.heap.size]? = some (.cells C1 45 (0, 0))) (by kernel_rfl) ?_
  refine tL 0 _ rfl (iQ (fun _ hS => hS) l4) H3.aE ?_
  refine vP 1 w.heap.size 18 H3.aE ?_
  refine tL 2 _ rfl (yC fun _ hS => gQ hS Yg) H3.aE ?_
  have H4 := iD (H3.N3 C1)
  refine cQ (i := 3) (by kernel_rfl) rfl (by rfl) rfl 45 _ _ rfl (w.heap.size + 2) C1 _ rfl rfl 45 H3.eU (gJ l4) ((rfl : zB.size = 26).trans l4.symm) iL H4.aE ?_
  refine tV 4 (.bool true) H4.aE ?_
  refine wD ?_
  go_wp2
  (try simp only [Exit.inBlock, Exit.then])
  refine rI rfl H4.eU (gJ l4) ⟨rfl, H4.below⟩
 go_upto_region 2 with (fail)
 clear d18 k18 d3
 have H2 := iD (H0.iF 18 (.bool o1))
 rw [Dn] at H2
 generalize (W.setCell ⟨w.heap.size, 18, none⟩ (.bool o1)) = w2 at H2 ⊢
 have H3 := iD (H2.ab fY)
 refine wp_region_held (S := fun w' => w'.heap[w.heap.size]? = some (.cells C1 45 (0, 0))) (by kernel_rfl) ?_
 refine tL 0 _ rfl (iQ (fun _ hS => hS) l4) H3.aE ?_
 refine vP 1 w.heap.size 18 H3.aE ?_
 refine tL 2 _ rfl (yC fun _ hS => gQ hS Yg) H3.aE ?_
 have H4 := iD (H3.N3 C1)
 refine cQ (i := 3) (by kernel_rfl) rfl (by rfl) rfl 45 _ _ rfl (w.heap.size + 2) C1 _ rfl rfl 45 H3.eU (gJ l4) ((rfl : zB.size = 26).trans l4.symm) iL H4.aE ?_
 refine tV 4 (.bool o1) H4.aE ?_
 refine wD ?_
 go_wp2
 (try simp only [Exit.inBlock, Exit.then])
 refine rI rfl H4.eU (gJ l4) ⟨rfl, H4.below⟩
theorem fV (r : Rb) (b : Bk) (x : Rc) (g : Fl) (w : World) : Calls prog 87 #[.agg (ba r b), .agg (xa x g)] w fun e w' => e = .returned (.tuple #[.agg (ba r (aq b g)), .bool (aq b g).af]) ∧ bW w w' :=
 To (ba r b) (ba r (aq b g)) (xa x g) rfl rfl rfl (eY _ _) b.af g.aF (aq b g).af rfl rfl rfl rfl rfl w
theorem RI (C : Array Value) (E P Q : Option Addr) (ne ce np cp n5 c5 : Nat) (hP : (P = none ∧ np = 0 ∧ cp = 0) ∨ ∃ g o, P = some ⟨g, o, none⟩) (Xi : C[24]? = some (.slice E ne ce)) (Xh : C[25]? = some (.slice P np cp)) (rZ : C[11]? = some (.slice Q n5 c5)) (w : World) :
 Calls prog 88 #[.agg C] w fun e w' => e = .returned (.bool (decide (0 < ne) || (P.isSome || decide (0 < n5)))) ∧ bW w w' := by
 obtain ⟨W, hW⟩ := ex (w.alloc (.cells C 45))
 have H0 := iD (Fr.one hW)
 have d24 := H0.cell0 24 Xi
 have d25 := H0.cell0 25 Xh
 have d11 := H0.cell0 11 rZ
 clear Xi Xh rZ
 by_cases h1 : 0 < ne
 ·have JY : (0 : Int) < (ne : Int) := oM
  rw [decide_eq_true h1]
  clear hP
  go_enter func88, ntmps88
  go_wp2
  try rw [hW]
  go_ret
  exact ⟨rfl, H0.below⟩
 have JY : ¬ ((0 : Int) < (ne : Int)) := oM
 rw [decide_eq_false h1]
 rcases hP with ⟨rfl, rfl, rfl⟩ | ⟨g, o, rfl⟩
 ·have Dx : (binOp .neq 32 (.slice none 0 0) (.slice none 0 0)).run prog W = .ok (.bool false) W := by kernel_rfl
  by_cases h5 : 0 < n5
  ·have JX : (0 : Int) < (n5 : Int) := oM
   rw [decide_eq_true h5]
   go_enter func88, ntmps88
   go_wp2
   try rw [hW]
   go_ret
   exact ⟨rfl, H0.below⟩
  have JX : ¬ ((0 : Int) < (n5 : Int)) := oM
  rw [decide_eq_false h5]
  go_enter func88, ntmps88
  go_wp2
  try rw [hW]
  go_ret
  exact ⟨rfl, H0.below⟩
 have Dx : (binOp .neq 32 (.slice (some ⟨g, o, none⟩) np cp) (.slice none 0 0)).run prog W = .ok (.bool true) W := by kernel_rfl
 go_enter func88, ntmps88
 go_wp2
 try rw [hW]
 go_ret
 exact ⟨rfl, H0.below⟩
theorem mH (h : gW X B w r b p) (hb : b.af = false) (Is : b.st.af = false) (xO : b.bh = b.st.bt) (ho : bC f b.st) (w2 : World) :
 Calls prog 88 #[.agg (ba r b)] w2 fun e w' => e = .returned (.bool (bQ b)) ∧ bW w2 w' := by
 obtain ⟨he, hel⟩ := h.er hb
 have hd := h.dt hb
 have e5 : decide (0 < r.q.n5) = b.bh := by
  rw [xO]
  cases hu : b.st.bt with
  | true =>
   have h1 := (h.v.wr Is hu).pl
   have h2 := ho.dn hu Is
   have h3 := ho.pl hu
   rw [List.length_drop] at h1
   exact decide_eq_true oM
  | false => exact decide_eq_false (by rw [h.v.no Is hu]; omega)
 have eE : decide (0 < r.ne) = !b.erase.isEmpty := by
  rw [← hel]
  cases b.erase <;> simp
 have eP : r.P.isSome = b.data.isSome := by
  rcases hd with ⟨d1, d2, _⟩ | ⟨d, g, o, d1, d2, _⟩
  ·rw [d1, d2]; rfl
  rw [d1, d2]; rfl
 have := RI (ba r b) r.E r.P r.q.Q5 r.ne r.ce r.np r.cp r.q.n5 r.q.c5 (by
  rcases hd with ⟨d1, d2⟩ | ⟨d, g, o, d1, d2, _⟩
  ·exact .inl d2
  exact .inr ⟨g, o, d2⟩) rfl rfl rfl w2
 rw [e5, eE, eP] at this
 refine this.mono ?_
 rintro e w' ⟨h1, h2⟩
 refine ⟨h1.trans ?_, h2⟩
 unfold bQ
 rw [Bool.or_assoc]
theorem R1 (h : iE X w r.q b.st p) (ho : bC f b.st) (hX : ∀ b, X b → b < w.heap.size) (i v : Int) :
 Calls prog 91 #[.agg (ba r b), .int .i64 i, .int .i64 v] w fun e w' => ∃ q : Qv, e = .returned (.agg (ba { r with q := q } { b with st := aU b.st i v })) ∧ iE X w' q (aU b.st i v) p ∧ bW w w' := by
 obtain ⟨s', jU⟩ := ex (aU b.st i v)
 obtain ⟨k, hk⟩ := ex (ga b.st i v)
 obtain ⟨C, hC⟩ := ex (ba r b)
 obtain ⟨S, hS⟩ := ex (sa r.q b.st)
 obtain ⟨W, hW⟩ := ex ((w.alloc (.cells C 45)).alloc (.cells zB 45))
 have H0 := iD (Fr.two hW)
 have HQ := iD (F7 (h.xf H0.below 2) ho (XF.lt hX H0.len) i v)
 rw [← Eb, hS, jU, hk] at HQ
 have px : Hid (C.size = 26) := by rw [← hC]; exact bD _ _
 have Jv : Hid (S.size = 15) := by rw [← hS]; exact cD _ _
 have HEX : Hid (C.extract 2 17 = S) := by rw [← hC, ← hS]; exact Xk _ _
 have xC : Hid (∀ q, F4 C 2 (sa q s').toList = ba { r with q := q } { b with st := s' }) := fun q => by rw [← hC]; exact Tw _ _ _ _
 rw [hC, jU]
 clear hS hC jU hk h ho hX
 go_enter func91, ntmps91
 go_upto_region 1 with (fail)
 try rw [hW]
 clear hW
 refine wp_region_list ?_
 refine wV (.pointer (some ⟨w.heap.size, 2, none⟩)) ?_
 refine Il rfl _ rfl w.heap.size rfl C S H0.aE HEX Jv ?_
 simp only [nm]
 refine wV (.int .i64 i) ?_
 refine wV (.int .i64 v) ?_
 refine cP (HQ) ?_
 rintro e v1 ⟨q', rfl, iG, dC⟩
 refine ⟨_, rfl, ?_⟩
 have H2 := iD (H0.ab dC)
 have HV := iD iG
 clear dC iG
 simp only [← Eb]
 obtain ⟨S1, ON⟩ := ex (sa q' s')
 obtain ⟨C1, jf⟩ := ex (ba { r with q := q' } { b with st := s' })
 have aa9 : Hid (F4 C 2 S1.toList = C1) := by rw [← ON, ← jf]; exact xC q'
 have l4 : Hid (S1.size = 15) := by rw [← ON]; exact cD _ _
 have iL : Hid (S1.all (·.oneCell') = true) := by rw [← ON]; exact gL _ _
 have oy : Hid (C1.size = 26) := by rw [← jf]; exact bD _ _
 have xd : Hid (C1.all (·.oneCell') = true) := by rw [← jf]; exact eY _ _
 have HCE := iD jf
 rw [ON]
 clear ON jf
 simp only [nm]
 refine wV (.tuple #[.agg S1, .int .i64 k]) ?_
 refine wV (.agg S1) ?_
 refine wV (.int .i64 k) ?_
 refine wV (.pointer (some ⟨w.heap.size, 2, none⟩)) ?_
 refine Hl rfl _ _ rfl rfl w.heap.size S1 rfl rfl _ C1 H2.aE l4 px iL aa9 ?_
 have H3 := iD (H2.BR C1)
 have Ro := iD (HV.ao (ah.row v1 w.heap.size C1 (pS _ _)))
 generalize v1.setRow w.heap.size C1 = w3 at H3 Ro ⊢
 go_upto_region 2 with (fail)
 refine wp_region_list ?_
 refine lB H3.aE oy ?_
 refine sP 1 H3 fun w4 o H4 => ?_
 have Rn := iD (Ro.ao (N7 o))
 go_wp2
 (try simp only [Exit.inBlock, Exit.then])
 refine bodyPost_ret (v := .agg C1) (results_cell_row (p := 6) rfl _ _ (w.heap.size + 1) 45 C1 (0, 0) _ rfl H4.dL underlying45 rfl (gJ oy)) rfl ⟨q', by rw [HCE], Rn.cU (fun _ => .inl), H4.below⟩
def bq (r : Rb) (b : Bk) (q : Qv) (s : St) : Array Value := ba { r with q := q } { b with st := s }
theorem kS (r : Rb) (b : Bk) : ba r b = bq r b r.q b.st := rfl
theorem aW (r : Rb) (b : Bk) (q : Qv) (s : St) : (bq r b q s).size = 26 := rfl
theorem Fg (r : Rb) (b : Bk) (q : Qv) (s : St) : (bq r b q s).all (·.oneCell') = true := eY _ _
theorem C4 (r : Rb) (b : Bk) (q : Qv) (s : St) : (bq r b q s).extract 2 17 = sa q s := rfl
theorem wQ (r : Rb) (b : Bk) (q q' : Qv) (s s' : St) : F4 (bq r b q s) 2 (sa q' s').toList = bq r b q' s' := rfl
theorem lP (h : iE X w q s p) (ho : bC f s) (hX : ∀ b, X b → b < w.heap.size) (i v : Int) :
 Calls prog 91 #[.agg (bq r b q s), .int .i64 i, .int .i64 v] w fun e w' => ∃ q' : Qv, e = .returned (.agg (bq r b q' (aU s i v))) ∧ iE X w' q' (aU s i v) p ∧ bW w w' :=
 R1 (r := { r with q := q }) (b := { b with st := s }) h ho hX i v
theorem GQ (h : iE X w q s g.pg) (hR : ca X w x g) (ho : bC g s) (hX : ∀ b, X b → b < w.heap.size) (nt : s.af = g.aF) (mZ : s.bt = false → fU (s.seq + 1) s.aj.length = 0) :
 Calls prog 83 #[.agg (sa q s), .agg (xa x g)] w fun e w' => ∃ q' : Qv, e = .returned (.tuple #[.agg (sa q' (aZ s g)), .int .i64 (aO s g)]) ∧ iE X w' q' (aZ s g) g.pg ∧ bW w w' := Ax h hR ho hX nt mZ
theorem CY (h : iE X w q s g.pg) (hR : ca X w x g) (ho : bC g s) (hX : ∀ b, X b → b < w.heap.size) (nt : s.af = g.aF) (mZ : s.bt = false → fU (s.seq + 1) s.aj.length = 0) :
 Calls prog 34 #[.agg (sa q s), .agg (xa x g)] w fun e w' => ∃ (q' : Qv) (y : Rc), e = .returned (.tuple #[.agg (sa q' (ay s g).1), .agg (xa y (ay s g).2.1), .int .i64 (ay s g).2.2]) ∧ iE X w' q' (ay s g).1 g.pg ∧ ca X w' y (ay s g).2.1 ∧ bW w w' := CX h hR ho hX nt mZ
theorem RP (h : iE X w q s g.pg) (hR : ca X w x g) (ho : bC g s) (hX : ∀ b, X b → b < w.heap.size) :
 Calls prog 84 #[.agg (sa q s), .agg (xa x g)] w fun e w' => ∃ (q' : Qv) (y : Rc), e = .returned (.tuple #[.agg (sa q' (aI s g).1), .agg (xa y (aI s g).2.1), .bool (aI s g).2.2.1, .int .i64 (aI s g).2.2.2]) ∧ iE X w' q' (aI s g).1 g.pg ∧ ca X w' y (aI s g).2.1 ∧ bW w w' := Ko h hR ho hX
theorem gM (s : St) (i v : Int) : (aU s i v).af = s.af ∧ (aU s i v).bt = s.bt ∧ (aU s i v).seq = s.seq ∧ (aU s i v).aj.length = s.aj.length := by
 unfold aU
 split
 ·exact ⟨rfl, rfl, rfl, by simp⟩
 exact ⟨rfl, rfl, rfl, rfl⟩
theorem dW.enc (h : dW f s) (hn : s.seq ≤ n) (h2 : n < 1000000) : s.af = f.aF ∧ fU (s.seq + 1) s.aj.length = 0 :=
 have q : gz f s n := ⟨⟨_, _, h.Vf⟩, hn⟩
 ⟨q.br, q.enc h2⟩
theorem Pj (hR : ca X w x g) (ho : bU g b) (s n : Nat) (hs : s ≤ 1) (h1 : 1 ≤ n) (hn : n ≤ aM g b.aa) :
 Calls prog 90 #[.agg (ba r b), .agg (xa x g), .int .i64 (s : Int), .int .i64 (n : Int)] w fun e w' => ∃ A c, e = .returned (.slice A n c) ∧ n ≤ c ∧ c ≤ maxLen ∧ w'.ownsRow w.heap.size 5 1 (.slice A n c) n (ag .u8 (fv g b s n)) ∧ bW w w' := by
 obtain ⟨i5, rS, jd, jc, jb⟩ := info_parts kz
 have nR : 0 ≤ maxLen := Nat.zero_le _
 have JR := hR.ok
 obtain ⟨qG, nQ⟩ := mf ho JR.b2 JR.p2 hs
 have nX := gx JR
 have sQ := ho.bk
 have DA := ho.fw
 have kC := JR.b2
 have jE := ho.k8
 have hlen := JR.len
 obtain ⟨P0, JU⟩ := ex (cE b s * g.pg)
 have PW : Hid (fv g b s n = (g.img.drop (64 * P0)).take n) := by rw [Hid, ← JU]; rfl
 have jh := iD (fun w2 => uN hR b.k b.first s jE hs oM (b.first : Int) (b.aa : Int) (s : Int) rfl (by rw [sQ]) rfl w2)
 rw [show (b.first + 2 + s * b.k) * g.pg = P0 from JU, ← uk] at jh
 rw [JU] at qG
 obtain ⟨T, hT⟩ := ex (64 * P0)
 have hTn : T + n ≤ g.img.length := by
  rw [hlen, ← hT]
  rw [nQ] at hn
  generalize b.k * g.pg = z1 at *
  generalize g.ar.length * g.pg = z2 at *
  omega
 have hT2 : T ≤ 65536 := by
  rw [← hT]
  generalize g.ar.length * g.pg = z2 at *
  generalize b.k * g.pg = z1 at *
  omega
 have qY : n ≤ 8192 := by
  rw [nQ] at hn
  have := Nat.mul_le_mul jE JR.p2
  omega
 rw [hT] at PW
 have uF : Hid (((g.img.drop T).take n).length = n) := by rw [Hid, List.length_take, List.length_drop]; omega
 obtain ⟨bb, off, hA, -⟩ := hR.a.rd (by
  intro e
  have := aD .u8 g.img
  rw [e] at this
  simp at this
  omega)
 have pz := iD hR.a.rd
 rw [hA] at pz
 have mv := hR.a1
 have rU := hR.a2
 obtain ⟨C, hC⟩ := ex (ba r b)
 obtain ⟨F, hF⟩ := ex (xa x g)
 rw [hF] at jh
 obtain ⟨W, hW⟩ := ex ((w.alloc (.cells C 45)).alloc (.cells F 35))
 have H0 := iD (Fr.two hW)
 have d0 := H0.cell0 0 (v := .int .i64 b.first) (by rw [← hC]; rfl)
 have d1 := H0.cell0 1 (v := .int .i64 b.aa) (by rw [← hC]; rfl)
 have P3 : Hid (F[0]? = some (.slice (some ⟨bb, off, none⟩) g.img.length x.c)) := by rw [← hF, ← hA]; rfl
 have uC : Hid (F.size = 6) := by rw [← hF]; exact aT _ _
 obtain ⟨N1, EL⟩ := ex g.img.length
 obtain ⟨c, hc⟩ := ex x.c
 rw [EL, hc] at P3
 rw [EL] at hTn mv
 rw [hc] at mv rU
 rw [hC, hF]
 clear hC hF hA EL hc hR hlen qG nQ nX JR JU hn ho sQ DA kC jE
 have q1 : IntKind.i64.wrap (64 * (P0 : Int)) = (T : Int) := by rw [IntWalk.i64_in _ oM]; omega
 have q2 : IntKind.i64.wrap ((T : Int) + (n : Int)) = (T : Int) + (n : Int) := IntWalk.i64_in _ oM
 have k1 : (T : Int) ≤ (T : Int) + (n : Int) := oM
 have k2 : (T : Int) + (n : Int) ≤ (c : Int) := oM
 have k3 : (0 : Int) ≤ (T : Int) := oM
 have k4 : ((T : Int) + (n : Int)).toNat = T + n := oM
 have k5 : T + n - T = n := oM
 have k6 : ¬ (c = T) := oM
 have k8 : (0 : Int) ≤ (T : Int) + (n : Int) := oM
 clear hT
 go_enter func90, ntmps90
 go_upto_region 1 with (fail)
 try rw [hW]
 clear hW
 refine wp_region_list ?_
 refine lF H0.dL uC ?_
 go_wp2_with (fail)
 refine (jh W).mono ?_
 rintro e v1 ⟨rfl, dC⟩
 have H2 := iD (H0.ab dC)
 clear dC d0 d1
 have e0 := H2.oh 0 P3
 have aY : w.heap.size + 1 < v1.heap.size := H2.len
 have px : Hid (w.heap.size ≤ v1.heap.size) := H2.below.size
 have FC : Hid (Rd v1 v1.heap.size (some ⟨bb, off, none⟩) (ag .u8 g.img)) := (pz.below H2.below cV).more H2.below.size
 go_upto_region 2 with (fail)
 go_wp2_with (first | (at_builtin; refine aN _ rfl _ _ 32 rfl w.heap.size 5 i5 (.int .u8 0) 1 1 underlying32 rS jd jc jb rfl oM _ 0 [] rfl (World.ownsRow_lit v1 #[] 0 px.out nR rfl) v1.heap.size _ n _ (ag .u8 ((g.img.drop T).take n)) rfl ((FC.out.below (bV.alloc cV _) cV).part T n) (by rw [aD, uF.out, Nat.mul_one]) (cZ _ _) (by unfold maxLen; omega) oM (by rw [World.size_alloc]; have := px.out; omega) ?_))
 intro v' w2 bY hgrow kg
 have gh : Hid (bW w w2) := (H2.out.below.alloc H2.out.below.size _).grown hgrow (by rw [World.size_alloc]; have := px.out; omega) (fun k hk => by have hk' : some v1.heap.size = some k := hk; injection hk' with hk'; have := px.out; omega)
 try simp only [Nat.zero_add, List.nil_append] at bY
 obtain ⟨A', c', rfl, h4, h5, h6⟩ := a9 bY
 have iL := iD bY
 clear bY hgrow kg h6
 go_wp2
 go_ret
 exact ⟨A', c', rfl, h4, h5, by rw [PW]; exact iL, gh⟩
theorem mh (h : iE X w q s p) (hl : s.saved.length = 9) : ∃ b9 o9, q.Q3 = some ⟨b9, o9, none⟩ ∧ b9 < w.heap.size ∧ ∀ j, j < 9 → w.cell? ⟨b9, o9 + j, none⟩ = some (.int .i64 (s.saved[j]?.getD 0)) := by
 obtain ⟨b9, o9, e, aY, _, hc⟩ := h.c (by
  intro e
  have := congrArg List.length e
  simp [aA] at this
  rw [this] at hl
  cases hl)
 refine ⟨b9, o9, e, aY, fun j hj => hc j _ ?_⟩
 unfold aA
 rw [List.getElem?_map, List.getElem?_eq_getElem oM]
 rfl
theorem bU.Na (h : bU f b) : b.st.saved.length = 9 := by rw [h.ok.sl, h.sp]; rfl
theorem Pt (C C1 C2 F : Array Value) (hC : C.size = 26) (jf : C1.size = 26) (UK : C2.size = 26) (hF : F.size = 6) (ho : C1.all (·.oneCell') = true) (kV : C2.all (·.oneCell') = true) (z u : Bool) (E P : Value) (c19 : C1[19]? = some (.bool u)) (Xi : C1[24]? = some E) (Xh : C1[25]? = some P)
 (e2 : ((C1.setIfInBounds 19 (.bool false)).setIfInBounds 24 (.slice none 0 0)).setIfInBounds 25 (.slice none 0 0) = C2) (w : World)
 (HD : Hid (∀ w, Calls prog 87 #[.agg C, .agg F] w fun e w' => e = .returned (.tuple #[.agg C1, .bool z]) ∧ bW w w')) :
  Calls prog 44 #[.agg C, .agg F] w fun e w' => e = .returned (if z = true then .tuple #[.agg C1, .int .i64 20] else if u = false then .tuple #[.agg C1, .int .i64 12] else .tuple #[.agg C2, .int .i64 0]) ∧ bW w w' := by
 obtain ⟨W, hW⟩ := ex (((w.alloc (.cells C 45)).alloc (.cells F 35)).alloc (.cells zB 45))
 have H0 := iD (Fr.three hW)
 have HS := iD hC
 have l4 := iD jf
 have sc := iD UK
 have uC := iD hF
 have HO := iD ho
 have mB := iD kV
 have uG := iD c19
 have xh := iD Xi
 have tu := iD Xh
 have FM := iD e2
 clear hC jf UK hF ho kV c19 Xi Xh e2
 go_enter func44, ntmps44
 go_upto_region 1 with (fail)
 try rw [hW]
 clear hW
 refine wp_region_list ?_
 refine lB H0.aE HS ?_
 refine lF H0.dL uC ?_
 refine cP (HD W) ?_
 rintro e v1 ⟨rfl, dC⟩
 have H2 := iD (H0.ab dC)
 clear dC
 refine rP ?_
 refine wV (.tuple #[.agg C1, .bool z]) ?_
 refine wV (.agg C1) ?_
 refine wV (.bool z) ?_
 refine sP 0 H2 fun w3 _ H3 => ?_
 have d19 := H3.cell0 19 uG
 have d24 := H3.cell0 24 xh
 have d25 := H3.cell0 25 tu
 have f19 := H3.sS 19
 have f24 := H3.sS 24
 have f25 := H3.sS 25
 cases z with
 | true =>
  go_upto_region 3 with (fail)
  refine rQ H3 ?_ l4
  exact fun w4 H4 => ⟨rfl, H4.below⟩
 | false =>
  cases u with
  | false =>
   go_upto_region 5 with (fail)
   refine rQ H3 ?_ l4
   exact fun w4 H4 => ⟨rfl, H4.below⟩
  | true =>
   go_upto_region 7 with (fail)
   have H9 := iD (((H3.iF 19 (.bool false)).iF 24 (.slice none 0 0)).iF 25 (.slice none 0 0))
   rw [FM] at H9
   generalize ((w3.setCell ⟨w.heap.size, 19, none⟩ (.bool false)).setCell ⟨w.heap.size, 24, none⟩ (.slice none 0 0)).setCell ⟨w.heap.size, 25, none⟩ (.slice none 0 0) = w9 at H9 ⊢
   refine rQ H9 ?_ sc
   exact fun Uj lM => ⟨rfl, lM.below⟩
theorem Pu (h : gW X B w r b g.pg) :
 Calls prog 44 #[.agg (ba r b), .agg (xa x g)] w fun e w' => ∃ r' : Rb, e = .returned (.tuple #[.agg (ba r' (ej b g).1), .int .i64 (ej b g).2]) ∧ gW X B w' r' (ej b g).1 g.pg ∧ (∀ k, (Value.slice r'.E r'.ne r'.ce).ownBlock = some k → (Value.slice r.E r.ne r.ce).ownBlock = some k) ∧ bW w w' := by
 have h1 := Pt (ba r b) (ba r (aq b g)) (ba { r with E := none, ne := 0, ce := 0, P := none, np := 0, cp := 0 } { aq b g with au := false, erase := [], data := none }) (xa x g) rfl rfl rfl rfl (eY _ _) (eY _ _) (aq b g).af b.au (.slice r.E r.ne r.ce) (.slice r.P r.np r.cp) rfl rfl rfl rfl w (fun w => fV r b x g w)
 refine h1.mono ?_
 rintro e w' ⟨he, hb⟩
 unfold ej
 by_cases hz : (aq b g).af = true
 ·rw [iP hz] at he ⊢
  exact ⟨r, he, (h.below hb).fk g, fun _ hk => hk, hb⟩
 rw [iN hz] at he ⊢
 by_cases hu : b.au = false
 ·rw [iP hu] at he ⊢
  exact ⟨r, he, (h.below hb).fk g, fun _ hk => hk, hb⟩
 rw [iN hu] at he ⊢
 exact ⟨_, he, ⟨(h.below hb).v, fun _ => ⟨QS.nil _ _ _, rfl⟩, fun _ => .inl ⟨rfl, rfl, rfl, rfl⟩⟩, fun k hk => (by cases hk), hb⟩
end Go.Proofs.YtjdknddnanopaaaGreat
