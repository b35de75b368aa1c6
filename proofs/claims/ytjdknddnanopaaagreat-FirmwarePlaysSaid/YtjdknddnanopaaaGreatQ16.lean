/-
  Part 16 of the proof.
-/
import Derived.Lib.SmallJoins
import Derived.Test.YtjdknddnanopaaaGreatQ15
namespace Go.Proofs.YtjdknddnanopaaaGreat
open Go.RowKit Tryz
set_option maxRecDepth 100000
set_option maxHeartbeats 16000000
set_option linter.all false
variable {f g : Fl} {b : Bk} {s : St} {B a p : Nat} {w w0 : World} {X Y : Nat → Prop} {c m n : Int} {r : Rb} {q : Qv} {x : Rc} {v : List Int} {L : Lc}
section
variable {w0 w w1 w' : World} {L L' : Lc} {S S' : Sc} {K K' : Kc} {f f' : Fl} {b b' : Bk} {s : St}
theorem IK (ho : bS f b) (hb : b.st.af = false) (hD : b.dst ≤ 1) (hc : 0 ≤ c ∧ c < 4294967296) :
 ls b.st (3 + 3 * b.dst) [b.version, (b.length : Int), c] ∧ ls (dC b.st (3 + 3 * b.dst) [b.version, (b.length : Int), c]) 1 [(b.dst : Int), 3] := by
 have hv := ho.DL
 have hl := ho.len
 have gT := ho.sp
 obtain ⟨N, hN⟩ := ex (aN f b.aa)
 rw [hN] at hl gT
 have key : ∀ (s : St) (i : Nat) (p : eB) (v : Int), s.af = false → s.ax = aH N → (aH N)[i]? = some p → p.lo ≤ v ∧ v ≤ p.hi → gf s (i : Int) v = 0 ∧ (aV s (i : Int) v).af = false ∧ (aV s (i : Int) v).ax = aH N := fun s i p v h1 h2 h3 h4 => by
  obtain ⟨x1, x2⟩ := mN h1 h2 h3 h4
  exact ⟨x1, by rw [x2]; exact h1, by rw [x2]; exact h2⟩
 match hd : b.dst, hD with
 | 0, _ =>
  obtain ⟨a1, a2, a3⟩ := key b.st 3 ⟨0, 1073741824, 0⟩ b.version hb gT rfl ⟨hv.1, hv.2⟩
  obtain ⟨b1, b2, b3⟩ := key _ 4 ⟨0, N, 0⟩ (b.length : Int) a2 a3 rfl ⟨by simp only; omega, by simp only; omega⟩
  obtain ⟨c1, c2, c3⟩ := key _ 5 ⟨0, 4294967295, 0⟩ c b2 b3 rfl ⟨hc.1, by simp only; omega⟩
  obtain ⟨d1, d2, d3⟩ := key _ 1 ⟨0, 2, 2⟩ ((0 : Nat) : Int) c2 c3 rfl ⟨by simp only; omega, by simp only; omega⟩
  obtain ⟨e1, e2, e3⟩ := key _ 2 ⟨0, 3, 0⟩ 3 d2 d3 rfl ⟨by simp only; omega, by simp only; omega⟩
  exact ⟨⟨a1, b1, c1, trivial⟩, d1, e1, trivial⟩
 | 1, _ =>
  obtain ⟨a1, a2, a3⟩ := key b.st 6 ⟨0, 1073741824, 0⟩ b.version hb gT rfl ⟨hv.1, hv.2⟩
  obtain ⟨b1, b2, b3⟩ := key _ 7 ⟨0, N, 0⟩ (b.length : Int) a2 a3 rfl ⟨by simp only; omega, by simp only; omega⟩
  obtain ⟨c1, c2, c3⟩ := key _ 8 ⟨0, 4294967295, 0⟩ c b2 b3 rfl ⟨hc.1, by simp only; omega⟩
  obtain ⟨d1, d2, d3⟩ := key _ 1 ⟨0, 2, 2⟩ ((1 : Nat) : Int) c2 c3 rfl ⟨by simp only; omega, by simp only; omega⟩
  obtain ⟨e1, e2, e3⟩ := key _ 2 ⟨0, 3, 0⟩ 3 d2 d3 rfl ⟨by simp only; omega, by simp only; omega⟩
  exact ⟨⟨a1, b1, c1, trivial⟩, d1, e1, trivial⟩
theorem CF (h : bo w0 w L S K f b) (ho : bS f b) (lj : b.af = false → b.bh = false → b.st.bt = false) (rN : b.st.seq ≤ 1000000) (vQ : b.au = true → 1 ≤ b.length) (c : Int) (hc : 0 ≤ c ∧ c < 4294967296) : Calls prog 41 #[.pointer (some ⟨K.D, 0, none⟩), .int .u32 c] w (xp w0 w L S K f (bU b f c)) := by
 have g1 := ne_nil
 have g2 := fW
 have HR := iD (fe h)
 have HO := iD (gX ho)
 have tr : Hid (∀ d, (ar b f).data = some d → d ≠ []) := ho.ne
 by_cases cQ : (ar b f).af = true
 ·have HB : Hid (bU b f c = (ar b f, 20)) := by unfold bU; rw [Hid, iP cQ]
  rw [iP cQ, dJ (by decide)] at HR
  clear h ho cQ lj rN vQ
  go_enter func41, ntmps41
  go_wp2_with (fail)
  refine HR.mono ?_
  rintro e w1 ⟨rfl, hK, hX⟩
  have HK := iD hK
  have HX := iD hX
  have c6 : w1.cell? ⟨K.D, 6, none⟩ = some (.bool b.au) := hK.row 6 _ rfl
  have uf : w1.cell? ⟨K.D, 10, none⟩ = some (.int .i64 b.cH) := hK.row 10 _ rfl
  have c9 : w1.cell? ⟨K.D, 9, none⟩ = some (.int .i64 b.length) := hK.row 9 _ rfl
  clear hK hX
  go_wp2
  go_ret
  rw [HB]
  exact ⟨rfl, .mk' (.dh HX) HK⟩
 have jH : (ar b f).af = false := by simpa using cQ
 have HU := iD (fV jH)
 have pF := iD (ho.Kt HU.1)
 rw [iN cQ, bG] at HR
 by_cases gM : b.au = false
 ·have HB : Hid (bU b f c = (ar b f, 12)) := by unfold bU; rw [Hid, iN cQ, iP (.inl gM)]
  clear h ho cQ lj rN vQ jH
  go_enter func41, ntmps41
  go_wp2_with (fail)
  refine HR.mono ?_
  rintro e w1 ⟨rfl, hK, hX⟩
  have HK := iD hK
  have HX := iD hX
  have c6 : w1.cell? ⟨K.D, 6, none⟩ = some (.bool b.au) := hK.row 6 _ rfl
  have uf : w1.cell? ⟨K.D, 10, none⟩ = some (.int .i64 b.cH) := hK.row 10 _ rfl
  have c9 : w1.cell? ⟨K.D, 9, none⟩ = some (.int .i64 b.length) := hK.row 9 _ rfl
  clear hK hX
  rw [gM] at c6
  go_wp2_with (fail)
  go_quiet (fail)
  go_wp2
  go_ret
  rw [HB]
  exact ⟨rfl, .mk' ((bY.dh HX).trans (bY.ak (Below.drewN bV _))) (HK.ab (Below.drewN bV _))⟩
 have zQ := gM
 have gM : b.au = true := by simpa using gM
 by_cases gU : b.cH = b.length
 case neg =>
  have HB : Hid (bU b f c = (ar b f, 12)) := by unfold bU; rw [Hid, iN cQ, iP (.inr gU)]
  have Cr : ¬ (b.cH : Int) = (b.length : Int) := oM
  have Nm : ((b.cH : Int) == (b.length : Int)) = false := by simpa using Cr
  clear h ho cQ lj rN vQ jH zQ gU
  go_enter func41, ntmps41
  go_wp2_with (fail)
  refine HR.mono ?_
  rintro e w1 ⟨rfl, hK, hX⟩
  have HK := iD hK
  have HX := iD hX
  have c6 : w1.cell? ⟨K.D, 6, none⟩ = some (.bool b.au) := hK.row 6 _ rfl
  have uf : w1.cell? ⟨K.D, 10, none⟩ = some (.int .i64 b.cH) := hK.row 10 _ rfl
  have c9 : w1.cell? ⟨K.D, 9, none⟩ = some (.int .i64 b.length) := hK.row 9 _ rfl
  clear hK hX
  rw [gM] at c6
  go_wp2_with (fail)
  go_quiet (fail)
  go_wp2
  go_ret
  rw [HB]
  exact ⟨rfl, .mk' ((bY.dh HX).trans (bY.ak (Below.drewN bV _))) (HK.ab (Below.drewN bV _))⟩
 have dV : ¬ (b.au = false ∨ b.cH ≠ b.length) := fun e => by rcases e with e | e <;> contradiction
 by_cases hw : bO b = true
 ·have jP : Hid (bO (ar b f) = true) := hw
  have HB : Hid (bU b f c = (ar b f, 14)) := by unfold bU; rw [Hid, iN cQ, iN dV, iP hw]
  clear h ho cQ lj rN vQ jH zQ dV hw
  go_enter func41, ntmps41
  go_wp2_with (fail)
  refine HR.mono ?_
  rintro e w1 ⟨rfl, hK, hX⟩
  have HK := iD hK
  have HX := iD hX
  have c6 : w1.cell? ⟨K.D, 6, none⟩ = some (.bool b.au) := hK.row 6 _ rfl
  have uf : w1.cell? ⟨K.D, 10, none⟩ = some (.int .i64 b.cH) := hK.row 10 _ rfl
  have c9 : w1.cell? ⟨K.D, 9, none⟩ = some (.int .i64 b.length) := hK.row 9 _ rfl
  rw [gU] at uf
  clear hK hX gU
  rw [gM] at c6
  go_wp2_with (fail)
  go_quiet (fail)
  obtain ⟨W2, lY⟩ := ex (w1.drewN nq)
  have fE : Hid (bo w0 W2 L S K f (ar b f)) := by rw [← lY]; exact HK.ab (Below.drewN bV _)
  have nr : Hid (bY w W2 L S K L S K) := by rw [← lY]; exact (bY.dh HX).trans (bY.ak (Below.drewN bV _))
  rw [lY]
  clear lY c6 c9 uf
  go_wp2_with (fail)
  refine (dF fE tr).mono ?_
  rintro e w3 ⟨rfl, rfl⟩
  rw [jP]
  go_wp2
  go_ret
  rw [HB]
  exact ⟨rfl, .mk' nr fE⟩
 have xt : bO b = false := by simpa using hw
 have jP : Hid (bO (ar b f) = false) := xt
 have xM : b.bh = false := by unfold bO at xt; simp only [Bool.or_eq_false_iff] at xt; exact xt.2
 have nS := lj HU.1 xM
 have JP := vQ gM
 have SK := ho.dst
 have hl8 : b.length ≤ 8192 := Nat.le_trans ho.len (by rw [ho.bk]; exact ec h.st.fl.ok ho.k8)
 obtain ⟨D, hD⟩ := ex b.dst
 obtain ⟨l, hl⟩ := ex b.length
 obtain ⟨img, jo⟩ := ex (fv f b D l)
 obtain ⟨C, hC⟩ := ex (eS img)
 have Zy : Hid (bU b f c = if C ≠ c then ({ ar b f with au := false }, 19) else (jx { ar b f with au := false } (gd b c) f, 0)) := by
  unfold bU; rw [Hid, iN cQ, iN dV, iN hw, hD, hl, jo, hC]
 have ph : Hid (∀ w3 : World, bo w0 w3 L S K f { ar b f with au := false } → Calls prog 76 #[.pointer (some ⟨K.D, 0, none⟩), .int .i64 D, .int .i64 l] w3 fun e w' => ∃ A c, e = .returned (.tuple #[.slice A l c, .nilIface]) ∧ l ≤ c ∧ c ≤ maxLen ∧ Rd w' w'.heap.size A (ag .u8 img) ∧ bW w3 w') := fun w3 hK => by
  have lR : bS f { ar b f with au := false } := ⟨HO.ok, HO.sp, HO.fi, HO.bl, HO.lg, HO.br, HO.bk, HO.k1, HO.k8, HO.fw, HO.pg, HO.av, HO.dst, HO.DL, HO.len, HO.cH, HO.er, HO.dt, HO.page⟩
  have := yV hK lR HU.2 D l oM oM (by rw [← hl]; exact ho.len) (fun g => g < w3.heap.size) (fun g hg => hg)
  rw [show fv f { ar b f with au := false } D l = img from jo] at this
  refine this.mono ?_
  rintro e w' ⟨A, c, he, h1, h2, h3, h4, h5⟩
  exact ⟨A, c, he, h1, h2, h3.rd, h5⟩
 have Dm : Hid (Bytes img) := by rw [← jo]; unfold fv; exact gA (eh h.st.fl.ok.wQ _) _
 have uY : Hid (img.length = l) := by
  obtain ⟨r1, r2⟩ := mf ho h.st.fl.ok.b2 h.st.fl.ok.p2 (s := D) oM
  have hlen : f.img.length = f.aq.length * f.pg * 64 := h.st.fl.ok.len
  have gZ := ho.len
  rw [r2, hl] at gZ
  rw [← jo]; unfold fv
  rw [Hid, List.length_take, List.length_drop, hlen]
  generalize cI b D * f.pg = x1 at *
  generalize b.k * f.pg = x2 at *
  omega
 have Yq := iD hC
 have Nu := iD hD
 have ya := iD hl
 rw [hl] at JP hl8
 rw [hD] at SK
 by_cases qV : C = c
 case neg =>
  have HB : Hid (bU b f c = ({ ar b f with au := false }, 19)) := by rw [Hid, Zy, iP qV]
  have acd : (C == c) = false := by simpa using qV
  clear h ho cQ lj rN vQ jH zQ dV hw xt xM nS hD hl jo hC
  go_enter func41, ntmps41
  go_wp2_with (fail)
  refine HR.mono ?_
  rintro e w1 ⟨rfl, hK, hX⟩
  have HK := iD hK
  have HX := iD hX
  have c6 : w1.cell? ⟨K.D, 6, none⟩ = some (.bool b.au) := hK.row 6 _ rfl
  have uf : w1.cell? ⟨K.D, 10, none⟩ = some (.int .i64 b.cH) := hK.row 10 _ rfl
  have c9 : w1.cell? ⟨K.D, 9, none⟩ = some (.int .i64 b.length) := hK.row 9 _ rfl
  rw [gU] at uf
  clear hK hX gU
  rw [gM] at c6
  go_wp2_with (fail)
  go_quiet (fail)
  obtain ⟨W2, lY⟩ := ex (w1.drewN nq)
  have fE : Hid (bo w0 W2 L S K f (ar b f)) := by rw [← lY]; exact HK.ab (Below.drewN bV _)
  have nr : Hid (bY w W2 L S K L S K) := by rw [← lY]; exact (bY.dh HX).trans (bY.ak (Below.drewN bV _))
  rw [lY]
  clear lY c6 c9 uf
  go_wp2_with (fail)
  refine (dF fE tr).mono ?_
  rintro e w3 ⟨rfl, rfl⟩
  rw [jP]
  have d6 : W2.cell? ⟨K.D, 6, none⟩ = some (.bool b.au) := fE.row 6 _ rfl
  have z6 := fE.fz 6
  have uq := iD (fE.jX 6 (.bool false) { ar b f with au := false } rfl rfl rfl rfl)
  obtain ⟨W3, mC⟩ := ex (W2.setCell ⟨K.D, 6, none⟩ (.bool false))
  have pq : Hid (bo w0 W3 L S K f { ar b f with au := false }) := by rw [← mC]; exact uq.1
  have G0 : Hid (bY w W3 L S K L S K) := by rw [← mC]; exact nr.trans (.dh uq.2)
  go_wp2_with (fail)
  try rw [mC]
  clear mC d6 z6 uq
  have iJ : Hid (∀ W, bW W3 W → W.cell? ⟨K.D, 7, none⟩ = some (.int .i64 D) ∧ W.cell? ⟨K.D, 9, none⟩ = some (.int .i64 l)) := fun W hB => by
   have h1 := (pq.ab hB).row 7 _ rfl
   have h2 := (pq.ab hB).row 9 _ rfl
   rw [show ({ ar b f with au := false } : Bk).dst = D from Nu] at h1
   rw [show ({ ar b f with au := false } : Bk).length = l from ya] at h2
   exact ⟨h1, h2⟩
  obtain ⟨d7, d9⟩ := iJ _ bV
  have Tm : Hid (∀ q, Calls prog 76 #[.pointer (some ⟨K.D, 0, none⟩), .int .i64 D, .int .i64 l] (W3.drewN q) fun e w' => ∃ A c, e = .returned (.tuple #[.slice A l c, .nilIface]) ∧ l ≤ c ∧ c ≤ maxLen ∧ Rd w' w'.heap.size A (ag .u8 img) ∧ bW W3 w') := fun q => by
   have hb := Below.drewN (Below.refl W3.heap.size W3) q
   refine (ph _ (pq.ab hb)).mono ?_
   rintro e w' ⟨A, c, he, h1, h2, h3, h4⟩
   exact ⟨A, c, he, h1, h2, h3, hb.trans (h4.mono hb.size)⟩
  go_region_held3 (fun w9 => w9.cell? ⟨K.D, 7, none⟩ = some (.int .i64 D) ∧ w9.cell? ⟨K.D, 9, none⟩ = some (.int .i64 l)) (first | exact iJ _ (Below.drewN bV _) | exact iJ _ jI | go_keep) (first
   | (go_at_call 76; refine (Tm _).mono ?_; rintro e wb ⟨A4, c4, rfl, mB, sT, Lm, jI⟩))
  all_goals
   have xC := iD (pq.ab jI)
   have JB : Hid (bY w wb L S K L S K) := G0.trans (bY.ak jI)
   have QX := iD Lm
   clear jI Lm mB sT d7 d9
   go_wp2_with (fail)
   refine (nX A4 l c4 img wb QX uY Dm oM).mono ?_
   rintro e w5 ⟨rfl, q, rfl⟩
   rw [Yq]
   have Bn : Hid (bW wb (wb.drewN q)) := Below.drewN (Below.refl wb.heap.size wb) q
   have sc := iD (xC.ab Bn)
   have JA : Hid (bY w (wb.drewN q) L S K L S K) := JB.trans (bY.ak Bn)
   generalize wb.drewN q = W5 at sc JA ⊢
   clear Bn
   go_wp2
   go_ret
   rw [HB]
   exact ⟨rfl, .mk' JA sc⟩
 subst qV
 have HB : Hid (bU b f C = (jx { ar b f with au := false } (gd b C) f, 0)) := by rw [Hid, Zy, iN (by simp)]
 obtain ⟨YH, ZX⟩ := IK ho pF ho.dst hc
 rw [hD, hl] at YH ZX
 have Us : ∀ x ∈ [b.version, (l : Int), C], dH x := fun x hx => by
  have := ho.DL
  simp only [List.mem_cons, List.not_mem_nil, or_false] at hx
  rcases hx with rfl | rfl | rfl <;> (unfold dH; omega)
 have WH : ∀ x ∈ [(D : Int), 3], dH x := fun x hx => by
  simp only [List.mem_cons, List.not_mem_nil, or_false] at hx
  rcases hx with rfl | rfl <;> (unfold dH; omega)
 have Sv : gd b C = dC (dC b.st (3 + 3 * D) [b.version, (l : Int), C]) 1 [(D : Int), 3] := by unfold gd; rw [hD, hl]
 have uG : Hid (bD f (dC b.st (3 + 3 * D) [b.version, (l : Int), C])) := lu ho.ok Us
 have XE : Hid (bD f (gd b C)) := by rw [Hid, Sv]; exact lu uG WH
 have FS1 : Hid (∀ w4 : World, bo w0 w4 L S K f { ar b f with au := false } → Calls prog 74 #[.pointer (some ⟨K.D, 0, none⟩), .int .i64 (3 + 3 * (D : Int)), .slice (some ⟨w4.heap.size, 0, none⟩) 3 3] (w4.alloc (.cells #[.int .i64 b.version, .int .i64 l, .int .i64 C] 3)) fun e w' => e = .returned .nilIface ∧ bo w0 w' L S K f { ar b f with au := false, st := dC b.st (3 + 3 * D) [b.version, (l : Int), C] } ∧ bY w4 w' L S K L S K) := fun w4 hK =>
  qZ hK ho.ok (3 + 3 * (D : Int)) (3 + 3 * D) (by push_cast; rfl) oM #[.int .i64 b.version, .int .i64 l, .int .i64 C] [b.version, (l : Int), C] rfl 3 rfl oM YH Us
 have FS2 : Hid (∀ w4 : World, bo w0 w4 L S K f { ar b f with au := false, st := dC b.st (3 + 3 * D) [b.version, (l : Int), C] } → Calls prog 74 #[.pointer (some ⟨K.D, 0, none⟩), .int .i64 1, .slice (some ⟨w4.heap.size, 0, none⟩) 2 2] (w4.alloc (.cells #[.int .i64 D, .int .i64 3] 3)) fun e w' => e = .returned .nilIface ∧ bo w0 w' L S K f { ar b f with au := false, st := gd b C } ∧ bY w4 w' L S K L S K) := fun w4 hK => by
  rw [Sv]
  exact qZ hK uG 1 1 rfl oM #[.int .i64 D, .int .i64 3] [(D : Int), 3] rfl 2 rfl oM ZX WH
 have FRC : Hid (∀ w5 : World, bo w0 w5 L S K f { ar b f with au := false, st := gd b C } → Calls prog 89 #[.pointer (some ⟨K.D, 0, none⟩)] w5 fun e w' => e = .returned .nilIface ∧ nt w0 w5 L S K f (jx { ar b f with au := false } (gd b C) f) w') := fun w5 hK => by
  obtain ⟨k1, k2, k3, k4, k5, k6, -, -⟩ := gW [(D : Int), 3] (dC b.st (3 + 3 * D) [b.version, (l : Int), C]) 1
  obtain ⟨j1, j2, j3, j4, j5, j6, -, -⟩ := gW [b.version, (l : Int), C] b.st (3 + 3 * D)
  rw [← Sv] at k1 k2 k3 k6
  exact CC hK XE (wW (k1.trans (j1.trans pF)) HU.2 (k2.trans (j2.trans nS)) (by show 0 ≤ (gd b C).seq; rw [k3, j3]; exact ho.ok.q1) (by show (gd b C).seq ≤ 1000000; rw [k3, j3]; exact rN) (k6.trans (j6.trans (by rw [ho.ok.tl]; exact ho.RC))))
 have OK1 := iD YH
 have HI1 := iD Us
 have q3 : IntKind.i64.wrap C = C := IntWalk.i64_in _ oM
 have q4 : IntKind.i64.wrap (3 * (D : Int)) = 3 * (D : Int) := IntWalk.i64_in _ oM
 have q5 : IntKind.i64.wrap (3 + 3 * (D : Int)) = 3 + 3 * (D : Int) := IntWalk.i64_in _ oM
 obtain ⟨Cv, aaC⟩ := hc
 clear h ho cQ lj rN vQ jH zQ dV hw xt xM nS hD hl jo hC YH ZX Us WH Sv
 go_enter func41, ntmps41
 go_wp2_with (fail)
 refine HR.mono ?_
 rintro e w1 ⟨rfl, hK, hX⟩
 have HK := iD hK
 have HX := iD hX
 have c6 : w1.cell? ⟨K.D, 6, none⟩ = some (.bool b.au) := hK.row 6 _ rfl
 have uf : w1.cell? ⟨K.D, 10, none⟩ = some (.int .i64 b.cH) := hK.row 10 _ rfl
 have c9 : w1.cell? ⟨K.D, 9, none⟩ = some (.int .i64 b.length) := hK.row 9 _ rfl
 rw [gU] at uf
 clear hK hX gU
 rw [gM] at c6
 go_wp2_with (fail)
 go_quiet (fail)
 obtain ⟨W2, lY⟩ := ex (w1.drewN nq)
 have fE : Hid (bo w0 W2 L S K f (ar b f)) := by rw [← lY]; exact HK.ab (Below.drewN bV _)
 have nr : Hid (bY w W2 L S K L S K) := by rw [← lY]; exact (bY.dh HX).trans (bY.ak (Below.drewN bV _))
 rw [lY]
 clear lY c6 c9 uf
 go_wp2_with (fail)
 refine (dF fE tr).mono ?_
 rintro e w3 ⟨rfl, rfl⟩
 rw [jP]
 have d6 : W2.cell? ⟨K.D, 6, none⟩ = some (.bool b.au) := fE.row 6 _ rfl
 have z6 := fE.fz 6
 have uq := iD (fE.jX 6 (.bool false) { ar b f with au := false } rfl rfl rfl rfl)
 obtain ⟨W3, mC⟩ := ex (W2.setCell ⟨K.D, 6, none⟩ (.bool false))
 have pq : Hid (bo w0 W3 L S K f { ar b f with au := false }) := by rw [← mC]; exact uq.1
 have G0 : Hid (bY w W3 L S K L S K) := by rw [← mC]; exact nr.trans (.dh uq.2)
 go_wp2_with (fail)
 try rw [mC]
 clear mC d6 z6 uq
 have iJ : Hid (∀ W, bW W3 W → W.cell? ⟨K.D, 7, none⟩ = some (.int .i64 D) ∧ W.cell? ⟨K.D, 9, none⟩ = some (.int .i64 l)) := fun W hB => by
  have h1 := (pq.ab hB).row 7 _ rfl
  have h2 := (pq.ab hB).row 9 _ rfl
  rw [show ({ ar b f with au := false } : Bk).dst = D from Nu] at h1
  rw [show ({ ar b f with au := false } : Bk).length = l from ya] at h2
  exact ⟨h1, h2⟩
 obtain ⟨d7, d9⟩ := iJ _ bV
 have Tm : Hid (∀ q, Calls prog 76 #[.pointer (some ⟨K.D, 0, none⟩), .int .i64 D, .int .i64 l] (W3.drewN q) fun e w' => ∃ A c, e = .returned (.tuple #[.slice A l c, .nilIface]) ∧ l ≤ c ∧ c ≤ maxLen ∧ Rd w' w'.heap.size A (ag .u8 img) ∧ bW W3 w') := fun q => by
  have hb := Below.drewN (Below.refl W3.heap.size W3) q
  refine (ph _ (pq.ab hb)).mono ?_
  rintro e w' ⟨A, c, he, h1, h2, h3, h4⟩
  exact ⟨A, c, he, h1, h2, h3, hb.trans (h4.mono hb.size)⟩
 go_region_held3 (fun w9 => w9.cell? ⟨K.D, 7, none⟩ = some (.int .i64 D) ∧ w9.cell? ⟨K.D, 9, none⟩ = some (.int .i64 l)) (first | exact iJ _ (Below.drewN bV _) | exact iJ _ jI | go_keep) (first
  | (go_at_call 76; refine (Tm _).mono ?_; rintro e wb ⟨A4, c4, rfl, mB, sT, Lm, jI⟩))
 all_goals
  have xC := iD (pq.ab jI)
  have JB : Hid (bY w wb L S K L S K) := G0.trans (bY.ak jI)
  have QX := iD Lm
  clear jI Lm mB sT d7 d9
  go_wp2_with (fail)
  refine (nX A4 l c4 img wb QX uY Dm oM).mono ?_
  rintro e w5 ⟨rfl, q, rfl⟩
  rw [Yq]
  have Bn : Hid (bW wb (wb.drewN q)) := Below.drewN (Below.refl wb.heap.size wb) q
  have sc := iD (xC.ab Bn)
  have JA : Hid (bY w (wb.drewN q) L S K L S K) := JB.trans (bY.ak Bn)
  generalize wb.drewN q = W5 at sc JA ⊢
  clear Bn
  have PE : Hid (∀ W, bW W5 W → W.cell? ⟨K.D, 7, none⟩ = some (.int .i64 D) ∧ W.cell? ⟨K.D, 8, none⟩ = some (.int .i64 b.version) ∧ W.cell? ⟨K.D, 9, none⟩ = some (.int .i64 l)) := fun W hB => by
   have h1 := (sc.ab hB).row 7 _ rfl
   have h2 := (sc.ab hB).row 9 _ rfl
   have h3 := (sc.ab hB).row 8 _ rfl
   rw [show ({ ar b f with au := false } : Bk).dst = D from Nu] at h1
   rw [show ({ ar b f with au := false } : Bk).length = l from ya] at h2
   exact ⟨h1, h3, h2⟩
  have HKA : Hid (∀ (W : World) (s : St), bo w0 W L S K f { ar b f with au := false, st := s } → W.cell? ⟨K.D, 7, none⟩ = some (.int .i64 D) ∧ W.cell? ⟨K.D, 8, none⟩ = some (.int .i64 b.version) ∧ W.cell? ⟨K.D, 9, none⟩ = some (.int .i64 l)) := fun W s hK => by
   have h1 := hK.row 7 _ rfl
   have h2 := hK.row 9 _ rfl
   have h3 := hK.row 8 _ rfl
   rw [show ({ ar b f with au := false, st := s } : Bk).dst = D from Nu] at h1
   rw [show ({ ar b f with au := false, st := s } : Bk).length = l from ya] at h2
   exact ⟨h1, h3, h2⟩
  obtain ⟨JP, Ey, hl3⟩ := sc.lit #[.int .i64 b.version, .int .i64 l, .int .i64 C] [b.version, (l : Int), C] rfl (W5.alloc (.cells #[.int .i64 b.version, .int .i64 l, .int .i64 C] 3)) rfl
  have abB : Hid (∀ W', Below (W5.alloc (.cells #[.int .i64 b.version, .int .i64 l, .int .i64 C] 3)).heap.size (W5.alloc (.cells #[.int .i64 b.version, .int .i64 l, .int .i64 C] 3)) W' → Calls prog 74 #[.pointer (some ⟨K.D, 0, none⟩), .int .i64 (3 + 3 * (D : Int)), .slice (some ⟨W5.heap.size, 0, none⟩) 3 3] W' fun e w' => e = .returned .nilIface ∧ bo w0 w' L S K f { ar b f with au := false, st := dC b.st (3 + 3 * D) [b.version, (l : Int), C] } ∧ bY W5 w' L S K L S K) := fun W' hb => by
   refine (CB (JP.ab hb) HO.ok (3 + 3 * (D : Int)) (3 + 3 * D) (by push_cast; rfl) oM rfl (by simp) (hl3.ao (ah.ak hb)) OK1 HI1).mono ?_
   rintro e w' ⟨he, hk, hx⟩
   exact ⟨he, hk, Ey.trans ((bY.ak hb).trans (bY.iQ hx rfl rfl))⟩
  clear JP Ey hl3
  obtain ⟨d7, d8, d9⟩ := PE _ bV
  go_wp2_with (fail)
  go_region_held3 (fun w9 => w9.cell? ⟨K.D, 7, none⟩ = some (.int .i64 D) ∧ w9.cell? ⟨K.D, 8, none⟩ = some (.int .i64 b.version) ∧ w9.cell? ⟨K.D, 9, none⟩ = some (.int .i64 l)) (first | exact PE _ (Below.drewN bV _) | exact PE _ (Below.drew bV) | exact HKA _ _ (by assumption) | exact PE _ (Below.drew (bV.alloc cV _)) | go_keep) (first
   | (go_at_call 74; with_reducible refine (abB.out _ (by first | exact Below.refl _ _ | exact Below.drew bV | exact Below.drewN bV _)).mono ?_; rintro e wa ⟨rfl, nU, Cw⟩; obtain ⟨x7, x8, x9⟩ := HKA.out _ _ nU)
   | (go_at_call 74; with_reducible refine (FS2.out _ nU).mono ?_; rintro e wc ⟨rfl, hKc, hAc⟩; obtain ⟨y7, y8, y9⟩ := HKA.out _ _ hKc)
   | fail)
  all_goals
   have Re := iD hKc
   have HAC : Hid (bY w wc L S K L S K) := JA.trans (Cw.trans hAc)
   clear nU Cw hKc hAc
   go_wp2_with (fail)
   refine (FRC _ Re).mono ?_
   rintro e wd ⟨rfl, hk⟩
   have HKD := iD hk
   clear hk
   go_wp2
   go_ret
   rw [HB]
   exact ⟨rfl, .then HAC HKD⟩
end
theorem bS.xF (h : bS f b) (hs : eo f g) (s : St) (br : Bool) (sl : Nat) (er : List Int) (da : Option (List Int)) (rc : Bool) (dV : bD g s) (AX : Same b.st s) (Qn : Lg s.ax s.an) (cQ : s.af = false ∨ br = true) (lQ : sl ≤ 2) (Gw : ∀ e ∈ er, e ∈ b.erase) (YU : da = none ∨ da = b.data) :
 bS g { b with st := s, af := br, av := sl, erase := er, data := da, bh := rc } := by
 have hz : aN g b.aa = aN f b.aa := by unfold aN; rw [hs.p]
 refine ⟨dV, ?_, ?_, ?_, Qn, cQ, h.bk, h.k1, h.k8, ?_, ?_, lQ, h.dst, h.DL, ?_, h.cH, fun e he => h.er e (Gw e he), fun d hd => ?_, h.page⟩
 ·show s.ax = aH (aN g b.aa)
  rw [AX.ax, hz]
  exact h.sp
 ·show s.first = b.first
  rw [AX.first]; exact h.fi
 ·show s.aa = 2
  rw [AX.aa]; exact h.bl
 ·show b.first + b.aa ≤ g.aq.length
  rw [hs.w]; exact h.fw
 ·rw [hs.p]; exact h.pg
 ·show b.length ≤ aN g b.aa
  rw [hz]; exact h.len
 have kX : da = some d := hd
 rcases YU with e | e
 ·rw [e] at kX; cases kX
 exact h.dt d (by rw [← e]; exact kX)
theorem oA : ∀ (l : List Int) (s : St) (i : Nat), Same s (dC s i l)
 | [], s, i => Same.refl s
 | v :: l, s, i => (eG s i v).trans (oA l _ _)
theorem oB {f : Fl} : ∀ {l : List Int} {s : St} {i : Nat}, dU f s → (∀ x ∈ l, dH x) → dU f (dC s i l)
 | [], s, i, h, hl => h
 | v :: l, s, i, h, hl => oB (l := l) (h.set (hl v (by simp))) (fun x hx => hl x (by simp [hx]))
theorem ej.JJ {o : Option (List Int)} (h : ej f s v o) : xS f s o := by
 rcases h.2 with ⟨h1, h2⟩ | ⟨h1, h2⟩
 ·exact .inl ⟨by rw [Ki h1.up]; exact h1, h2⟩
 exact .inr ⟨h1, h2⟩
theorem ej.lg {o : Option (List Int)} (h : ej f s v o) : Lg s.ax s.an := by
 rcases h.2 with ⟨h1, _⟩ | ⟨h1, _⟩
 ·exact h1.xq
 exact h1.xq
theorem dU.U4 (h : dU f s) : ej f s s.an (if s.bt = true then some s.values else none) := ⟨rfl, .inl ⟨h, rfl⟩⟩
theorem CQ (h : dU f s) : ∃ v o, ej (aA s f).2.1 (aA s f).1 v o ∧ ((aA s f).2.2 = 0 → v = s.aj ∧ o = none) := by
 rcases h.U4.wO with ⟨h1, h2⟩ | ⟨h1, h2⟩ | ⟨h1, h2, h3⟩
 ·exact ⟨_, _, h2, fun _ => ⟨rfl, rfl⟩⟩
 ·exact ⟨_, _, h2, fun e => by rw [e] at h1; cases h1⟩
 exact ⟨_, _, h3, fun e => absurd e h1⟩
theorem ej.sJ (h : ej f s v none) : dU f s ∧ s.bt = false := by
 rcases h.2 with ⟨h1, h2⟩ | ⟨_, h2⟩
 ·refine ⟨h1, ?_⟩
  cases hb : s.bt with
  | false => rfl
  | true => rw [hb] at h2; cases h2
 cases h2
theorem Pa (h : jJ f b n) : jJ (cz b f).2.1 (cz b f).1 (n + 1) := by
 have h' := h.fk
 unfold cz
 split
 ·exact h'.more oM
 rename_i hb
 split
 ·exact h'.more oM
 obtain ⟨va, vt, vk, v0, l0, c0, v1, l1, c1, hv, b1, b2, b3, -⟩ := h.ok.vec
 have Cf : aU b 0 = (va : Int) := by unfold aU; rw [hv]; rfl
 have iE : aU b 1 = (vt : Int) := by unfold aU; rw [hv]; rfl
 have jB : aU b 2 = (vk : Int) := by unfold aU; rw [hv]; rfl
 split
 ·refine (h'.with (c := { ar b f with av := (aU b 0).toNat }) ?_ rfl rfl rfl h'.Ag h'.F6 h'.ul).more oM
  have ho := h'.ok
  exact ⟨ho.ok, ho.sp, ho.fi, ho.bl, ho.lg, ho.br, ho.bk, ho.k1, ho.k8, ho.fw, ho.pg, by show (aU b 0).toNat ≤ 2; rw [Cf]; omega, ho.dst, ho.DL, ho.len, ho.cH, ho.er, ho.dt, ho.page⟩
 have jH : (ar b f).af = false := by simpa using hb
 obtain ⟨u1, u2⟩ := fV jH
 obtain ⟨hl, hr⟩ := h.lv u1 u2
 obtain ⟨s, hs⟩ := ex (if 0 < aU b 2 then aV b.st 2 (aU b 2 - 1) else aV b.st 1 2)
 have hls : dU f s := by
  rw [← hs]
  split
  ·exact hl.set (by rw [jB]; unfold dH; omega)
  exact hl.set (by unfold dH; omega)
 have nO : Same b.st s := by
  rw [← hs]
  split
  ·exact eG _ _ _
  exact eG _ _ _
 have rN : s.seq = b.st.seq := by
  rw [← hs]
  split
  ·exact mg _ _ _
  exact mg _ _ _
 have nS : s.bt = b.st.bt := by
  rw [← hs]
  split
  ·exact (pM _ _ _).2.1
  exact (pM _ _ _).2.1
 simp only [hs]
 obtain ⟨v, o, fB, hz⟩ := CQ hls
 have ka := ju s f
 have AX := nO.trans (rz s f)
 have Im := oc s f
 have Uk : (aA s f).2.1.ok := fB.wv
 split
 ·rename_i hc
  refine ⟨h'.ok.xF ka _ true b.av b.erase b.data b.bh fB.ok AX fB.lg (.inr rfl) h.ok.av (fun e he => he) (.inr rfl), Uk, fun e => (by cases e), fun e => (by cases e), ⟨_, fB.JJ⟩, h'.Ag, fun d hd => ?_, by show (aA s f).1.seq ≤ n + 1; have := h.sq; omega, h'.ul⟩
  rw [ka.p]
  exact h'.F6 d hd
 rename_i hc
 have Cv : (aA s f).2.2 = 0 := Classical.byContradiction hc
 obtain ⟨rfl, rfl⟩ := hz Cv
 obtain ⟨Gt, hbz⟩ := fB.sJ
 have aaE : b.st.bt = false := by
  cases nA : b.st.bt with
  | false => rfl
  | true =>
   have he : aO s f = 14 := by
    unfold aO
    rw [hls.br, u2, iN (by decide), nS, nA, iP rfl]
   have : (aA s f).2.2 = 14 := by unfold aA; rw [iP (by rw [he]; decide)]; exact he
   rw [this] at Cv
   cases Cv
 refine ⟨h'.ok.xF ka _ (ar b f).af _ b.erase b.data b.bh fB.ok AX fB.lg (.inl Gt.br) ?_ (fun e he => he) (.inr rfl), Uk, fun _ _ => ⟨Gt, ?_⟩, fun _ => Gt.up, ⟨_, fB.JJ⟩, h'.Ag, fun d hd => ?_, by show (aA s f).1.seq ≤ n + 1; have := h.sq; omega, h'.ul⟩
 ·split
  ·rw [iE]; omega
  rw [Cf]; omega
 ·show b.bh = _
  rw [hr, aaE, hbz]
 rw [ka.p]
 exact h'.F6 d hd
theorem KC (h : jJ f b n) (hb : b.af = false) (hd : f.aF = false) (hl : dU f s) (AX : Same b.st s) (rN : s.seq = b.st.seq) (nS : s.bt = b.st.bt) (fB : s.an = b.st.an) : jJ f (jx b s f) n := by
 obtain ⟨hlb, hr⟩ := h.lv hb hd
 have Gt : dU f (aZ s f) := hl.begin
 have Nc : (if aO s f = 0 then true else b.bh) = (aZ s f).bt := by
  split
  ·rename_i he
   exact (gI he).1.symm
  rename_i he
  rw [hl.iY he, nS]
  exact hr
 refine ⟨h.ok.xF (eo.refl f) _ b.af b.av b.erase b.data _ Gt.ok (AX.trans (lK s f)) Gt.xq (.inl Gt.br) h.ok.av (fun e he => he) (.inr rfl), h.fo, fun _ _ => ⟨Gt, Nc⟩, fun _ => hd, ⟨_, xS.live Gt⟩, h.Ag, h.F6, ?_, h.ul⟩
 show (aZ s f).seq ≤ n
 rw [na, rN]
 exact h.sq
theorem E3 (h : jJ f b n) : jJ f (bJ b f).1 n := by
 have h' := h.fk
 unfold bJ
 split
 ·exact h'
 rename_i hb
 split
 ·exact h'
 split
 ·exact h'
 have jH : (ar b f).af = false := by simpa using hb
 obtain ⟨u1, u2⟩ := fV jH
 obtain ⟨hl, _⟩ := h.lv u1 u2
 have hI : ∀ x ∈ [(b.av : Int), 2, 0], dH x := fun x hx => by
  have := h.ok.av
  simp only [List.mem_cons, List.not_mem_nil, or_false] at hx
  rcases hx with rfl | rfl | rfl <;> (unfold dH; omega)
 obtain ⟨k1, k2, k3, k4, -⟩ := gW [(b.av : Int), 2, 0] b.st 0
 exact KC h' jH u2 (oB hl hI) (oA _ _ _) k3 k2 k4
theorem IM (h : jJ f b n) (hc : 0 ≤ c ∧ c < 4294967296) : jJ f (bU b f c).1 n := by
 have h' := h.fk
 unfold bU
 split
 ·exact h'
 rename_i hb
 split
 ·exact h'
 split
 ·exact h'
 have jH : (ar b f).af = false := by simpa using hb
 obtain ⟨u1, u2⟩ := fV jH
 have hw : jJ f { ar b f with au := false } n := by
  have ho := h'.ok
  exact h'.with ⟨ho.ok, ho.sp, ho.fi, ho.bl, ho.lg, ho.br, ho.bk, ho.k1, ho.k8, ho.fw, ho.pg, ho.av, ho.dst, ho.DL, ho.len, ho.cH, ho.er, ho.dt, ho.page⟩ rfl rfl rfl h'.Ag h'.F6 (fun e => by cases e)
 split
 ·exact hw
 obtain ⟨hl, _⟩ := h.lv u1 u2
 have hl8 : b.length ≤ 8192 := Nat.le_trans h.ok.len (by rw [h.ok.bk]; exact ec h.fo h.ok.k8)
 have Us : ∀ x ∈ [b.version, (b.length : Int), c], dH x := fun x hx => by
  have := h.ok.DL
  simp only [List.mem_cons, List.not_mem_nil, or_false] at hx
  rcases hx with rfl | rfl | rfl <;> (unfold dH; omega)
 have WH : ∀ x ∈ [(b.dst : Int), 3], dH x := fun x hx => by
  have := h.ok.dst
  simp only [List.mem_cons, List.not_mem_nil, or_false] at hx
  rcases hx with rfl | rfl <;> (unfold dH; omega)
 obtain ⟨k1, k2, k3, k4, -⟩ := gW [b.version, (b.length : Int), c] b.st (3 + 3 * b.dst)
 obtain ⟨j1, j2, j3, j4, -⟩ := gW [(b.dst : Int), 3] (dC b.st (3 + 3 * b.dst) [b.version, (b.length : Int), c]) 1
 exact KC hw jH u2 (oB (oB hl Us) WH) ((oA _ _ _).trans (oA _ _ _)) (j3.trans k3) (j2.trans k2) (j4.trans k4)
theorem CH {b : Int} (h : (aT f b).2 = 0) (hd : f.aF = false) : (aT f b).1.aF = false := by
 revert h
 unfold aT
 split
 ·intro e; cases e
 split
 ·intro e; cases e
 split
 ·intro e; cases e
 rename_i h1 h2 h3
 intro _
 rcases m6 f with ⟨e, _⟩ | ⟨_, e⟩
 ·exact absurd e h3
 exact e.trans hd
theorem D6 {p : Int} {b : List Int} (h : (bz f p b).2 = 0) (hd : f.aF = false) : (bz f p b).1.aF = false := by
 revert h
 unfold bz
 split
 ·rename_i h1; intro e; exact absurd e h1
 split
 ·intro e; cases e
 split
 ·intro e; cases e
 split
 ·intro e; cases e
 rename_i h1 h2 h3 h4
 intro _
 rcases m6 f with ⟨e, _⟩ | ⟨_, e⟩
 ·exact absurd e h4
 exact e.trans hd
theorem FQ (h : jJ f b n) : jJ (aK b f).2.1 (aK b f).1 (n + 1) := by
 have h' := h.fk
 unfold aK
 split
 ·exact h'.more oM
 rename_i hb
 have jH : (ar b f).af = false := by simpa using hb
 obtain ⟨u1, u2⟩ := fV jH
 obtain ⟨hl, hr⟩ := h.lv u1 u2
 have lX : b.st.first = b.first := h.ok.fi
 have cB : b.st.aa = 2 := h.ok.bl
 have rN : b.st.seq ≤ n + 1 := by have := h.sq; omega
 cases he : b.erase with
 | cons e l =>
  simp only
  obtain ⟨x1, x2⟩ := h.Ag e (by rw [he]; simp)
  obtain ⟨E, rfl⟩ : ∃ E : Nat, e = E := ⟨e.toNat, oM⟩
  have dc := kr (f := f) (block := (E : Int)) h.fo
  have ka := iV f (E : Int)
  have iA : ∀ x, b.st.first * f.pg ≤ x → x < (b.st.first + b.st.aa) * f.pg → aB (aT f (E : Int)).1 x = aB f x := fun x h1 h2 => by
   refine qm h.fo ?_
   rw [lX, cB] at h2
   have : (b.first + 2) * f.pg ≤ E * f.pg := Nat.mul_le_mul_right _ oM
   omega
  have Qh : ∀ d, b.data = some d → (b.first + 2) * (aT f (E : Int)).1.pg ≤ b.page ∧ b.page < (b.first + b.aa) * (aT f (E : Int)).1.pg := fun d hd => by rw [ka.p]; exact h.F6 d hd
  have Lk : ∃ o, xS (aT f (E : Int)).1 b.st o := ⟨_, .inl ⟨hl.KY ka dc iA, rfl⟩⟩
  split
  ·exact ⟨h'.ok.xF ka b.st true b.av b.erase b.data b.bh (hl.ok.shape ka) (Same.refl _) h.ok.lg (.inr rfl) h.ok.av (fun e he => he) (.inr rfl), dc, fun e => (by cases e), fun e => (by cases e), Lk, h.Ag, Qh, rN, h.ul⟩
  rename_i hc
  have Cv : (aT f (E : Int)).2 = 0 := Classical.byContradiction hc
  have qg := CH Cv u2
  exact ⟨h'.ok.xF ka b.st (ar b f).af b.av l b.data b.bh (hl.ok.shape ka) (Same.refl _) h.ok.lg (.inl hl.br) h.ok.av (fun x hx => by show x ∈ b.erase; rw [he]; simp [hx]) (.inr rfl), dc, fun _ _ => ⟨hl.RQ ka dc qg iA, hr⟩, fun _ => qg, Lk, fun x hx => h.Ag x (by rw [he]; simp only [List.mem_cons]; exact .inr hx), Qh, rN, h.ul⟩
 | nil =>
  cases hd : b.data with
  | some d =>
   simp only
   obtain ⟨x1, x2⟩ := h.F6 d hd
   obtain ⟨y1, y2⟩ := h.ok.dt d hd
   have dc := nK (f := f) (page := (b.page : Int)) h.fo y2
   have ka := jz f (b.page : Int) d
   have iA : ∀ x, b.st.first * f.pg ≤ x → x < (b.st.first + b.st.aa) * f.pg → aB (bz f (b.page : Int) d).1 x = aB f x := fun x h1 h2 => by
    rw [lX, cB] at h2
    exact sE h.fo y1 oM
   have Qh : ∀ d2, b.data = some d2 → (b.first + 2) * (bz f (b.page : Int) d).1.pg ≤ b.page ∧ b.page < (b.first + b.aa) * (bz f (b.page : Int) d).1.pg := fun d2 qg => by rw [ka.p]; exact h.F6 d2 qg
   have Lk : ∃ o, xS (bz f (b.page : Int) d).1 b.st o := ⟨_, .inl ⟨hl.KY ka dc iA, rfl⟩⟩
   split
   ·exact ⟨h'.ok.xF ka b.st true b.av b.erase b.data b.bh (hl.ok.shape ka) (Same.refl _) h.ok.lg (.inr rfl) h.ok.av (fun e he => he) (.inr rfl), dc, fun e => (by cases e), fun e => (by cases e), Lk, h.Ag, Qh, rN, h.ul⟩
   rename_i hc
   have Cv : (bz f (b.page : Int) d).2 = 0 := Classical.byContradiction hc
   have qg := D6 Cv u2
   exact ⟨h'.ok.xF ka b.st (ar b f).af b.av b.erase none b.bh (hl.ok.shape ka) (Same.refl _) h.ok.lg (.inl hl.br) h.ok.av (fun e he => he) (.inl rfl), dc, fun _ _ => ⟨hl.RQ ka dc qg iA, hr⟩, fun _ => qg, Lk, h.Ag, fun d2 qg => (by cases qg), rN, h.ul⟩
  | none =>
   simp only
   split
   ·rename_i xM
    have nS : b.st.bt = true := by rw [← hr]; exact xM
    have ka := gq b.st f
    have AX := mJ b.st f
    have VG := mc hl.ok
    have Uk := ym h.fo hl.ok
    have Im : (aI b.st f).1.seq ≤ n + 1 := by
     have e1 := ss b.st f
     have e2 := h.sq
     split at e1 <;> omega
    have Qh : ∀ d, b.data = some d → (b.first + 2) * (aI b.st f).2.1.pg ≤ b.page ∧ b.page < (b.first + b.aa) * (aI b.st f).2.1.pg := fun d qg => by rw [ka.p]; exact h.F6 d qg
    split
    ·rename_i hc
     cases hl.step nS with
     | more e1 e2 => exact absurd e2 hc
     | last e1 e2 => exact absurd e2 hc
     | dead e1 e2 e3 => exact ⟨h'.ok.xF ka _ true b.av b.erase b.data b.bh VG AX e3.xq (.inr rfl) h.ok.av (fun e he => he) (.inr rfl), Uk, fun e => (by cases e), fun e => (by cases e), ⟨_, .inr ⟨e3, rfl⟩⟩, h.Ag, Qh, Im, h.ul⟩
    rename_i hc
    have Cv : (aI b.st f).2.2.2 = 0 := Classical.byContradiction hc
    cases hl.step nS with
    | more e1 e2 e3 e4 => exact ⟨h'.ok.xF ka _ (ar b f).af b.av b.erase b.data _ VG AX e3.xq (.inl e3.br) h.ok.av (fun e he => he) (.inr rfl), Uk, fun _ _ => ⟨e3, by show (!(aI b.st f).2.2.1) = _; rw [e1, e4]; rfl⟩, fun _ => e3.up, ⟨_, xS.live e3⟩, h.Ag, Qh, Im, h.ul⟩
    | last e1 e2 e3 e4 => exact ⟨h'.ok.xF ka _ (ar b f).af b.av b.erase b.data _ VG AX e3.xq (.inl e3.br) h.ok.av (fun e he => he) (.inr rfl), Uk, fun _ _ => ⟨e3, by show (!(aI b.st f).2.2.1) = _; rw [e1, e4]; rfl⟩, fun _ => e3.up, ⟨_, xS.live e3⟩, h.Ag, Qh, Im, h.ul⟩
    | dead e1 e2 => rw [Cv] at e2; cases e2
   exact h'.more oM
section
variable {f g : Fl} (h : fC f g)
include h
theorem fC.fk (b : Bk) : ar b g = ar b f := by unfold ar; rw [h.aF]
theorem fC.YC (n : Nat) : aN g n = aN f n := by unfold aN; rw [h.pg]
theorem fC.YF (a b : Int) : eC g a b = eC f a b := by unfold eC; rw [h.aF, h.aq, h.pg]
theorem fC.fv (b : Bk) (s n : Nat) : YtjdknddnanopaaaGreat.fv g b s n = YtjdknddnanopaaaGreat.fv f b s n := by unfold YtjdknddnanopaaaGreat.fv; rw [h.img, h.pg]
theorem fC.cz (b : Bk) : (YtjdknddnanopaaaGreat.cz b g).1 = (YtjdknddnanopaaaGreat.cz b f).1 ∧ (YtjdknddnanopaaaGreat.cz b g).2.2 = (YtjdknddnanopaaaGreat.cz b f).2.2 ∧ fC (YtjdknddnanopaaaGreat.cz b f).2.1 (YtjdknddnanopaaaGreat.cz b g).2.1 := by
 unfold YtjdknddnanopaaaGreat.cz
 rw [h.fk]
 split
 ·exact ⟨rfl, rfl, h⟩
 split
 ·exact ⟨rfl, rfl, h⟩
 split
 ·exact ⟨rfl, rfl, h⟩
 simp only
 generalize (if 0 < aU b 2 then aV b.st 2 (aU b 2 - 1) else aV b.st 1 2) = s
 obtain ⟨h1, h2, h3⟩ := h.wO s
 rw [h1, h2]
 split
 ·exact ⟨rfl, rfl, h3⟩
 exact ⟨rfl, rfl, h3⟩
theorem fC.cA (b : Bk) (v n : Int) : YtjdknddnanopaaaGreat.cA b g v n = YtjdknddnanopaaaGreat.cA b f v n := by
 unfold YtjdknddnanopaaaGreat.cA
 rw [h.fk, h.YC]
theorem fC.dG (b : Bk) (x : List Int) : YtjdknddnanopaaaGreat.dG b g x = YtjdknddnanopaaaGreat.dG b f x := by
 unfold YtjdknddnanopaaaGreat.dG
 rw [h.fk, h.pg]
theorem fC.jx (b : Bk) (s : St) : YtjdknddnanopaaaGreat.jx b s g = YtjdknddnanopaaaGreat.jx b s f := by
 unfold YtjdknddnanopaaaGreat.jx
 rw [h.aZ, h.aO]
theorem fC.bU (b : Bk) (c : Int) : YtjdknddnanopaaaGreat.bU b g c = YtjdknddnanopaaaGreat.bU b f c := by
 unfold YtjdknddnanopaaaGreat.bU
 rw [h.fk, h.fv, h.jx]
theorem fC.ei (b : Bk) : YtjdknddnanopaaaGreat.ei b g = YtjdknddnanopaaaGreat.ei b f := by
 unfold YtjdknddnanopaaaGreat.ei
 rw [h.fk]
theorem fC.bJ (b : Bk) : YtjdknddnanopaaaGreat.bJ b g = YtjdknddnanopaaaGreat.bJ b f := by
 unfold YtjdknddnanopaaaGreat.bJ
 rw [h.fk, h.jx]
theorem fC.aK (b : Bk) : (YtjdknddnanopaaaGreat.aK b g).1 = (YtjdknddnanopaaaGreat.aK b f).1 ∧ (YtjdknddnanopaaaGreat.aK b g).2.2 = (YtjdknddnanopaaaGreat.aK b f).2.2 ∧ fC (YtjdknddnanopaaaGreat.aK b f).2.1 (YtjdknddnanopaaaGreat.aK b g).2.1 := by
 unfold YtjdknddnanopaaaGreat.aK
 rw [h.fk]
 split
 ·exact ⟨rfl, rfl, h⟩
 split
 ·rename_i e l _
  obtain ⟨h1, h2⟩ := h.erase e
  rw [h1]
  split
  ·exact ⟨rfl, rfl, h2⟩
  exact ⟨rfl, rfl, h2⟩
 split
 ·rename_i d _
  obtain ⟨h1, h2⟩ := h.prog b.page d
  rw [h1]
  split
  ·exact ⟨rfl, rfl, h2⟩
  exact ⟨rfl, rfl, h2⟩
 split
 ·obtain ⟨h1, h2, h3⟩ := h.step b.st
  rw [h1, h2]
  split
  ·exact ⟨rfl, rfl, h3⟩
  exact ⟨rfl, rfl, h3⟩
 exact ⟨rfl, rfl, h⟩
theorem fC.dp (b : Bk) (s : Int) : YtjdknddnanopaaaGreat.dp b g s = YtjdknddnanopaaaGreat.dp b f s := by
 unfold YtjdknddnanopaaaGreat.dp
 rw [h.fk, h.fv]
theorem fC.SP (a b : Int) : dR g a b = dR f a b ∧ dI g a b = dI f a b := by
 unfold dR dI
 rw [h.YF, h.YC, h.aJ]
 exact ⟨rfl, rfl⟩
theorem bS.xG (k : bS f b) : bS g b :=
 ⟨k.ok.shape ⟨h.pg, by rw [h.aq]⟩, by rw [h.YC]; exact k.sp, k.fi, k.bl, k.lg, k.br, k.bk, k.k1, k.k8, by rw [h.aq]; exact k.fw, by rw [h.pg]; exact k.pg, k.av, k.dst, k.DL, by rw [h.YC]; exact k.len, k.cH, k.er, k.dt, k.page⟩
theorem xS.xG (hg : g.ok) {o : Option (List Int)} (k : xS f s o) : xS g s o := by
 rcases k with ⟨k1, k2⟩ | ⟨k1, k2⟩
 ·exact .inl ⟨k1.fl (g := PX g) h.img h.pg h.aq rfl (DO hg), k2⟩
 exact .inr ⟨k1.fl h.img h.pg h.aq h.aF hg, k2⟩
theorem jJ.xG (hg : g.ok) (k : jJ f b n) : jJ g b n :=
 ⟨bS.xG h k.ok, hg, fun hb hd => ⟨(k.lv hb (by rw [← h.aF]; exact hd)).1.fl h.img h.pg h.aq h.aF hg, (k.lv hb (by rw [← h.aF]; exact hd)).2⟩, fun hb => by rw [h.aF]; exact k.dn hb, by
  obtain ⟨o, ho⟩ := k.JJ
  exact ⟨o, xS.xG h hg ho⟩, k.Ag, by rw [h.pg]; exact k.F6, k.sq, k.ul⟩
end
structure uu (p : Nat) (b : Bk) : Prop where
 al : b.cH % 64 = 0 ∨ b.cH = b.length
 pg : ∀ d, b.data = some d → b.page = cI b b.dst * p + (b.cH - 1) / 64 ∧ 1 ≤ b.cH
section
variable {f : Fl} {b : Bk}
theorem KX (p : Nat) (s : St) (a n : Nat) : uu p (pT s a n) := ⟨.inl rfl, fun d hd => by cases hd⟩
theorem uu.fk (h : uu p b) : uu p (ar b f) := ⟨h.al, h.pg⟩
theorem uu.same {c : Bk} (h : uu p b) (h1 : c.cH = b.cH) (h2 : c.length = b.length) (h3 : c.first = b.first) (h4 : c.aa = b.aa) (h5 : c.dst = b.dst) (h6 : c.page = b.page) (h7 : c.data = b.data ∨ c.data = none) : uu p c := by
 refine ⟨by rw [h1, h2]; exact h.al, fun d hd => ?_⟩
 rcases h7 with h7 | h7
 ·rw [h7] at hd
  obtain ⟨k1, k2⟩ := h.pg d hd
  refine ⟨?_, by rw [h1]; exact k2⟩
  rw [h6, h1, h5, k1]
  unfold cI Bk.k
  rw [h3, h4]
 rw [h7] at hd
 cases hd
theorem O9 (h : uu p b) : uu p (cz b f).1 := by
 unfold cz
 split
 ·exact h.fk
 split
 ·exact h.fk
 split
 ·exact h.same rfl rfl rfl rfl rfl rfl (.inl rfl)
 simp only
 generalize (if 0 < aU b 2 then aV b.st 2 (aU b 2 - 1) else aV b.st 1 2) = s
 by_cases hc : (aA s f).2.2 ≠ 0
 ·rw [iP hc]
  exact h.same rfl rfl rfl rfl rfl rfl (.inl rfl)
 rw [iN hc]
 exact h.same rfl rfl rfl rfl rfl rfl (.inl rfl)
theorem Mr (h : uu p b) (v n : Int) : uu p (cA b f v n).1 := by
 unfold cA
 split
 ·exact h.fk
 split
 ·exact h.fk
 split
 ·exact h.fk
 rename_i hw
 split
 ·exact h.fk
 refine ⟨.inl rfl, fun d hd => ?_⟩
 have kX : b.data = some d := hd
 unfold bO at hw
 rw [kX] at hw
 simp at hw
theorem OP (h : uu f.pg b) (Iv : b.cH ≤ b.length) (x : List Int) : uu f.pg (dG b f x).1 := by
 unfold dG
 split
 ·exact h.fk
 split
 ·exact h.fk
 rename_i h2
 split
 ·exact h.fk
 split
 ·exact h.fk
 rename_i h4
 have h4' : x.length = min 64 (b.length - b.cH) := Classical.byContradiction h4
 have fR : b.cH ≠ b.length := fun e => h2 (.inr e)
 have hal : b.cH % 64 = 0 := h.al.resolve_right fR
 refine ⟨?_, fun d _ => ?_⟩
 ·show (b.cH + x.length) % 64 = 0 ∨ b.cH + x.length = b.length
  omega
 show cI b b.dst * f.pg + b.cH / 64 = cI b b.dst * f.pg + (b.cH + x.length - 1) / 64 ∧ 1 ≤ b.cH + x.length
 have : (b.cH + x.length - 1) / 64 = b.cH / 64 := oM
 rw [this]
 exact ⟨rfl, oM⟩
theorem IL (h : uu p b) (c : Int) : uu p (bU b f c).1 := by
 unfold bU
 split
 ·exact h.fk
 split
 ·exact h.fk
 split
 ·exact h.fk
 split
 ·exact h.same rfl rfl rfl rfl rfl rfl (.inl rfl)
 exact h.same rfl rfl rfl rfl rfl rfl (.inl rfl)
theorem Mz (h : uu p b) : uu p (ei b f).1 := by
 unfold ei
 split
 ·exact h.fk
 split
 ·exact h.fk
 exact h.same rfl rfl rfl rfl rfl rfl (.inr rfl)
theorem E0 (h : uu p b) : uu p (bJ b f).1 := by
 unfold bJ
 split
 ·exact h.fk
 split
 ·exact h.fk
 split
 ·exact h.fk
 exact h.same rfl rfl rfl rfl rfl rfl (.inl rfl)
theorem NR (h : uu p b) : uu p (aK b f).1 := by
 unfold aK
 split
 ·exact h.fk
 split
 ·split
  ·exact h.same rfl rfl rfl rfl rfl rfl (.inl rfl)
  exact h.same rfl rfl rfl rfl rfl rfl (.inl rfl)
 split
 ·split
  ·exact h.same rfl rfl rfl rfl rfl rfl (.inl rfl)
  exact h.same rfl rfl rfl rfl rfl rfl (.inr rfl)
 split
 ·split
  ·exact h.same rfl rfl rfl rfl rfl rfl (.inl rfl)
  exact h.same rfl rfl rfl rfl rfl rfl (.inl rfl)
 exact h.fk
end
theorem uR (h : b.af = false) (hd : f.aF = false) : ar b f = b := by
 unfold ar
 rw [h, hd]
 obtain ⟨_, _, _, _, _, _, _, _, _, _, _, _, _, _⟩ := b
 simp only at h
 subst h
 rfl
theorem Fa (h : b.af = false) (hd : f.aF = false) (hs : b.av = 2) (h0 : aU b 0 = a) (h1 : aU b 1 = 2) : cz b f = ({ b with av := a }, f, (a : Int), 0) := by
 unfold cz
 rw [uR h hd, iN (by rw [h]; decide), iN (by rw [hs]; simp), h1, iP rfl, h0, Int.toNat_natCast]
theorem Cc (h : b.af = false) (hd : f.aF = false) {s n : Nat} {img : List Int} (hs : s ≤ 1) (hn : aU b (4 + 3 * s) = n) (yQ : 1 ≤ n) (hu : b.au = false ∨ b.dst ≠ s) (hi : fv f b s n = img) (hc : aU b (5 + 3 * s) = eS img) : dp b f (s : Int) = (b, img, 0) := by
 unfold dp
 rw [uR h hd, iN (by rw [h]; decide), iN oM, Int.toNat_natCast, hn, iN (by
  rintro (e | e)
  ·omega
  rcases hu with hu | hu
  ·rw [hu] at e; cases e.1
  exact hu oM), Int.toNat_natCast, hi, hc, iN (by simp)]
theorem s7 (h : bB w0 w L f) (first aa : Int) (hE : eC f first aa = 0) (hz : dR f first aa = 0) (Is : cn L.E w L.Ap (ag .u8 f.az)) :
 Calls prog 17 #[.pointer (some ⟨L.d, 0, none⟩), .int .i64 first, .int .i64 aa] w (AQ w0 w L f (dI f first aa)) :=
 (Gd h first aa hE Is).mono (fun e w' hh => by rw [iP hz] at hh; exact hh)
theorem II (h : bB w0 w L f) (first aa : Int) (hE : eC f first aa = 0) (hz : dR f first aa ≠ 0) (Is : cn L.E w L.Ap (ag .u8 f.az)) :
 Calls prog 17 #[.pointer (some ⟨L.d, 0, none⟩), .int .i64 first, .int .i64 aa] w fun e w' => e = .returned (.tuple #[.pointer none, fy (dR f first aa)]) ∧ bW w w' :=
 (Gd h first aa hE Is).mono (fun e w' hh => by rw [iN hz] at hh; exact hh)
theorem wM (s n : Int) (N : Nat) (hN : (dT n 0 2000).toNat = N) (w : World) : Calls prog 11 #[.int .i64 s, .int .i64 n] w fun e w' => ∃ A, e = .returned (.slice A N N) ∧ w'.ownsRow w.heap.size 5 1 (.slice A N N) N (ag .u8 (fg s N)) ∧ bW w w' :=
 (Mi s n w).mono (fun e w' ⟨A, N', he, hn, ho, hb⟩ => by
  rw [hN] at hn
  subst hn
  exact ⟨A, he, ho, hb⟩)
theorem ZP : eS [49, 50, 51, 52, 53, 54, 55, 56, 57] = 3421780262 := by decide +kernel
theorem S4 : Bytes [49, 50, 51, 52, 53, 54, 55, 56, 57] := by
 intro x hx
 simp only [List.mem_cons, List.not_mem_nil, or_false] at hx
 omega
theorem Kq (w8 : World) (C : Array Value) (hC : C.toList = ag .u8 [49, 50, 51, 52, 53, 54, 55, 56, 57]) (fr : Nat × Nat) : Calls prog 22 #[.slice (some ⟨w8.heap.size, 0, none⟩) 9 9] (w8.alloc (.cells C 5 fr)) fun e w' => e = .returned (.int .u32 3421780262) ∧ ∃ q, w' = (w8.alloc (.cells C 5 fr)).drewN q := by
 have hr : Rd (w8.alloc (.cells C 5 fr)) (w8.alloc (.cells C 5 fr)).heap.size (some ⟨w8.heap.size, 0, none⟩) (ag .u8 [49, 50, 51, 52, 53, 54, 55, 56, 57]) := fun _ =>
  ⟨w8.heap.size, 0, rfl, by rw [World.size_alloc]; omega, fun j u hu => by
   rw [Nat.zero_add, Joins.cell_alloc_mark_at w8 C 5 fr w8.heap.size j rfl, ← Array.getElem?_toList, hC]
   exact hu⟩
 have := nX (some ⟨w8.heap.size, 0, none⟩) 9 9 [49, 50, 51, 52, 53, 54, 55, 56, 57] (w8.alloc (.cells C 5 fr)) hr rfl S4 oM
 rw [ZP] at this
 exact this
theorem Ko (w8 : World) (fr : Nat × Nat) : Calls prog 22 #[.slice (some ⟨w8.heap.size, 0, none⟩) 9 9] (w8.alloc (.cells #[.int .u8 49, .int .u8 50, .int .u8 51, .int .u8 52, .int .u8 53, .int .u8 54, .int .u8 55, .int .u8 56, .int .u8 57] 5 fr)) fun e w' => e = .returned (.int .u32 3421780262) ∧ ∃ q, w' = (w8.alloc (.cells #[.int .u8 49, .int .u8 50, .int .u8 51, .int .u8 52, .int .u8 53, .int .u8 54, .int .u8 55, .int .u8 56, .int .u8 57] 5 fr)).drewN q :=
 Kq w8 #[.int .u8 49, .int .u8 50, .int .u8 51, .int .u8 52, .int .u8 53, .int .u8 54, .int .u8 55, .int .u8 56, .int .u8 57] rfl fr
theorem uh (w : World) : Calls prog 5 #[] w fun e w' => e = .returned (.bool true) ∧ bW w w' := by
 have g1 := ne_nil
 have g3 := eq_nil
 obtain ⟨img, jo⟩ := ex (fg 1 70)
 have ua : img.length = 70 := by rw [← jo]; exact dy _ _
 have Qr : Bytes img := by rw [← jo]; exact jC _ _
 have gM := Ed (b := 4) (p := 2) oM oM oM oM
 obtain ⟨fQ, -, rO⟩ := F4 (first := 0) (k := 1) gM oM oM (by show 0 + (2 * 1 + 2) ≤ (ee 4 2).aq.length; unfold ee; simp) (by show 2 ≤ 2; omega) Qr (by rw [ua]; omega) (by rw [ua]; show 70 ≤ 1 * 2 * 64; omega) (v := 9) ⟨oM, oM⟩
 obtain ⟨G, hG⟩ := ex (iU (ee 4 2) 0 (2 * 1 + 2) 9 (eS img) img).2.1
 rw [hG] at fQ rO
 obtain ⟨B, hB⟩ := ex (dI G ((0 : Nat) : Int) ((2 * 1 + 2 : Nat) : Int))
 rw [hB] at fQ
 have fB : B.st.an = [0, 2, 0, 9, (img.length : Int), eS img, 0, 0, 0] := fQ.fr.sv.1
 have cQ : B.af = false := by rw [fQ.nb]; rfl
 have lQ : B.av = 2 := by rw [fQ.nb]; rfl
 have Oi : B.au = false := by rw [fQ.nb]; rfl
 have HBT : Hid (cz B G = ({ B with av := 0 }, G, ((0 : Nat) : Int), 0)) := Fa cQ fQ.up.dn lQ (by unfold aU; rw [fB]; rfl) (by unfold aU; rw [fB]; rfl)
 have UP : Hid (dp { B with av := 0 } G 0 = ({ B with av := 0 }, img, 0)) :=
  Cc (b := { B with av := 0 }) cQ fQ.up.dn (s := 0) oM (n := img.length) (by show aU B 4 = _; unfold aU; rw [fB]; rfl) oM (.inl Oi) fQ.im (by show aU B 5 = _; unfold aU; rw [fB]; rfl)
 have QW : Hid (sA { B with av := 0 } = (0, 9)) := by
  unfold sA
  rw [Hid, iN (by show ¬ (0 : Nat) = 2; omega)]
  show ((0 : Int), aU B 3) = _
  unfold aU; rw [fB]; rfl
 have gV : Hid (bS G B) := fQ.ok
 have XY : Hid (bS G { B with av := 0 }) := by
  have ho := fQ.ok
  exact ⟨ho.ok, ho.sp, ho.fi, ho.bl, ho.lg, ho.br, ho.bk, ho.k1, ho.k8, ho.fw, ho.pg, by show 0 ≤ 2; omega, ho.dst, ho.DL, ho.len, ho.cH, ho.er, ho.dt, ho.page⟩
 have nj := iD fQ
 have uj : Hid (G.az = []) := rO
 have uY := iD ua
 have HIB := iD Qr
 have HGG := iD hG
 have ur := iD hB
 have TD := iD (fun W => wM 1 70 70 (by decide) W)
 rw [jo] at TD
 have HUP := iD gM
 have Zk : Hid (0 + (2 * 1 + 2) ≤ (ee 4 2).aq.length) := by unfold ee; simp [Hid]
 have Tr : Hid (2 ≤ (ee 4 2).pg) := by show 2 ≤ 2; omega
 have pa : Hid (70 ≤ aN (ee 4 2) (2 * 1 + 2)) := by show 70 ≤ 1 * 2 * 64; omega
 clear fQ fB cQ lQ Oi ua Qr hG hB jo gM rO
 go_enter func5, ntmps5
 go_wp2_with (fail)
 refine (Gg 4 2 4 2 rfl rfl w oM oM oM oM).mono ?_
 rintro e w1 ⟨L, rfl, hF⟩
 have HF := iD hF
 clear hF
 go_wp2_with (fail)
 refine (TD w1).mono ?_
 rintro e w2 ⟨A2, rfl, lR, dZ⟩
 obtain ⟨A3, c3, e3, h31, h32, -⟩ := a9 lR
 injection e3 with e31 e32 e33
 subst e31 e33
 have ZF : Hid (gQ L w2 A2 (ag .u8 img)) := zc HF (by rw [aE]; exact uY) lR
 have um := iD (HF.ab dZ)
 clear lR dZ e32 h31 h32
 go_wp2_with (fail)
 refine (Gz um HUP rfl 0 1 oM oM Zk Tr 9 ⟨oM, oM⟩ A2 70 70 img ZF uY oM (by unfold maxLen; omega) HIB oM pa 0 4 rfl rfl).mono ?_
 rintro e w3 ⟨rfl, Ut, hO3⟩
 rw [HGG] at Ut
 have DC := iD Ut
 have jd : Hid (bW w w3) := DC.below
 clear Ut hO3
 have uI := iD (s7 DC 0 4 nj.YF nj.oe (by rw [show G.az = [] from uj]; exact cn.nil))
 rw [show dI G 0 4 = B from ur] at uI
 unfold AQ at uI
 go_wp2_with (fail)
 refine uI.mono ?_
 rintro e w4 ⟨S, K, rfl, hk, hb, hD, hG, hKD, hKv⟩
 have xC := iD hk
 have e2 := rj K.D
 clear hk hb hD hG hKD hKv
 go_wp2_with (fail)
 refine (yW xC gV).mono ?_
 rintro e w5 ⟨rfl, hk⟩
 rw [HBT] at hk ⊢
 simp only [bG]
 obtain ⟨L5, S5, K5, hA, hk⟩ := hk
 have sc := iD hk
 have uZ : Hid (K5.D = K.D) := hA.d
 clear hA hk
 have Tz := iD (wA sc XY 0)
 rw [uZ, UP] at Tz
 unfold Po at Tz
 go_wp2_with (fail)
 refine Tz.mono ?_
 rintro e w6 ⟨A6, n6, c6, rfl, hl6, oX, oW, kF, hk⟩
 obtain ⟨L6, S6, K6, hA, hk⟩ := hk
 have ov := iD hk
 have HD6 : Hid (K6.D = K.D) := hA.d.trans uZ
 have Tn := iD (kF (fun _ => False) (fun g hg => hg.elim)).rd
 have aaq : n6 = 70 := by rw [← hl6]; exact uY
 subst aaq
 have XH := iD (rh ov XY)
 rw [HD6, QW] at XH
 simp only [bG]
 clear hA hk kF hl6 oX oW
 go_wp2_with (fail)
 refine XH.mono ?_
 rintro e w7 ⟨rfl, hb⟩
 have PR : Hid (bW w w7) := ov.st.fl.below.trans (hb.mono ov.st.fl.below.size)
 have tp := iD ((Tn.below hb cV).more hb.size)
 clear hb
 have eW : Hid (∀ W, bW w7 W → (convert 32 9 (.slice A6 70 c6)).run prog W = .ok (.string (strOfNums img)) W) := fun W hb => lN (tp.below hb cV) uY
 have k0 := eW w7 bV
 have k1 := eW w7.drew (Below.drew bV)
 have PM : Hid (∀ W, bW w7 W → Calls prog 11 #[.int .i64 1, .int .i64 70] W fun e w' => ∃ A, e = .returned (.slice A 70 70) ∧ Rd w' w'.heap.size A (ag .u8 img) ∧ bW w7 w') := fun W hb => (TD W).mono (fun e w' ⟨A, he, ho, dZ⟩ => ⟨A, he, ky ho, hb.trans (dZ.mono hb.size)⟩)
 go_wp2_with (fail)
 go_region_held (fun w' => (convert 32 9 (.slice A6 70 c6)).run prog w' = .ok (.string (strOfNums img)) w') (first | exact k0 | exact k1 | exact eW _ kH | exact eW _ (kH.alloc kH.size _) | exact eW _ (Below.drewN (kH.alloc kH.size _) _)) (first
  | (go_at_call 11; with_reducible refine (PM.out _ (Below.drew bV)).mono ?_; rintro e w8 ⟨A8, rfl, hr8, kH⟩; have t7 : (convert 32 9 (.slice A8 70 70)).run prog w8 = .ok (.string (strOfNums img)) w8 := lN hr8 uY.out; have k3 := Joins.run_convert_bytes_const_at (P := prog) w8 32 5 #[.int .u8 49, .int .u8 50, .int .u8 51, .int .u8 52, .int .u8 53, .int .u8 54, .int .u8 55, .int .u8 56, .int .u8 57] 9 9 w8.heap.size rfl underlying32 underlying5)
  | (go_at_call 22; with_reducible refine (Ko _ _).mono ?_; rintro e w9 ⟨rfl, q9, rfl⟩))
 all_goals
  go_wp2
  go_ret
  exact ⟨rfl, PR.trans ((Below.drewN (kH.alloc kH.size _) _).mono PR.size)⟩
theorem Jc (ho : bS f b) (hf : f.ok) (v n : Int) : bS f (cA b f v n).1 := by
 unfold cA
 split
 ·exact gX ho
 split
 ·exact gX ho
 split
 ·exact gX ho
 split
 ·exact gX ho
 rename_i hr
 have qR : 1 ≤ v ∧ v ≤ 1073741824 := Classical.byContradiction fun e => hr (.inl e)
 have oF : 1 ≤ n ∧ n ≤ (aN f b.aa : Nat) := Classical.byContradiction fun e => hr (.inr e)
 have h' := gX ho
 refine ⟨h'.ok, h'.sp, h'.fi, h'.bl, h'.lg, h'.br, h'.bk, h'.k1, h'.k8, h'.fw, h'.pg, h'.av, by show 1 - (aU b 0).toNat ≤ 1; omega, ⟨by show 0 ≤ v; omega, by show v ≤ 1073741824; exact qR.2⟩, by show n.toNat ≤ aN f b.aa; omega, Nat.zero_le _, fun e he => ?_, h'.dt, h'.page⟩
 have he' : e ∈ (List.range b.k).map fun (i : Nat) => ((cI b (1 - (aU b 0).toNat) + i : Nat) : Int) := he
 obtain ⟨i, hi, rfl⟩ := List.mem_map.1 he'
 have hi := List.mem_range.1 hi
 have h1 : (1 - (aU b 0).toNat) * b.k ≤ 1 * b.k := Nat.mul_le_mul_right _ oM
 have h2 := ho.fw
 have h3 := ho.bk
 have h4 := hf.b2
 unfold cI
 omega
structure TT (b : Bk) : Prop where
 u1 : b.au = true → b.bh = false ∧ aU b 1 = 2 ∧ (b.dst : Int) = 1 - aU b 0
 u2 : b.au = false → b.erase = [] ∧ b.data = none
 er : ∀ e ∈ b.erase, ((cI b b.dst : Nat) : Int) ≤ e ∧ e < ((cI b b.dst + b.k : Nat) : Int)
structure jF (f : Fl) (b : Bk) (n : Int) : Prop where
 ok : bS f b
 fo : f.ok
 fl : ∃ s o, xS f s o ∧ s.ax = b.st.ax ∧ s.first = b.st.first ∧ s.aa = b.st.aa ∧ s.seq ≤ n
 q : uu f.pg b
 up : b.af = false → jJ f b n ∧ TT b
theorem jF.of (h : jJ f b n) (q : uu f.pg b) (u : b.af = false → TT b) : jF f b n := by
 obtain ⟨o, ho⟩ := h.JJ
 exact ⟨h.ok, h.fo, ⟨b.st, o, ho, rfl, rfl, rfl, h.sq⟩, q, fun hb => ⟨h, u hb⟩⟩
theorem jF.more (h : jF f b n) (hm : n ≤ m) : jF f b m := by
 obtain ⟨s, o, h1, h2, h3, h4, h5⟩ := h.fl
 exact ⟨h.ok, h.fo, ⟨s, o, h1, h2, h3, h4, Int.le_trans h5 hm⟩, h.q, fun hb => ⟨(h.up hb).1.more hm, (h.up hb).2⟩⟩
structure JC (f f' : Fl) (b : Bk) : Prop where
 sh : eo f f'
 pg : ∀ x, cI b (aU b 0).toNat * f.pg ≤ x → x < (cI b (aU b 0).toNat + b.k) * f.pg → aB f' x = aB f x
theorem JC.refl (f : Fl) (b : Bk) : JC f f b := ⟨eo.refl f, fun _ _ _ => rfl⟩
section
variable {f : Fl} {b : Bk} {n : Int}
theorem TT.fk (h : TT b) : TT (ar b f) := ⟨h.u1, h.u2, h.er⟩
theorem jF.fk (h : jF f b n) : jF f (ar b f) n :=
 ⟨gX h.ok, h.fo, h.fl, h.q.fk, fun hb => ⟨(h.up (fV hb).1).1.fk, (h.up (fV hb).1).2.fk⟩⟩
theorem jF.two (h : jF f b n) : (ar b f).af = true ∨ ((ar b f).af = false ∧ ar b f = b ∧ b.af = false ∧ f.aF = false ∧ jJ f b n ∧ TT b) := by
 cases hb : (ar b f).af with
 | true => exact .inl rfl
 | false =>
  obtain ⟨h1, h2⟩ := fV hb
  exact .inr ⟨rfl, uR h1 h2, h1, h2, (h.up h1).1, (h.up h1).2⟩
theorem vf (h : ¬ bO b = true) : b.erase = [] ∧ b.data = none ∧ b.bh = false := by
 unfold bO at h
 cases he : b.erase with
 | cons e l => rw [he] at h; simp at h
 | nil =>
  cases hd : b.data with
  | some d => rw [hd] at h; simp at h
  | none =>
   rw [he, hd] at h
   refine ⟨rfl, rfl, by simpa using h⟩
theorem bS.T2 (h : bS f b) : (aU b 0 = 0 ∨ aU b 0 = 1) ∧ 0 ≤ aU b 1 ∧ aU b 1 ≤ 2 := by
 obtain ⟨a, t, k, v0, l0, c0, v1, l1, c1, hv, q1, q2, _⟩ := h.vec
 unfold aU
 rw [hv]
 simp only [List.getElem?_cons_zero, List.getElem?_cons_succ, Option.getD_some]
 omega
theorem Pc (h : jF f b n) (v l : Int) : jF f (cA b f v l).1 n := by
 rcases h.two with hb | ⟨hb, hr, h1, h2, hJ, hU⟩
 ·unfold cA
  rw [iP hb]
  exact h.fk
 refine .of (Ms hJ (fun v l => Jc hJ.ok hJ.fo v l) v l) (Mr h.q v l) (fun _ => ?_)
 unfold cA
 rw [iN (by rw [hb]; decide)]
 split
 ·exact hU.fk
 rename_i hc
 split
 ·exact hU.fk
 rename_i hw
 split
 ·exact hU.fk
 obtain ⟨w1, w2, w3⟩ := vf hw
 obtain ⟨s1, s2, s3⟩ := hJ.ok.T2
 have hs : aU b 1 = 2 := Classical.byContradiction fun e => hc (.inr (.inl e))
 refine ⟨fun _ => ⟨w3, hs, ?_⟩, fun e => (by cases e), fun e he => ?_⟩
 ·show ((1 - (aU b 0).toNat : Nat) : Int) = 1 - aU b 0
  omega
 have he' : e ∈ (List.range b.k).map fun (i : Nat) => ((cI b (1 - (aU b 0).toNat) + i : Nat) : Int) := he
 obtain ⟨i, hi, rfl⟩ := List.mem_map.1 he'
 have hi := List.mem_range.1 hi
 show ((cI b (1 - (aU b 0).toNat) : Nat) : Int) ≤ _ ∧ _ < ((cI b (1 - (aU b 0).toNat) + b.k : Nat) : Int)
 omega
theorem SU (h : jF f b n) {x : List Int} (hx : Bytes x) : jF f (dG b f x).1 n := by
 rcases h.two with hb | ⟨hb, hr, h1, h2, hJ, hU⟩
 ·unfold dG
  rw [iP hb]
  exact h.fk
 refine .of (OQ hJ hx) (OP h.q hJ.ok.cH x) (fun _ => ?_)
 unfold dG
 rw [iN (by rw [hb]; decide)]
 split
 ·exact hU.fk
 rename_i hc
 split
 ·exact hU.fk
 split
 ·exact hU.fk
 refine ⟨hU.u1, fun e => absurd (.inl e) hc, hU.er⟩
theorem KB (he : b.erase = []) (hd : b.data = none) (hu : b.au = false) : TT (jx b s f) :=
 ⟨fun e => (by have e' : b.au = true := e; rw [hu] at e'; cases e'), fun _ => ⟨he, hd⟩, fun e hm => (by have e' : e ∈ b.erase := hm; rw [he] at e'; cases e')⟩
theorem LQ (h : jF f b n) (hc : 0 ≤ c ∧ c < 4294967296) : jF f (bU b f c).1 n := by
 rcases h.two with hb | ⟨hb, hr, h1, h2, hJ, hU⟩
 ·unfold bU
  rw [iP hb]
  exact h.fk
 refine .of (IM hJ hc) (IL h.q c) (fun _ => ?_)
 unfold bU
 rw [iN (by rw [hb]; decide)]
 split
 ·exact hU.fk
 split
 ·exact hU.fk
 rename_i hw
 obtain ⟨w1, w2, w3⟩ := vf hw
 split
 ·exact ⟨fun e => (by cases e), fun _ => ⟨w1, w2⟩, fun e hm => (by have e' : e ∈ b.erase := hm; rw [w1] at e'; cases e')⟩
 exact KB (b := { ar b f with au := false }) w1 w2 rfl
theorem Pj (h : jF f b n) : jF f (ei b f).1 n := by
 rcases h.two with hb | ⟨hb, hr, h1, h2, hJ, hU⟩
 ·unfold ei
  rw [iP hb]
  exact h.fk
 refine .of (MA hJ) (Mz h.q) (fun _ => ?_)
 unfold ei
 rw [iN (by rw [hb]; decide)]
 split
 ·exact hU.fk
 exact ⟨fun e => (by cases e), fun _ => ⟨rfl, rfl⟩, fun e hm => (by cases hm)⟩
theorem I1 (h : jF f b n) : jF f (bJ b f).1 n := by
 rcases h.two with hb | ⟨hb, hr, h1, h2, hJ, hU⟩
 ·unfold bJ
  rw [iP hb]
  exact h.fk
 refine .of (E3 hJ) (E0 h.q) (fun _ => ?_)
 unfold bJ
 rw [iN (by rw [hb]; decide)]
 split
 ·exact hU.fk
 rename_i hc
 split
 ·exact hU.fk
 rename_i hw
 obtain ⟨w1, w2, w3⟩ := vf hw
 refine KB (b := ar b f) w1 w2 ?_
 cases hu : b.au with
 | false => exact hu
 | true =>
  have := (hU.u1 hu).2.1
  exact absurd (Classical.byContradiction fun e => hc (.inr e)) (show ¬ aU b 1 = (b.av : Int) by intro e; exact hc (.inl oM))
theorem Oa (h : jF f b n) (s : Int) : jF f (dp b f s).1 n := by rw [pW]; exact h.fk
theorem og (b : Bk) (f : Fl) : eo f (cz b f).2.1 := by
 unfold cz
 split
 ·exact eo.refl f
 split
 ·exact eo.refl f
 split
 ·exact eo.refl f
 simp only
 generalize (if 0 < aU b 2 then aV b.st 2 (aU b 2 - 1) else aV b.st 1 2) = s
 split
 ·exact ju s f
 exact ju s f
theorem Tb (h : jF f b n) : jF (cz b f).2.1 (cz b f).1 (n + 1) := by
 rcases h.two with hb | ⟨hb, hr, h1, h2, hJ, hU⟩
 ·unfold cz
  rw [iP hb]
  exact h.fk.more oM
 have iA : (cz b f).2.1.pg = f.pg := (og b f).p
 refine .of (Pa hJ) (by rw [iA]; exact O9 h.q) ?_
 unfold cz
 rw [iN (by rw [hb]; decide)]
 split
 ·exact fun _ => hU.fk
 split
 ·exact fun _ => ⟨hU.u1, hU.u2, hU.er⟩
 rename_i hs
 have hu : b.au = false := by
  cases hu : b.au with
  | false => rfl
  | true => exact absurd (hU.u1 hu).2.1 hs
 obtain ⟨w1, w2⟩ := hU.u2 hu
 simp only
 generalize (if 0 < aU b 2 then aV b.st 2 (aU b 2 - 1) else aV b.st 1 2) = s
 split
 ·exact fun e => (by cases e)
 exact fun _ => ⟨fun e => (by have e' : b.au = true := e; rw [hu] at e'; cases e'), fun _ => ⟨w1, w2⟩, fun e hm => (by have e' : e ∈ b.erase := hm; rw [w1] at e'; cases e')⟩
theorem gv (b : Bk) (f : Fl) : eo f (aK b f).2.1 := by
 unfold aK
 split
 ·exact eo.refl f
 split
 ·split
  ·exact iV f _
  exact iV f _
 split
 ·split
  ·exact jz f _ _
  exact jz f _ _
 split
 ·split
  ·exact gq b.st f
  exact gq b.st f
 exact eo.refl f
theorem Rx (h : jF f b n) : jF (aK b f).2.1 (aK b f).1 (n + 1) := by
 rcases h.two with hb | ⟨hb, hr, h1, h2, hJ, hU⟩
 ·unfold aK
  rw [iP hb]
  exact h.fk.more oM
 refine .of (FQ hJ) (by rw [(gv b f).p]; exact NR h.q) ?_
 unfold aK
 rw [iN (by rw [hb]; decide)]
 split
 ·rename_i e l he
  have hu : b.au = true := by
   cases hu : b.au with
   | true => rfl
   | false =>
    have := (hU.u2 hu).1
    rw [he] at this
    cases this
  split
  ·exact fun e => (by cases e)
  exact fun _ => ⟨hU.u1, fun e' => (by have e2 : b.au = false := e'; rw [hu] at e2; cases e2), fun e' hm => hU.er e' (by rw [he]; exact List.mem_cons_of_mem _ hm)⟩
 rename_i he
 split
 ·split
  ·exact fun e => (by cases e)
  exact fun _ => ⟨hU.u1, fun e => ⟨(hU.u2 e).1, rfl⟩, hU.er⟩
 rename_i hd
 split
 ·rename_i xM
  have hu : b.au = false := by
   cases hu : b.au with
   | false => rfl
   | true =>
    have := (hU.u1 hu).1
    rw [xM] at this
    cases this
  split
  ·exact fun e => (by cases e)
  exact fun _ => ⟨fun e => (by have e' : b.au = true := e; rw [hu] at e'; cases e'), fun _ => ⟨he, hd⟩, fun e hm => (by have e' : e ∈ b.erase := hm; rw [he] at e'; cases e')⟩
 exact fun _ => hU.fk
theorem bS.pU (k : bS f b) (hp : g.pg = f.pg) (hw : g.aq.length = f.aq.length) : bS g b := by
 have hz : aN g b.aa = aN f b.aa := by unfold aN; rw [hp]
 exact ⟨k.ok.shape ⟨hp, hw⟩, by rw [hz]; exact k.sp, k.fi, k.bl, k.lg, k.br, k.bk, k.k1, k.k8, by rw [hw]; exact k.fw, by rw [hp]; exact k.pg, k.av, k.dst, k.DL, by rw [hz]; exact k.len, k.cH, k.er, k.dt, k.page⟩
theorem jJ.be (k : jJ f b n) {p : List Int} (hp : Bytes p) (hm : m < 9223372036854775808) : jJ (fM f m p) b n := by
 have dc := nW (n := m) k.fo hp hm
 obtain ⟨o, ho⟩ := k.JJ
 exact ⟨k.ok.pU rfl rfl, dc, fun hb hd => ⟨(k.lv hb hd).1.fl (g := fM f m p) rfl rfl rfl rfl dc, (k.lv hb hd).2⟩, fun hb => k.dn hb, ⟨o, ho.be k.fo hp hm⟩, k.Ag, k.F6, k.sq, k.ul⟩
theorem SQ (h : jF f b n) {p : List Int} (hp : Bytes p) (hm : m < 9223372036854775808) : jF (fM f m p) b n := by
 obtain ⟨s, o, h1, h2⟩ := h.fl
 exact ⟨h.ok.pU rfl rfl, nW h.fo hp hm, ⟨s, o, h1.be h.fo hp hm, h2⟩, h.q, fun hb => ⟨(h.up hb).1.be hp hm, (h.up hb).2⟩⟩
theorem zr (h : jF f b n) : jF (aR f) b (n + 1) ∧ eC (aR f) (b.first : Int) (b.aa : Int) = 0 ∧ jF (aR f) (dI (aR f) (b.first : Int) (b.aa : Int)) (n + 1) := by
 obtain ⟨s, o, h1, h2, h3, h4, h5⟩ := h.fl
 obtain ⟨i1, i2, i3, i4⟩ := ij f
 have YS := me h.fo
 have gT : s.ax = aH (aN f b.aa) := h2.trans h.ok.sp
 have fh : s.ax.any fA = false := by rw [gT]; exact ia _
 obtain ⟨a1, a2, a3, a4⟩ := h1.again h.fo fh
 have a5 := h1.seq h.fo fh h5
 have YV : f.aF = false → aR f = f := fun e => tJ e
 obtain ⟨g, hg⟩ := ex (aR f)
 rw [hg] at i1 i2 i3 i4 a1 a2 a3 a4 a5 YS YV ⊢
 have hsz : aN g b.aa = aN f b.aa := by unfold aN; rw [i2]
 rw [gT, h3, h4, h.ok.fi, h.ok.bl] at a1 a2 a3 a5
 rw [gT, h3, h4, h.ok.fi, h.ok.bl] at a4
 have pZ : eC g (b.first : Int) (b.aa : Int) = 0 := by
  have := h.ok.bk
  have := h.ok.k1
  have := h.ok.k8
  have := h.ok.fw
  have := h.ok.pg
  unfold eC
  rw [iN (by rw [i4]; decide), iN oM, iN (by rw [i3]; omega), iN (by rw [i2]; omega)]
 have Lq : dI g (b.first : Int) (b.aa : Int) = pT (aJ g b.first 2 (aH (aN f b.aa))) b.first b.aa := by
  unfold dI
  rw [Int.toNat_natCast, Int.toNat_natCast, hsz]
 have Lz := oJ YS pZ
 have hfr := tT (f := g) (fi := b.first) (bl := 2) (sp := aH (aN f b.aa)) (iB (by
  have := ec h.fo h.ok.k8
  have e : 2 * b.k + 2 = b.aa := h.ok.bk.symm
  rw [e] at this
  omega)) a1 a2
 rw [Lq] at Lz
 obtain ⟨z1, z2⟩ := hfr.sv.sJ
 have hJ : jJ g (pT (aJ g b.first 2 (aH (aN f b.aa))) b.first b.aa) (n + 1) :=
  ⟨Lz, YS, fun _ _ => ⟨z1, z2.symm⟩, fun _ => i4, ⟨_, hfr.sv.JJ⟩, fun e he => (by cases he), fun d hd => (by cases hd), a5, fun e => (by cases e)⟩
 refine ⟨⟨h.ok.pU i2 (by rw [i3]), YS, ⟨_, _, hfr.sv.JJ, ?_, ?_, ?_, a5⟩, by rw [i2]; exact h.q, fun hb => ?_⟩, pZ, ?_⟩
 ·exact a4.ax.trans h2
 ·exact a4.first.trans h3
 ·exact a4.aa.trans h4
 ·obtain ⟨k1, k2⟩ := h.up hb
  rw [YV (k1.dn hb)]
  exact ⟨k1.more oM, k2⟩
 rw [Lq]
 exact .of hJ (KX _ _ _ _) (fun _ => ⟨fun e => (by cases e), fun _ => ⟨rfl, rfl⟩, fun e he => (by cases he)⟩)
theorem vo {k d x pg : Nat} (ha : a ≤ 1) (hd : d = 1 - a) (h1 : (B + a * k) * pg ≤ x) (h2 : x < (B + a * k + k) * pg) (h3 : (B + d * k) * pg ≤ x) (h4 : x < (B + d * k + k) * pg) : False := by
 subst hd
 rcases (by omega : a = 0 ∨ a = 1) with rfl | rfl
 ·simp only [Nat.zero_mul, Nat.add_zero, Nat.sub_zero, Nat.one_mul] at *
  omega
 simp only [Nat.sub_self, Nat.zero_mul, Nat.add_zero, Nat.one_mul] at *
 omega
theorem Ry (h : jF f b n) : JC f (aK b f).2.1 b := by
 refine ⟨gv b f, fun x Eo yL => ?_⟩
 rcases h.two with hb | ⟨hb, hr, h1, h2, hJ, hU⟩
 ·unfold aK
  rw [iP hb]
 obtain ⟨s1, s2, s3⟩ := hJ.ok.T2
 have Wf : b.au = true → b.dst = 1 - (aU b 0).toNat := fun hu => by
  have := (hU.u1 hu).2.2
  omega
 have ha : (aU b 0).toNat ≤ 1 := oM
 unfold aK
 rw [iN (by rw [hb]; decide)]
 split
 ·rename_i e l he
  have hu : b.au = true := by
   cases hu : b.au with
   | true => rfl
   | false =>
    have := (hU.u2 hu).1
    rw [he] at this
    cases this
  have hd := Wf hu
  obtain ⟨e1, e2⟩ := hU.er e (by rw [he]; exact List.mem_cons_self)
  obtain ⟨E, rfl⟩ := Int.eq_ofNat_of_zero_le (a := e) oM
  have qT := qm h.fo (B := E) (x := x) (fun hc => by
   have i1 : cI b b.dst ≤ E := oM
   have i2 : E + 1 ≤ cI b b.dst + b.k := oM
   have j1 := Nat.mul_le_mul_right f.pg i1
   have j2 := Nat.mul_le_mul_right f.pg i2
   rw [Nat.add_mul E 1, Nat.one_mul] at j2
   unfold cI at *
   exact vo ha hd Eo yL oM oM)
  split
  ·exact qT
  exact qT
 split
 ·rename_i d vX
  have hu : b.au = true := by
   cases hu : b.au with
   | true => rfl
   | false =>
    have := (hU.u2 hu).2
    rw [vX] at this
    cases this
  have hd := Wf hu
  obtain ⟨q1, q2⟩ := h.q.pg d vX
  have hl := (hJ.ok.dt d vX).1
  have Iv := hJ.ok.cH
  have Uf := hJ.ok.len
  have fR : x ≠ b.page := fun e => by
   subst e
   have hs : aN f b.aa = b.k * f.pg * 64 := rfl
   rw [hs] at Uf
   have i1 : (b.cH - 1) / 64 < b.k * f.pg := oM
   unfold cI at *
   refine vo ha hd Eo yL ?_ ?_
   ·rw [q1]; exact Nat.le_add_right _ _
   rw [q1, Nat.add_mul (b.first + 2 + b.dst * b.k) b.k]; omega
  have qT := sE h.fo (P := b.page) (x := x) (b := d) hl fR
  split
  ·exact qT
  exact qT
 split
 ·have qT := yn h.fo hJ.ok.ok (x := x) (by
   right
   rw [hJ.ok.fi, hJ.ok.bl]
   have : b.first + 2 ≤ cI b (aU b 0).toNat := by unfold cI; omega
   have := Nat.mul_le_mul_right f.pg this
   omega)
  split
  ·exact qT
  exact qT
 rfl
theorem Tc (h : jF f b n) : JC f (cz b f).2.1 b := by
 refine ⟨og b f, fun x Eo yL => ?_⟩
 rcases h.two with hb | ⟨hb, hr, h1, h2, hJ, hU⟩
 ·unfold cz
  rw [iP hb]
 obtain ⟨s1, s2, s3⟩ := hJ.ok.T2
 unfold cz
 rw [iN (by rw [hb]; decide)]
 split
 ·rfl
 split
 ·rfl
 simp only
 obtain ⟨s, hs⟩ := ex (if 0 < aU b 2 then aV b.st 2 (aU b 2 - 1) else aV b.st 1 2)
 rw [hs]
 have VF : bD f s ∧ s.first = b.st.first ∧ s.aa = b.st.aa := by
  have hk := hJ.ok.vec
  rw [← hs]
  split
  ·have := eG b.st 2 (aU b 2 - 1)
   refine ⟨eH hJ.ok.ok ?_, this.first, this.aa⟩
   obtain ⟨a, t, k, v0, l0, c0, v1, l1, c1, hv, q1, q2, q3, _⟩ := hk
   unfold aU dH
   rw [hv]
   simp only [List.getElem?_cons_zero, List.getElem?_cons_succ, Option.getD_some]
   omega
  have := eG b.st 1 2
  exact ⟨eH hJ.ok.ok (by unfold dH; omega), this.first, this.aa⟩
 have qT := (ue h.fo VF.1 (x := x) (by
  right
  rw [VF.2.1, VF.2.2, hJ.ok.fi, hJ.ok.bl]
  have : b.first + 2 ≤ cI b (aU b 0).toNat := by unfold cI; omega
  have := Nat.mul_le_mul_right f.pg this
  omega)).1
 split
 ·exact qT
 exact qT
end
def ba (r : Rb) (b : Bk) : Array Value := #[.int .i64 b.first, .int .i64 b.aa, .int .i64 b.st.first, .int .i64 b.st.aa, .slice r.q.Q1 b.st.ax.length r.q.c1, .slice r.q.Q2 b.st.aj.length r.q.c2, .slice r.q.Q3 b.st.an.length r.q.c3, .int .i64 b.st.seq, .int .i64 b.st.block, .int .i64 b.st.av, .slice r.q.Q4 r.q.n4 r.q.c4, .slice r.q.Q5 r.q.n5 r.q.c5, .int .i64 r.q.pg, .int .i64 r.q.er, .int .i64 r.q.nb, .int .i64 r.q.ns, .bool b.st.af,
 .int .i64 b.av, .bool b.af, .bool b.au, .int .i64 b.dst, .int .i64 b.version, .int .i64 b.length, .int .i64 b.cH, .slice r.E r.ne r.ce, .slice r.P r.np r.cp]
theorem Td (r : Rb) (b : Bk) : .agg (ba r b) = r.v b := rfl
theorem bC (r : Rb) (b : Bk) : (ba r b).size = 26 := rfl
theorem eX (r : Rb) (b : Bk) : (ba r b).all (·.oneCell') = true := by simp [ba, Value.oneCell']
theorem Xi (r : Rb) (b : Bk) : (ba r b).extract 2 17 = sa r.q b.st := rfl
theorem Te (r : Rb) (b : Bk) (q : Qv) (s : St) : FT (ba r b) 2 (sa q s).toList = ba { r with q := q } { b with st := s } := rfl
structure gP (X : Nat → Prop) (B : Nat) (w : World) (r : Rb) (b : Bk) (p : Nat) : Prop where
 v : ic X w r.q b.st p
 er : b.af = false → QS w 3 B (.slice r.E r.ne r.ce) b.erase ∧ b.erase.length = r.ne
 dt : b.af = false → (b.data = none ∧ r.P = none ∧ r.np = 0 ∧ r.cp = 0) ∨ ∃ d g o, b.data = some d ∧ r.P = some ⟨g, o, none⟩ ∧ cn X w r.P (ag .u8 d) ∧ d.length = r.np ∧ r.np ≤ r.cp ∧ r.cp ≤ maxLen
section
variable {X : Nat → Prop} {B : Nat} {w w' : World} {r : Rb} {b : Bk} {p : Nat}
theorem gP.below (h : gP X B w r b p) (hb : bW w w') : gP X B w' r b p :=
 ⟨h.v.below hb, fun e => ⟨(h.er e).1.block (fun g hg => hb.block g ((h.er e).1.lt hg).2), (h.er e).2⟩, fun e => by
  rcases h.dt e with h1 | ⟨d, g, o, h1, h2, h3, h4⟩
  ·exact .inl h1
  exact .inr ⟨d, g, o, h1, h2, h3.below hb, h4⟩⟩
theorem gP.ao (h : gP X B w r b p) (hb : ah Y w w') (hY : ∀ g, Y g → X g) (hE : ∀ g, (Value.slice r.E r.ne r.ce).ownBlock = some g → ¬ Y g) : gP X B w' r b p :=
 ⟨h.v.ao (hb.more hY), fun e => ⟨(h.er e).1.block (fun g hg => hb.block g ((h.er e).1.lt hg).2 (hE g hg)), (h.er e).2⟩, fun e => by
  rcases h.dt e with h1 | ⟨d, g, o, h1, h2, h3, h4⟩
  ·exact .inl h1
  exact .inr ⟨d, g, o, h1, h2, h3.ao (hb.more hY), h4⟩⟩
theorem gP.dQ (h : gP X B w r b p) (hY : ∀ b, b < w.heap.size → Y b → X b) : gP Y B w r b p :=
 ⟨h.v.dQ hY, h.er, fun e => by
  rcases h.dt e with h1 | ⟨d, g, o, h1, h2, h3, h4⟩
  ·exact .inl h1
  exact .inr ⟨d, g, o, h1, h2, h3.dQ hY, h4⟩⟩
theorem gP.fk (h : gP X B w r b p) (f : Fl) : gP X B w r (ar b f) p :=
 ⟨h.v, fun e => h.er (fV e).1, fun e => h.dt (fV e).1⟩
theorem gP.with {c : Bk} (h : gP X B w r b p) (hs : c.st = b.st) (he : c.erase = b.erase) (hd : c.data = b.data) (hb : c.af = false → b.af = false) : gP X B w r c p :=
 ⟨by rw [hs]; exact h.v, fun e => by rw [he]; exact h.er (hb e), fun e => by rw [hd]; exact h.dt (hb e)⟩
theorem gP.dead {c : Bk} {r' : Rb} (hv : ic X w r'.q c.st p) (hb : c.af = true) : gP X B w r' c p :=
 ⟨hv, fun e => (by rw [hb] at e; cases e), fun e => (by rw [hb] at e; cases e)⟩
end
theorem SX (C C1 F : Array Value) (hC : C.size = 26) (jg : C1.size = 26) (hF : F.size = 6) (ng : C1.all (·.oneCell') = true) (b1 o1 z : Bool) (c18 : C[18]? = some (.bool b1)) (f3 : F[3]? = some (.bool o1)) (hz : (b1 || o1) = z) (e1 : C.setIfInBounds 18 (.bool z) = C1) (g18 : C1[18]? = some (.bool z)) (w : World) :
 Calls prog 87 #[.agg C, .agg F] w fun e w' => e = .returned (.tuple #[.agg C1, .bool z]) ∧ bW w w' := by
 obtain ⟨W, hW⟩ := ex (((w.alloc (.cells C 45)).alloc (.cells F 35)).alloc (.cells zB 45))
 have H0 := iD (Fr.three hW)
 have HS := iD hC
 have lW := iD jg
 have uH := iD hF
 have iH := iD ng
 have uL := iD c18
 have DC := iD f3
 have zl := iD e1
 have Yf := iD g18
 clear hC jg hF ng c18 f3 e1 g18
 have d18 := H0.cell0 18 uL
 have k18 := H0.sZ 18
 have d3 := H0.od 3 DC
 go_enter func87, ntmps87
 go_upto_region 1 with (fail)
 try rw [hW]
 clear hW
 have vY : ((b1 = true ∧ z = true) ∨ (b1 = false ∧ o1 = z)) := by cases b1 <;> simp_all
 clear hz
 rcases vY with ⟨rfl, rfl⟩ | ⟨rfl, rfl⟩
 ·go_upto_region 2 with (fail)
  clear d18 k18 d3
  have H2 := iD (H0.iC 18 (.bool true))
  rw [zl] at H2
  generalize (W.setCell ⟨w.heap.size, 18, none⟩ (.bool true)) = w2 at H2 ⊢
  have H3 := iD (H2.ab fT)
  refine wp_region_held (S := fun w' => w'.heap[w.heap.size]? = some (.cells C1 45 (0, 0))) (by kernel_rfl) ?_
  refine tL 0 _ rfl (iK (fun _ hS => hS) lW) H3.aC ?_
  refine vP 1 w.heap.size 18 H3.aC ?_
  refine tL 2 _ rfl (yC fun _ hS => gH hS Yf) H3.aC ?_
  have H4 := iD (H3.NU C1)
  refine cR (i := 3) (by kernel_rfl) rfl (by rfl) rfl 45 _ _ rfl (w.heap.size + 2) C1 _ rfl rfl 45 H3.eT (gE lW) ((rfl : zB.size = 26).trans lW.symm) iH H4.aC ?_
  refine tV 4 (.bool true) H4.aC ?_
  refine wD ?_
  go_wp2
  (try simp only [Exit.inBlock, Exit.then])
  refine rI rfl H4.eT (gE lW) ⟨rfl, H4.below⟩
 go_upto_region 2 with (fail)
 clear d18 k18 d3
 have H2 := iD (H0.iC 18 (.bool o1))
 rw [zl] at H2
 generalize (W.setCell ⟨w.heap.size, 18, none⟩ (.bool o1)) = w2 at H2 ⊢
 have H3 := iD (H2.ab fT)
 refine wp_region_held (S := fun w' => w'.heap[w.heap.size]? = some (.cells C1 45 (0, 0))) (by kernel_rfl) ?_
 refine tL 0 _ rfl (iK (fun _ hS => hS) lW) H3.aC ?_
 refine vP 1 w.heap.size 18 H3.aC ?_
 refine tL 2 _ rfl (yC fun _ hS => gH hS Yf) H3.aC ?_
 have H4 := iD (H3.NU C1)
 refine cR (i := 3) (by kernel_rfl) rfl (by rfl) rfl 45 _ _ rfl (w.heap.size + 2) C1 _ rfl rfl 45 H3.eT (gE lW) ((rfl : zB.size = 26).trans lW.symm) iH H4.aC ?_
 refine tV 4 (.bool o1) H4.aC ?_
 refine wD ?_
 go_wp2
 (try simp only [Exit.inBlock, Exit.then])
 refine rI rfl H4.eT (gE lW) ⟨rfl, H4.below⟩
theorem fY (r : Rb) (b : Bk) (x : Rc) (g : Fl) (w : World) : Calls prog 87 #[.agg (ba r b), .agg (xa x g)] w fun e w' => e = .returned (.tuple #[.agg (ba r (ar b g)), .bool (ar b g).af]) ∧ bW w w' :=
 SX (ba r b) (ba r (ar b g)) (xa x g) rfl rfl rfl (eX _ _) b.af g.aF (ar b g).af rfl rfl rfl rfl rfl w
theorem Rp (C : Array Value) (E P Q : Option Addr) (ne ce np cp n5 c5 : Nat) (hP : (P = none ∧ np = 0 ∧ cp = 0) ∨ ∃ g o, P = some ⟨g, o, none⟩) (Xg : C[24]? = some (.slice E ne ce)) (Xf : C[25]? = some (.slice P np cp)) (rS : C[11]? = some (.slice Q n5 c5)) (w : World) :
 Calls prog 88 #[.agg C] w fun e w' => e = .returned (.bool (decide (0 < ne) || (P.isSome || decide (0 < n5)))) ∧ bW w w' := by
 obtain ⟨W, hW⟩ := ex (w.alloc (.cells C 45))
 have H0 := iD (Fr.one hW)
 have d24 := H0.cell0 24 Xg
 have d25 := H0.cell0 25 Xf
 have d11 := H0.cell0 11 rS
 clear Xg Xf rS
 by_cases h1 : 0 < ne
 ·have JY : (0 : Int) < (ne : Int) := oM
  rw [decide_eq_true h1]
  clear hP
  go_enter func88, ntmps88
  go_wp2
  try rw [hW]
  go_ret
  exact ⟨rfl, H0.below⟩
 have JY : ¬ ((0 : Int) < (ne : Int)) := oM
 rw [decide_eq_false h1]
 rcases hP with ⟨rfl, rfl, rfl⟩ | ⟨g, o, rfl⟩
 ·have Dr : (binOp .neq 32 (.slice none 0 0) (.slice none 0 0)).run prog W = .ok (.bool false) W := by kernel_rfl
  by_cases h5 : 0 < n5
  ·have JX : (0 : Int) < (n5 : Int) := oM
   rw [decide_eq_true h5]
   go_enter func88, ntmps88
   go_wp2
   try rw [hW]
   go_ret
   exact ⟨rfl, H0.below⟩
  have JX : ¬ ((0 : Int) < (n5 : Int)) := oM
  rw [decide_eq_false h5]
  go_enter func88, ntmps88
  go_wp2
  try rw [hW]
  go_ret
  exact ⟨rfl, H0.below⟩
 have Dr : (binOp .neq 32 (.slice (some ⟨g, o, none⟩) np cp) (.slice none 0 0)).run prog W = .ok (.bool true) W := by kernel_rfl
 go_enter func88, ntmps88
 go_wp2
 try rw [hW]
 go_ret
 exact ⟨rfl, H0.below⟩
theorem mG (h : gP X B w r b p) (hb : b.af = false) (Io : b.st.af = false) (xM : b.bh = b.st.bt) (ho : bD f b.st) (w2 : World) :
 Calls prog 88 #[.agg (ba r b)] w2 fun e w' => e = .returned (.bool (bO b)) ∧ bW w2 w' := by
 obtain ⟨he, hel⟩ := h.er hb
 have hd := h.dt hb
 have e5 : decide (0 < r.q.n5) = b.bh := by
  rw [xM]
  cases hu : b.st.bt with
  | true =>
   have h1 := (h.v.wr Io hu).pl
   have h2 := ho.dn hu Io
   have h3 := ho.pl hu
   rw [List.length_drop] at h1
   exact decide_eq_true oM
  | false => exact decide_eq_false (by rw [h.v.no Io hu]; omega)
 have eE : decide (0 < r.ne) = !b.erase.isEmpty := by
  rw [← hel]
  cases b.erase <;> simp
 have eP : r.P.isSome = b.data.isSome := by
  rcases hd with ⟨d1, d2, _⟩ | ⟨d, g, o, d1, d2, _⟩
  ·rw [d1, d2]; rfl
  rw [d1, d2]; rfl
 have := Rp (ba r b) r.E r.P r.q.Q5 r.ne r.ce r.np r.cp r.q.n5 r.q.c5 (by
  rcases hd with ⟨d1, d2⟩ | ⟨d, g, o, d1, d2, _⟩
  ·exact .inl d2
  exact .inr ⟨g, o, d2⟩) rfl rfl rfl w2
 rw [e5, eE, eP] at this
 refine this.mono ?_
 rintro e w' ⟨h1, h2⟩
 refine ⟨h1.trans ?_, h2⟩
 unfold bO
 rw [Bool.or_assoc]
theorem RJ (h : ic X w r.q b.st p) (ho : bD f b.st) (hX : ∀ b, X b → b < w.heap.size) (i v : Int) :
 Calls prog 91 #[.agg (ba r b), .int .i64 i, .int .i64 v] w fun e w' => ∃ q : Qv, e = .returned (.agg (ba { r with q := q } { b with st := aV b.st i v })) ∧ ic X w' q (aV b.st i v) p ∧ bW w w' := by
 obtain ⟨s', jU⟩ := ex (aV b.st i v)
 obtain ⟨k, hk⟩ := ex (gf b.st i v)
 obtain ⟨C, hC⟩ := ex (ba r b)
 obtain ⟨S, hS⟩ := ex (sa r.q b.st)
 obtain ⟨W, hW⟩ := ex ((w.alloc (.cells C 45)).alloc (.cells zB 45))
 have H0 := iD (Fr.two hW)
 have HQ := iD (FW (h.xf H0.below 2) ho (XF.lt hX H0.len) i v)
 rw [← DZ, hS, jU, hk] at HQ
 have pa : Hid (C.size = 26) := by rw [← hC]; exact bC _ _
 have ze : Hid (S.size = 15) := by rw [← hS]; exact cD _ _
 have HEX : Hid (C.extract 2 17 = S) := by rw [← hC, ← hS]; exact Xi _ _
 have AI : Hid (∀ q, FT C 2 (sa q s').toList = ba { r with q := q } { b with st := s' }) := fun q => by rw [← hC]; exact Te _ _ _ _
 rw [hC, jU]
 clear hS hC jU hk h ho hX
 go_enter func91, ntmps91
 go_upto_region 1 with (fail)
 try rw [hW]
 clear hW
 refine wp_region_list ?_
 refine wV (.pointer (some ⟨w.heap.size, 2, none⟩)) ?_
 refine Ig rfl _ rfl w.heap.size rfl C S H0.aC HEX ze ?_
 simp only [nm]
 refine wV (.int .i64 i) ?_
 refine wV (.int .i64 v) ?_
 refine cP (HQ) ?_
 rintro e v1 ⟨q', rfl, iE, dB⟩
 refine ⟨_, rfl, ?_⟩
 have H2 := iD (H0.ab dB)
 have HV := iD iE
 clear dB iE
 simp only [← DZ]
 obtain ⟨S1, Uo⟩ := ex (sa q' s')
 obtain ⟨C1, jg⟩ := ex (ba { r with q := q' } { b with st := s' })
 have aa7 : Hid (FT C 2 S1.toList = C1) := by rw [← Uo, ← jg]; exact AI q'
 have lW : Hid (S1.size = 15) := by rw [← Uo]; exact cD _ _
 have iH : Hid (S1.all (·.oneCell') = true) := by rw [← Uo]; exact gK _ _
 have nB : Hid (C1.size = 26) := by rw [← jg]; exact bC _ _
 have xc : Hid (C1.all (·.oneCell') = true) := by rw [← jg]; exact eX _ _
 have HCE := iD jg
 rw [Uo]
 clear Uo jg
 simp only [nm]
 refine wV (.tuple #[.agg S1, .int .i64 k]) ?_
 refine wV (.agg S1) ?_
 refine wV (.int .i64 k) ?_
 refine wV (.pointer (some ⟨w.heap.size, 2, none⟩)) ?_
 refine Hf rfl _ _ rfl rfl w.heap.size S1 rfl rfl _ C1 H2.aC lW pa iH aa7 ?_
 have H3 := iD (H2.BL C1)
 have QT := iD (HV.ao (ah.row v1 w.heap.size C1 (pJ _ _)))
 generalize v1.setRow w.heap.size C1 = w3 at H3 QT ⊢
 go_upto_region 2 with (fail)
 refine wp_region_list ?_
 refine lB H3.aC nB ?_
 refine sP 1 H3 fun w4 o H4 => ?_
 have QR := iD (QT.ao (NX o))
 go_wp2
 (try simp only [Exit.inBlock, Exit.then])
 refine bodyPost_ret (v := .agg C1) (results_cell_row (p := 6) rfl _ _ (w.heap.size + 1) 45 C1 (0, 0) _ rfl H4.dL underlying45 rfl (gE nB)) rfl ⟨q', by rw [HCE], QR.cX (fun _ => .inl), H4.below⟩
def bq (r : Rb) (b : Bk) (q : Qv) (s : St) : Array Value := ba { r with q := q } { b with st := s }
theorem kU (r : Rb) (b : Bk) : ba r b = bq r b r.q b.st := rfl
theorem aY (r : Rb) (b : Bk) (q : Qv) (s : St) : (bq r b q s).size = 26 := rfl
theorem E9 (r : Rb) (b : Bk) (q : Qv) (s : St) : (bq r b q s).all (·.oneCell') = true := eX _ _
theorem CV (r : Rb) (b : Bk) (q : Qv) (s : St) : (bq r b q s).extract 2 17 = sa q s := rfl
theorem wR (r : Rb) (b : Bk) (q q' : Qv) (s s' : St) : FT (bq r b q s) 2 (sa q' s').toList = bq r b q' s' := rfl
theorem lO (h : ic X w q s p) (ho : bD f s) (hX : ∀ b, X b → b < w.heap.size) (i v : Int) :
 Calls prog 91 #[.agg (bq r b q s), .int .i64 i, .int .i64 v] w fun e w' => ∃ q' : Qv, e = .returned (.agg (bq r b q' (aV s i v))) ∧ ic X w' q' (aV s i v) p ∧ bW w w' :=
 RJ (r := { r with q := q }) (b := { b with st := s }) h ho hX i v
theorem GJ (h : ic X w q s g.pg) (hR : cf X w x g) (ho : bD g s) (hX : ∀ b, X b → b < w.heap.size) (nl : s.af = g.aF) (mX : s.bt = false → fX (s.seq + 1) s.aj.length = 0) :
 Calls prog 83 #[.agg (sa q s), .agg (xa x g)] w fun e w' => ∃ q' : Qv, e = .returned (.tuple #[.agg (sa q' (aZ s g)), .int .i64 (aO s g)]) ∧ ic X w' q' (aZ s g) g.pg ∧ bW w w' := Aw h hR ho hX nl mX
theorem CS (h : ic X w q s g.pg) (hR : cf X w x g) (ho : bD g s) (hX : ∀ b, X b → b < w.heap.size) (nl : s.af = g.aF) (mX : s.bt = false → fX (s.seq + 1) s.aj.length = 0) :
 Calls prog 34 #[.agg (sa q s), .agg (xa x g)] w fun e w' => ∃ (q' : Qv) (y : Rc), e = .returned (.tuple #[.agg (sa q' (aA s g).1), .agg (xa y (aA s g).2.1), .int .i64 (aA s g).2.2]) ∧ ic X w' q' (aA s g).1 g.pg ∧ cf X w' y (aA s g).2.1 ∧ bW w w' := CR h hR ho hX nl mX
theorem Rw (h : ic X w q s g.pg) (hR : cf X w x g) (ho : bD g s) (hX : ∀ b, X b → b < w.heap.size) :
 Calls prog 84 #[.agg (sa q s), .agg (xa x g)] w fun e w' => ∃ (q' : Qv) (y : Rc), e = .returned (.tuple #[.agg (sa q' (aI s g).1), .agg (xa y (aI s g).2.1), .bool (aI s g).2.2.1, .int .i64 (aI s g).2.2.2]) ∧ ic X w' q' (aI s g).1 g.pg ∧ cf X w' y (aI s g).2.1 ∧ bW w w' := Kr h hR ho hX
theorem gN (s : St) (i v : Int) : (aV s i v).af = s.af ∧ (aV s i v).bt = s.bt ∧ (aV s i v).seq = s.seq ∧ (aV s i v).aj.length = s.aj.length := by
 unfold aV
 split
 ·exact ⟨rfl, rfl, rfl, by simp⟩
 exact ⟨rfl, rfl, rfl, rfl⟩
theorem dU.enc (h : dU f s) (hn : s.seq ≤ n) (h2 : n < 1000000) : s.af = f.aF ∧ fX (s.seq + 1) s.aj.length = 0 :=
 have q : gB f s n := ⟨⟨_, _, h.U4⟩, hn⟩
 ⟨q.br, q.enc h2⟩
theorem O7 (hR : cf X w x g) (ho : bS g b) (s n : Nat) (hs : s ≤ 1) (h1 : 1 ≤ n) (hn : n ≤ aN g b.aa) :
 Calls prog 90 #[.agg (ba r b), .agg (xa x g), .int .i64 (s : Int), .int .i64 (n : Int)] w fun e w' => ∃ A c, e = .returned (.slice A n c) ∧ n ≤ c ∧ c ≤ maxLen ∧ w'.ownsRow w.heap.size 5 1 (.slice A n c) n (ag .u8 (fv g b s n)) ∧ bW w w' := by
 obtain ⟨i5, rR, jc, jb, ja⟩ := info_parts kD
 have nQ : 0 ≤ maxLen := Nat.zero_le _
 have JR := hR.ok
 obtain ⟨qR, oF⟩ := mf ho JR.b2 JR.p2 hs
 have nV := gy JR
 have sU := ho.bk
 have Ds := ho.fw
 have lG := JR.b2
 have jG := ho.k8
 have hlen := JR.len
 obtain ⟨P0, JU⟩ := ex (cI b s * g.pg)
 have UP : Hid (fv g b s n = (g.img.drop (64 * P0)).take n) := by rw [Hid, ← JU]; rfl
 have jk := iD (fun w2 => uQ hR b.k b.first s jG hs oM (b.first : Int) (b.aa : Int) (s : Int) rfl (by rw [sU]) rfl w2)
 rw [show (b.first + 2 + s * b.k) * g.pg = P0 from JU, ← uw] at jk
 rw [JU] at qR
 obtain ⟨T, hT⟩ := ex (64 * P0)
 have hTn : T + n ≤ g.img.length := by
  rw [hlen, ← hT]
  rw [oF] at hn
  generalize b.k * g.pg = z1 at *
  generalize g.aq.length * g.pg = z2 at *
  omega
 have hT2 : T ≤ 65536 := by
  rw [← hT]
  generalize g.aq.length * g.pg = z2 at *
  generalize b.k * g.pg = z1 at *
  omega
 have qS : n ≤ 8192 := by
  rw [oF] at hn
  have := Nat.mul_le_mul jG JR.p2
  omega
 rw [hT] at UP
 have uY : Hid (((g.img.drop T).take n).length = n) := by rw [Hid, List.length_take, List.length_drop]; omega
 obtain ⟨bb, off, hA, -⟩ := hR.a.rd (by
  intro e
  have := aE .u8 g.img
  rw [e] at this
  simp at this
  omega)
 have ph := iD hR.a.rd
 rw [hA] at ph
 have mB := hR.a1
 have sT := hR.a2
 obtain ⟨C, hC⟩ := ex (ba r b)
 obtain ⟨F, hF⟩ := ex (xa x g)
 rw [hF] at jk
 obtain ⟨W, hW⟩ := ex ((w.alloc (.cells C 45)).alloc (.cells F 35))
 have H0 := iD (Fr.two hW)
 have d0 := H0.cell0 0 (v := .int .i64 b.first) (by rw [← hC]; rfl)
 have d1 := H0.cell0 1 (v := .int .i64 b.aa) (by rw [← hC]; rfl)
 have PL : Hid (F[0]? = some (.slice (some ⟨bb, off, none⟩) g.img.length x.c)) := by rw [← hF, ← hA]; rfl
 have uH : Hid (F.size = 6) := by rw [← hF]; exact aQ _ _
 obtain ⟨N1, JV⟩ := ex g.img.length
 obtain ⟨c, hc⟩ := ex x.c
 rw [JV, hc] at PL
 rw [JV] at hTn mB
 rw [hc] at mB sT
 rw [hC, hF]
 clear hC hF hA JV hc hR hlen qR oF nV JR JU hn ho sU Ds lG jG
 have q1 : IntKind.i64.wrap (64 * (P0 : Int)) = (T : Int) := by rw [IntWalk.i64_in _ oM]; omega
 have q2 : IntKind.i64.wrap ((T : Int) + (n : Int)) = (T : Int) + (n : Int) := IntWalk.i64_in _ oM
 have k1 : (T : Int) ≤ (T : Int) + (n : Int) := oM
 have k2 : (T : Int) + (n : Int) ≤ (c : Int) := oM
 have k3 : (0 : Int) ≤ (T : Int) := oM
 have k4 : ((T : Int) + (n : Int)).toNat = T + n := oM
 have k5 : T + n - T = n := oM
 have k6 : ¬ (c = T) := oM
 have k8 : (0 : Int) ≤ (T : Int) + (n : Int) := oM
 clear hT
 go_enter func90, ntmps90
 go_upto_region 1 with (fail)
 try rw [hW]
 clear hW
 refine wp_region_list ?_
 refine lF H0.dL uH ?_
 go_wp2_with (fail)
 refine (jk W).mono ?_
 rintro e v1 ⟨rfl, dB⟩
 have H2 := iD (H0.ab dB)
 clear dB d0 d1
 have e0 := H2.od 0 PL
 have aW : w.heap.size + 1 < v1.heap.size := H2.len
 have pa : Hid (w.heap.size ≤ v1.heap.size) := H2.below.size
 have Fv : Hid (Rd v1 v1.heap.size (some ⟨bb, off, none⟩) (ag .u8 g.img)) := (ph.below H2.below cV).more H2.below.size
 go_upto_region 2 with (fail)
 go_wp2_with (first | (at_builtin; refine aM _ rfl _ _ 32 rfl w.heap.size 5 i5 (.int .u8 0) 1 1 underlying32 rR jc jb ja rfl oM _ 0 [] rfl (World.ownsRow_lit v1 #[] 0 pa.out nQ rfl) v1.heap.size _ n _ (ag .u8 ((g.img.drop T).take n)) rfl ((Fv.out.below (bV.alloc cV _) cV).part T n) (by rw [aE, uY.out, Nat.mul_one]) (cZ _ _) (by unfold maxLen; omega) oM (by rw [World.size_alloc]; have := pa.out; omega) ?_))
 intro v' w2 bX hgrow kj
 have fK : Hid (bW w w2) := (H2.out.below.alloc H2.out.below.size _).grown hgrow (by rw [World.size_alloc]; have := pa.out; omega) (fun k hk => by have hk' : some v1.heap.size = some k := hk; injection hk' with hk'; have := pa.out; omega)
 try simp only [Nat.zero_add, List.nil_append] at bX
 obtain ⟨A', c', rfl, h4, h5, h6⟩ := a9 bX
 have iH := iD bX
 clear bX hgrow kj h6
 go_wp2
 go_ret
 exact ⟨A', c', rfl, h4, h5, by rw [UP]; exact iH, fK⟩
theorem km (h : ic X w q s p) (hl : s.an.length = 9) : ∃ b9 o9, q.Q3 = some ⟨b9, o9, none⟩ ∧ b9 < w.heap.size ∧ ∀ j, j < 9 → w.cell? ⟨b9, o9 + j, none⟩ = some (.int .i64 (s.an[j]?.getD 0)) := by
 obtain ⟨b9, o9, e, aW, _, hc⟩ := h.c (by
  intro e
  have := congrArg List.length e
  simp [aw] at this
  rw [this] at hl
  cases hl)
 refine ⟨b9, o9, e, aW, fun j hj => hc j _ ?_⟩
 unfold aw
 rw [List.getElem?_map, List.getElem?_eq_getElem oM]
 rfl
theorem bS.JK (h : bS f b) : b.st.an.length = 9 := by rw [h.ok.sl, h.sp]; rfl
theorem Hm (h : ic X w r.q b.st p) (ho : bS f b) :
 Calls prog 69 #[.agg (ba r b)] w fun e w' => e = .returned (.tuple #[.int .i64 (sA b).1, .int .i64 (sA b).2]) ∧ bW w w' := by
 obtain ⟨b9, o9, tY, aW, fB⟩ := km h ho.JK
 have qQ := ho.av
 have yR : (ba r b)[6]? = some (.slice (some ⟨b9, o9, none⟩) 9 r.q.c3) := by
  show some (Value.slice r.q.Q3 b.st.an.length r.q.c3) = _
  rw [tY, ho.JK]
 obtain ⟨C, hC⟩ := ex (ba r b)
 have qW : C[17]? = some (.int .i64 b.av) := by rw [← hC]; rfl
 rw [hC] at yR ⊢
 obtain ⟨W, hW⟩ := ex (w.alloc (.cells C 45))
 have H0 := iD (Fr.one hW)
 have d17 := H0.cell0 17 qW
 have d6 := H0.cell0 6 yR
 have xV := iD (fun j hj => (H0.below.cell (p := ⟨b9, o9 + j, none⟩) aW).trans (fB j hj))
 have HR : Hid (sA b = if b.av = 2 then (2, 0) else ((b.av : Int), aU b (3 + 3 * b.av))) := rfl
 have HQ : Hid (∀ j, b.st.an[j]?.getD 0 = aU b j) := fun j => rfl
 obtain ⟨n, hn⟩ := ex b.av
 rw [hn] at qQ d17 HR
 obtain ⟨V, hV⟩ := ex (aU b (3 + 3 * n))
 rw [hV] at HR
 rw [HR]
 by_cases h2 : n = 2
 ·subst h2
  rw [iP rfl]
  clear yR qW tY fB hC hn hV
  go_enter func69, ntmps69
  go_wp2
  try rw [hW]
  go_ret2
  exact ⟨rfl, H0.below⟩
 rw [iN h2]
 have gC : n ≤ 1 := oM
 have dv : W.cell? ⟨b9, o9 + (3 + 3 * n), none⟩ = some (.int .i64 V) := by
  rw [xV (3 + 3 * n) oM, HQ, hV]
 have fR : ((n : Int) == 2) = false := by simp; omega
 have q1 : IntKind.i64.wrap (3 * (n : Int)) = 3 * (n : Int) := IntWalk.i64_in _ oM
 have q2 : IntKind.i64.wrap (3 + 3 * (n : Int)) = 3 + 3 * (n : Int) := IntWalk.i64_in _ oM
 have k0 : (0 : Int) ≤ 3 + 3 * (n : Int) := oM
 have k1 : 3 + 3 * (n : Int) < 9 := oM
 have k2 : (3 + 3 * (n : Int)).toNat = 3 + 3 * n := oM
 clear yR qW tY fB hC hn hV qQ
 go_enter func69, ntmps69
 go_upto_region 3 with (fail)
 try rw [hW]
 clear hW
 go_quiet (fail)
 go_wp2
 go_ret2
 exact ⟨rfl, Below.drewN H0.below _⟩
theorem Pg (C C1 C2 F : Array Value) (hC : C.size = 26) (jg : C1.size = 26) (Uu : C2.size = 26) (hF : F.size = 6) (ho : C1.all (·.oneCell') = true) (lR : C2.all (·.oneCell') = true) (z u : Bool) (E P : Value) (c19 : C1[19]? = some (.bool u)) (Xg : C1[24]? = some E) (Xf : C1[25]? = some P)
 (e2 : ((C1.setIfInBounds 19 (.bool false)).setIfInBounds 24 (.slice none 0 0)).setIfInBounds 25 (.slice none 0 0) = C2) (w : World)
 (HD : Hid (∀ w, Calls prog 87 #[.agg C, .agg F] w fun e w' => e = .returned (.tuple #[.agg C1, .bool z]) ∧ bW w w')) :
  Calls prog 44 #[.agg C, .agg F] w fun e w' => e = .returned (if z = true then .tuple #[.agg C1, .int .i64 20] else if u = false then .tuple #[.agg C1, .int .i64 12] else .tuple #[.agg C2, .int .i64 0]) ∧ bW w w' := by
 obtain ⟨W, hW⟩ := ex (((w.alloc (.cells C 45)).alloc (.cells F 35)).alloc (.cells zB 45))
 have H0 := iD (Fr.three hW)
 have HS := iD hC
 have lW := iD jg
 have rU := iD Uu
 have uH := iD hF
 have HO := iD ho
 have mA := iD lR
 have uK := iD c19
 have xg := iD Xg
 have tx := iD Xf
 have FD := iD e2
 clear hC jg Uu hF ho lR c19 Xg Xf e2
 go_enter func44, ntmps44
 go_upto_region 1 with (fail)
 try rw [hW]
 clear hW
 refine wp_region_list ?_
 refine lB H0.aC HS ?_
 refine lF H0.dL uH ?_
 refine cP (HD W) ?_
 rintro e v1 ⟨rfl, dB⟩
 have H2 := iD (H0.ab dB)
 clear dB
 refine rP ?_
 refine wV (.tuple #[.agg C1, .bool z]) ?_
 refine wV (.agg C1) ?_
 refine wV (.bool z) ?_
 refine sP 0 H2 fun w3 _ H3 => ?_
 have d19 := H3.cell0 19 uK
 have d24 := H3.cell0 24 xg
 have d25 := H3.cell0 25 tx
 have f19 := H3.sZ 19
 have f24 := H3.sZ 24
 have f25 := H3.sZ 25
 cases z with
 | true =>
  go_upto_region 3 with (fail)
  refine rQ H3 ?_ lW
  exact fun w4 H4 => ⟨rfl, H4.below⟩
 | false =>
  cases u with
  | false =>
   go_upto_region 5 with (fail)
   refine rQ H3 ?_ lW
   exact fun w4 H4 => ⟨rfl, H4.below⟩
  | true =>
   go_upto_region 7 with (fail)
   have H9 := iD (((H3.iC 19 (.bool false)).iC 24 (.slice none 0 0)).iC 25 (.slice none 0 0))
   rw [FD] at H9
   generalize ((w3.setCell ⟨w.heap.size, 19, none⟩ (.bool false)).setCell ⟨w.heap.size, 24, none⟩ (.slice none 0 0)).setCell ⟨w.heap.size, 25, none⟩ (.slice none 0 0) = w9 at H9 ⊢
   refine rQ H9 ?_ rU
   exact fun TY nk => ⟨rfl, nk.below⟩
theorem Ph (h : gP X B w r b g.pg) :
 Calls prog 44 #[.agg (ba r b), .agg (xa x g)] w fun e w' => ∃ r' : Rb, e = .returned (.tuple #[.agg (ba r' (ei b g).1), .int .i64 (ei b g).2]) ∧ gP X B w' r' (ei b g).1 g.pg ∧ (∀ k, (Value.slice r'.E r'.ne r'.ce).ownBlock = some k → (Value.slice r.E r.ne r.ce).ownBlock = some k) ∧ bW w w' := by
 have h1 := Pg (ba r b) (ba r (ar b g)) (ba { r with E := none, ne := 0, ce := 0, P := none, np := 0, cp := 0 } { ar b g with au := false, erase := [], data := none }) (xa x g) rfl rfl rfl rfl (eX _ _) (eX _ _) (ar b g).af b.au (.slice r.E r.ne r.ce) (.slice r.P r.np r.cp) rfl rfl rfl rfl w (fun w => fY r b x g w)
 refine h1.mono ?_
 rintro e w' ⟨he, hb⟩
 unfold ei
 by_cases hz : (ar b g).af = true
 ·rw [iP hz] at he ⊢
  exact ⟨r, he, (h.below hb).fk g, fun _ hk => hk, hb⟩
 rw [iN hz] at he ⊢
 by_cases hu : b.au = false
 ·rw [iP hu] at he ⊢
  exact ⟨r, he, (h.below hb).fk g, fun _ hk => hk, hb⟩
 rw [iN hu] at he ⊢
 exact ⟨_, he, ⟨(h.below hb).v, fun _ => ⟨QS.nil _ _ _, rfl⟩, fun _ => .inl ⟨rfl, rfl, rfl, rfl⟩⟩, fun k hk => (by cases hk), hb⟩
end Go.Proofs.YtjdknddnanopaaaGreat
