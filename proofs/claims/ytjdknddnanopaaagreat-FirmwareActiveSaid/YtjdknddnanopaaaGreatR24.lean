/-
  Part 24 of the proof.
-/
import Derived.Deep.RegionWith
import Derived.Test.YtjdknddnanopaaaGreatR16
import Derived.Test.YtjdknddnanopaaaGreatR20
namespace Go.Proofs.YtjdknddnanopaaaGreat
open Go.RowKit Tryz
set_option maxRecDepth 100000
set_option maxHeartbeats 16000000
set_option linter.all false
variable {W w w' wr : World} {X Y : Nat → Prop} {y : Rc} {g : Fl} {B B5 N : Nat} {a b c d v : Value} {q : Qv} {s : St} {l : List Int}
def four (w : World) (B : Nat) (a b c d : Value) : Prop :=
 w.cell? ⟨B, 0, none⟩ = some a ∧ w.cell? ⟨B, 1, none⟩ = some b ∧ w.cell? ⟨B, 2, none⟩ = some c ∧ w.cell? ⟨B, 3, none⟩ = some d ∧ ∀ j, w.frozen? ⟨B, j, none⟩ = false
theorem fK (w : World) (p q : Addr) (u : Value) (h : p ≠ q) : (w.setCell p u).cell? q = w.cell? q := World.cell?_setCell_other _ _ _ _ h
theorem LL (w : World) (a b c d : Value) (t : TypeId) (B : Nat) (hB : B = w.heap.size) : four (w.alloc (.cells #[a, b, c, d] t)) B a b c d := by
 subst hB
 exact ⟨bO _ _ _ _ _ _ rfl rfl, bO _ _ _ _ _ _ rfl rfl, bO _ _ _ _ _ _ rfl rfl, bO _ _ _ _ _ _ rfl rfl, fun j => m8 (nS w _ t)⟩
theorem four.lt (h : four w B a b c d) : B < w.heap.size := World.block_lt_of_cell? w _ h.1
theorem four.below (h : four w B a b c d) (hb : Below N w w') (hB : B < N) : four w' B a b c d :=
 ⟨(hb.cell (p := ⟨B, 0, none⟩) hB).trans h.1, (hb.cell (p := ⟨B, 1, none⟩) hB).trans h.2.1, (hb.cell (p := ⟨B, 2, none⟩) hB).trans h.2.2.1, (hb.cell (p := ⟨B, 3, none⟩) hB).trans h.2.2.2.1, fun j => (hb.frozen (p := ⟨B, j, none⟩) hB).trans (h.2.2.2.2 j)⟩
def Ef (w : World) (B : Nat) (a b c d : Value) : World := (((w.setCell ⟨B, 0, none⟩ a).setCell ⟨B, 1, none⟩ b).setCell ⟨B, 2, none⟩ c).setCell ⟨B, 3, none⟩ d
theorem four.put (h : four w B a b c d) (a' b' c' d' : Value) : four (Ef w B a' b' c' d') B a' b' c' d' := by
 obtain ⟨h0, h1, h2, h3, hf⟩ := h
 unfold Ef
 refine ⟨?_, ?_, ?_, ?_, fun j => by rw [World.frozen?_setCell, World.frozen?_setCell, World.frozen?_setCell, World.frozen?_setCell]; exact hf j⟩
 ·rw [fK _ _ _ _ (by simp), fK _ _ _ _ (by simp), fK _ _ _ _ (by simp)]
  exact World.cell?_setCell_same _ _ _ h0
 ·rw [fK _ _ _ _ (by simp), fK _ _ _ _ (by simp)]
  exact World.cell?_setCell_same _ _ _ ((fK _ _ _ _ (by simp)).trans h1)
 ·rw [fK _ _ _ _ (by simp)]
  exact World.cell?_setCell_same _ _ _ ((fK _ _ _ _ (by simp)).trans ((fK _ _ _ _ (by simp)).trans h2))
 exact World.cell?_setCell_same _ _ _ ((fK _ _ _ _ (by simp)).trans ((fK _ _ _ _ (by simp)).trans ((fK _ _ _ _ (by simp)).trans h3)))
def Jl (X : Nat → Prop) (w : World) (N : Nat) (l : List Int) (v : Value) : Prop :=
 ∃ A c, v = .slice A N c ∧ l.length = N ∧ N ≤ c ∧ c ≤ maxLen ∧ cn X w A (aA l)
theorem Jl.ao (h : Jl X w N l v) (k : ah X w w') : Jl X w' N l v := by
 obtain ⟨A, c, h1, h2, h3, h4, h5⟩ := h
 exact ⟨A, c, h1, h2, h3, h4, h5.ao k⟩
theorem Jl.dS (h : Jl X w N l v) (hY : ∀ b, b < w.heap.size → Y b → X b) : Jl Y w N l v := by
 obtain ⟨A, c, h1, h2, h3, h4, h5⟩ := h
 exact ⟨A, c, h1, h2, h3, h4, h5.dS hY⟩
theorem Jl.own {w0 : World} {e : Nat} (h : w.ownsRow w0.heap.size e 1 v N (aA l)) (hl : l.length = N) (hX : ∀ b, X b → b < w0.heap.size) : Jl X w N l v := by
 obtain ⟨A, c, rfl, h1, h2, h3⟩ := a9 h
 exact ⟨A, c, rfl, hl, h1, h2, oH h (fun b hb hx => by have := (h.lt b hb).1; have := hX b hx; omega)⟩
def US (X : Nat → Prop) (w : World) (N : Nat) (o : Option (List Int)) (v : Value) : Prop :=
 match o with
 | none => v = .slice none 0 0
 | some l => Jl X w N l v
theorem US.ao {o : Option (List Int)} (h : US X w N o v) (k : ah X w w') : US X w' N o v := by
 cases o with
 | none => exact h
 | some l => exact Jl.ao h k
theorem US.dS {o : Option (List Int)} (h : US X w N o v) (hY : ∀ b, b < w.heap.size → Y b → X b) : US Y w N o v := by
 cases o with
 | none => exact h
 | some l => exact Jl.dS h hY
theorem Jl.some (h : Jl X w N l v) (h1 : 1 ≤ N) : ∃ b o c, v = .slice (some ⟨b, o, none⟩) N c := by
 obtain ⟨A, c, e, h2, h3, h4, h5⟩ := h
 obtain ⟨b, off, e', _⟩ := h5 (by intro e; have := cj l; rw [e] at this; simp at this; omega)
 exact ⟨b, off, c, by rw [e, e']⟩
theorem O4 {x : Ev} {B0 B1 : Nat} (h : x.ok w B0) (hB : B0 ≤ B1) : x.ok w B1 :=
 ⟨h.rp.more hB, h.lp, h.mp, h.cp, h.bp, h.sq, h.k0, h.k1, h.a0, h.b0⟩
theorem IQ (b p s l : Int) (C B P S N : Nat) (hC : dN b 0 1 = C) (hB : 4 + 2 * C = B) (hP : dN p 2 4 = P) (hS : dN s 1 1073741824 = S) (hN : dN l 1 (((B - 2) / 2 * P * 64 : Nat) : Int) = N) (w : World) :
 Calls prog 7 #[.agg #[.int .i64 b, .int .i64 p, .int .i64 s, .int .i64 l]] w fun e w' => e = .returned (.agg #[.int .i64 B, .int .i64 P, .int .i64 S, .int .i64 N]) ∧ bW w w' := by
 have H1 := iD (fun w => mx b 0 1 w)
 have H2 := iD (fun w => mx p 2 4 w)
 have H3 := iD (fun w => mx s 1 1073741824 w)
 have hP4 : P ≤ 4 := by unfold dN at hP; omega
 have jf : C ≤ 1 := by unfold dN at hC; omega
 have acx : B = 4 ∨ B = 6 := oM
 have e1 : (((B - 2) / 2 * P * 64 : Nat) : Int) = (((B - 2) / 2 : Nat) : Int) * (P : Int) * 64 := by push_cast; rfl
 obtain ⟨k, hk⟩ := ex ((B - 2) / 2)
 have H4 := iD (fun w => mx l 1 ((k : Int) * (P : Int) * 64) w)
 rw [e1, hk] at hN
 rw [hC] at H1
 rw [hP] at H2
 rw [hS] at H3
 rw [hN] at H4
 have QK : 1 ≤ k ∧ k ≤ 2 := oM
 have hBi : (4 : Int) + 2 * (C : Int) = (B : Int) := oM
 have UL : 4 ≤ B ∧ B ≤ 6 := oM
 have q1 : ((B : Int) - 2).tdiv 2 = (k : Int) := by rw [Int.tdiv_eq_ediv_of_nonneg oM]; omega
 have q1' : ((B : Int) - 2) / 2 = (k : Int) := oM
 have q2 : (k : Int) * (P : Int) ≤ 8 ∧ 0 ≤ (k : Int) * (P : Int) := by
  have h1 := Nat.mul_le_mul QK.2 hP4
  have h2 : ((k * P : Nat) : Int) ≤ 8 := oM
  push_cast at h2
  exact ⟨h2, Int.mul_nonneg oM oM⟩
 have q3 : IntKind.i64.wrap ((k : Int) * (P : Int)) = (k : Int) * (P : Int) := IntWalk.i64_in _ oM
 have q4 : IntKind.i64.wrap ((k : Int) * (P : Int) * 64) = (k : Int) * (P : Int) * 64 := IntWalk.i64_in _ oM
 have q5 : IntKind.i64.wrap (2 * (C : Int)) = 2 * (C : Int) := IntWalk.i64_in _ oM
 have q6 : IntKind.i64.wrap (B : Int) = (B : Int) := IntWalk.i64_in _ oM
 obtain ⟨q2a, q2b⟩ := q2
 clear hC hP hS hN e1 hk hB
 go_enter func7, ntmps7
 go_wp2_with (fail)
 go_region_with (first
  | (go_at_call 23; with_reducible refine (H1.out _).mono ?_; rintro e w1 ⟨rfl, rfl⟩)
  | (go_at_call 23; with_reducible refine (H2.out _).mono ?_; rintro e w1 ⟨rfl, rfl⟩))
 all_goals
  go_wp2_with (fail)
  refine (H3 _).mono ?_
  rintro e w1 ⟨rfl, rfl⟩
  go_wp2_with (fail)
  refine (H4 _).mono ?_
  rintro e w1 ⟨rfl, rfl⟩
  go_wp2
  refine bodyPost_ret (v := .agg #[.int .i64 B, .int .i64 P, .int .i64 S, .int .i64 N]) ?_ rfl ⟨rfl, ?_⟩
  ·rw [vB rfl]
   go_simp
  exact Below.drew ((bV.alloc cV _).alloc (by simp) _)
def TB (w : World) (G : Fl) (b : Bk) (e : Ending) (w' : World) : Prop :=
 ∃ W0 L S K, e = .returned (.tuple #[.pointer (some ⟨L.d, 0, none⟩), .pointer (some ⟨K.D, 0, none⟩), .bool true]) ∧ bW w W0 ∧ bo W0 w' L S K G b
theorem KY (d : Nat) (w : World) : (binOp .neq 29 (.pointer (some ⟨d, 0, none⟩)) (.pointer none)).run prog w = .ok (.bool true) w := by kernel_rfl
theorem Hv (k P : Nat) (ux : 1 ≤ k) (QK : k ≤ 2) (Nt : 2 ≤ P) (hP4 : P ≤ 4) (S N : Nat) (ON : 1 ≤ S) (hS2 : S ≤ 1073741824) (EL : 1 ≤ N) (GH : N ≤ k * P * 64) (w : World) (B : Nat) (hB : 2 * k + 2 = B) (G : Fl) (hG : (iJ (dT (2 * k + 2) P) 0 (2 * k + 2) S (eS (eT S N)) (eT S N)).2.1 = G) (b : Bk) (hb : dh G ((0 : Nat) : Int) ((2 * k + 2 : Nat) : Int) = b) :
 Calls prog 8 #[.agg #[.int .i64 B, .int .i64 P, .int .i64 S, .int .i64 N]] w (TB w G b) := by
 have g1 := ne_nil
 have g3 := eq_nil
 obtain ⟨img, gG⟩ := ex (eT S N)
 rw [gG] at hG
 have qn : img.length = N := by rw [← gG]; exact cS _ _
 have Lv : Bytes img := by rw [← gG]; exact iC _ _
 have uS : k * P ≤ 8 := Nat.mul_le_mul QK hP4
 have gE := zK (b := 2 * k + 2) (p := P) oM oM oM oM
 have kC : (dT (2 * k + 2) P).ar.length = 2 * k + 2 := by unfold dT; simp
 have hsz : aM (dT (2 * k + 2) P) (2 * k + 2) = k * P * 64 := by
  unfold aM
  rw [show (2 * k + 2 - 2) / 2 = k by omega]
  rfl
 obtain ⟨fA, js, qH⟩ := zC (first := 0) (k := k) gE ux oM oM Nt Lv (by rw [qn]; exact EL) (by rw [qn, hsz]; exact GH) (v := (S : Int)) ⟨oM, oM⟩
 have HFY : Hid (∀ {w0 w : World} {L : Lc}, bB w0 w L (dT (2 * k + 2) P) → ∀ A, gA L w A (ag .u8 img) → Calls prog 16 #[.pointer (some ⟨L.d, 0, none⟩), .int .i64 0, .int .i64 B, .int .i64 S, .slice A N N] w fun e w' => e = .returned .nilIface ∧ bB w0 w' L (iJ (dT (2 * k + 2) P) 0 (2 * k + 2) S (eS img) img).2.1 ∧ cA L w w') := fun hF A hA =>
  GI hF gE rfl 0 k ux oM oM Nt (S : Int) ⟨oM, oM⟩ A N N img hA qn cV (by unfold maxLen; omega) Lv EL (by rw [hsz]; exact GH) 0 (B : Int) rfl (by rw [hB])
 rw [hG] at fA js qH HFY
 rw [hb] at fA
 have NC := iD (fun W => td (S : Int) (N : Int) N (by unfold dN; omega) W)
 rw [gG] at NC
 have FH := iD (fun W => Gn (B : Int) (P : Int) (2 * k + 2) P (by rw [hB]) rfl W oM oM oM oM)
 have uF := iD qn
 have uD : Hid (∀ {w0 w : World} {L : Lc}, bB w0 w L G → Calls prog 17 #[.pointer (some ⟨L.d, 0, none⟩), .int .i64 0, .int .i64 B] w (AS w0 w L G b)) := fun {w0 w L} hF => by
  have := sT hF (0 : Int) (B : Int) (by have := fA.Vs; rw [hB] at this; exact this) (by have := fA.oe; rw [hB] at this; exact this) (by rw [qH]; exact cn.nil)
  rw [show dh G (0 : Int) (B : Int) = b by rw [← hb, hB]; rfl] at this
  exact this
 obtain ⟨V, hV⟩ := ex (w.alloc (.cells #[.int .i64 B, .int .i64 P, .int .i64 S, .int .i64 N] 23))
 have oY : Hid (bW w V) := by rw [← hV]; exact bV.alloc cV _
 have TZ : Hid (four V w.heap.size (.int .i64 B) (.int .i64 P) (.int .i64 S) (.int .i64 N)) := by rw [← hV]; exact LL _ _ _ _ _ _ _ rfl
 clear gG qn Lv gE kC hsz fA js qH hG hb
 go_enter func8, ntmps8
 obtain ⟨d0, d1, d2, d3, dz⟩ := TZ.out
 clear dz
 go_wp2_with (fail)
 try rw [hV]
 clear hV
 refine (FH V).mono ?_
 rintro e w1 ⟨L, rfl, hF⟩
 have HF := iD hF
 have uI := iD (TZ.below hF.below TZ.lt)
 clear hF d0 d1 d2 d3
 obtain ⟨d0, d1, d2, d3, dz⟩ := uI
 clear dz
 have HFO : Hid (∀ W W' : World, bW V W → cA L W W' → four W' w.heap.size (.int .i64 B) (.int .i64 P) (.int .i64 S) (.int .i64 N)) := fun W W' hb ho => by
  obtain ⟨x0, x1, x2, x3, x4⟩ := TZ.below hb TZ.lt
  have aY := TZ.lt
  have e := ho.block w.heap.size (Nat.lt_of_lt_of_le aY hb.size) (by have := HF.bd; omega) (by have := HF.bi.1; omega) (by have := HF.bw.1; omega)
  exact ⟨(cell_of_block e).trans x0, (cell_of_block e).trans x1, (cell_of_block e).trans x2, (cell_of_block e).trans x3, fun j => (cm e).trans (x4 j)⟩
 have yh : Hid (bW V w1) := HF.below
 have k0 : w1.drew.cell? ⟨w.heap.size, 0, none⟩ = some (.int .i64 B) ∧ w1.drew.cell? ⟨w.heap.size, 2, none⟩ = some (.int .i64 S) ∧ w1.drew.cell? ⟨w.heap.size, 3, none⟩ = some (.int .i64 N) := ⟨d0, d2, d3⟩
 have abx : Hid (∀ W, bW w1 W → Calls prog 11 #[.int .i64 S, .int .i64 N] W fun e w' => ∃ A, e = .returned (.slice A N N) ∧ gA L w' A (ag .u8 img) ∧ bW w1 w' ∧ (w'.cell? ⟨w.heap.size, 0, none⟩ = some (.int .i64 B) ∧ w'.cell? ⟨w.heap.size, 2, none⟩ = some (.int .i64 S) ∧ w'.cell? ⟨w.heap.size, 3, none⟩ = some (.int .i64 N))) := fun W hb => (NC W).mono (fun e w' ⟨A, he, ho, dP⟩ => by
  have nD : bW w1 w' := hb.trans (dP.mono hb.size)
  obtain ⟨x0, x1, x2, x3, x4⟩ := HFO w' w' (yh.trans (nD.mono yh.size)) (cA.refl _ _)
  exact ⟨A, he, tg (HF.ab hb) (by rw [aD]; exact uF) ho, nD, x0, x2, x3⟩)
 have abu : Hid (∀ W A, bW w1 W → gA L W A (ag .u8 img) → Calls prog 16 #[.pointer (some ⟨L.d, 0, none⟩), .int .i64 0, .int .i64 B, .int .i64 S, .slice A N N] W fun e w' => e = .returned .nilIface ∧ bB V w' L G ∧ (w'.cell? ⟨w.heap.size, 0, none⟩ = some (.int .i64 B) ∧ w'.cell? ⟨w.heap.size, 2, none⟩ = some (.int .i64 S) ∧ w'.cell? ⟨w.heap.size, 3, none⟩ = some (.int .i64 N))) := fun W A hb hA => (HFY (HF.ab hb) A hA).mono (fun e w' ⟨he, hf, ho⟩ => by
  obtain ⟨x0, x1, x2, x3, x4⟩ := HFO W w' (yh.trans (hb.mono yh.size)) ho
  exact ⟨he, hf, x0, x2, x3⟩)
 go_wp2_with (fail)
 go_region_held3 (fun w9 => w9.cell? ⟨w.heap.size, 0, none⟩ = some (.int .i64 B) ∧ w9.cell? ⟨w.heap.size, 2, none⟩ = some (.int .i64 S) ∧ w9.cell? ⟨w.heap.size, 3, none⟩ = some (.int .i64 N)) (first | exact k0 | exact k2 | exact k3 | exact ⟨d0, d2, d3⟩ | go_keep) (first
  | (go_at_call 11; with_reducible refine (abx.out _ (by first | exact Below.drew bV | exact Below.refl _ _ | exact Below.drewN bV _)).mono ?_; rintro e w2 ⟨A2, rfl, QU, dP, k2⟩)
  | (go_at_call 16; with_reducible refine (abu.out _ _ dP QU).mono ?_; rintro e w3 ⟨rfl, hf3, k3⟩)
  | fail)
 all_goals
  obtain ⟨x0, -, -⟩ := k3
  have AO := iD hf3
  clear QU dP hf3 k2 k0 d0 d1 d2 d3
  go_wp2_with (fail)
  refine (uD AO).mono ?_
  rintro e w4 ⟨S4, K4, rfl, hk, iI, hD4, hG4, WN, aaP⟩
  have uX := iD hk
  have HKD : Hid (w.heap.size < K4.D) := Nat.lt_of_lt_of_le TZ.lt (Nat.le_trans AO.below.size WN)
  have e9 := KY K4.D
  clear hk iI hD4 hG4 WN aaP x0
  go_wp2
  go_ret3
  exact ⟨V, { L with E := fun g => L.E g ∨ g = K4.D }, S4, K4, rfl, oY, uX⟩
structure Fm (X : Nat → Prop) (w wr : World) (y : Rc) (g : Fl) : Prop where
 below : bW w wr
 s1 : iM wr w.heap.size (.slice y.A g.img.length y.c) (.int .i64 g.pg) (.slice y.B g.ar.length y.d) (.bool g.aF) (.int .i64 g.be) (.slice y.P g.az.length y.r)
 s2 : iM wr (w.heap.size + 1) (.slice none 0 0) (.int .i64 0) (.slice none 0 0) (.bool false) (.int .i64 0) (.slice none 0 0)
 ra : ca (X2 X w.heap.size) wr y g
 sz : w.heap.size + 1 < wr.heap.size
theorem Fm.ab (h : Fm X w wr y g) (hb : bW wr w') : Fm X w w' y g :=
 ⟨h.below.trans (hb.mono h.below.size), h.s1.below hb h.s1.lt, h.s2.below hb h.s2.lt, h.ra.below hb, Nat.lt_of_lt_of_le h.sz hb.size⟩
theorem Fm.new (h : ca X w y g) (hW : (w.alloc (.cells (aX y g) 35)).alloc (.cells Bi 35) = W) : Fm X w W y g := by
 subst hW
 obtain ⟨h1, h2⟩ := uL w (.slice y.A g.img.length y.c) (.int .i64 g.pg) (.slice y.B g.ar.length y.d) (.bool g.aF) (.int .i64 g.be) (.slice y.P g.az.length y.r) (.slice none 0 0) (.int .i64 0) (.slice none 0 0) (.bool false) (.int .i64 0) (.slice none 0 0) 35 35
 exact ⟨ck _ _ _, h1, h2, h.two.below (ck _ _ _), h2.lt⟩
theorem Fm.put {V : World} {z : Rc} {g' : Fl} (h : Fm X w wr y g) (hb : bW wr w') (hr : ca (X2 X w.heap.size) w' z g') (hV : pX w' w.heap.size (.slice z.A g'.img.length z.c) (.int .i64 g'.pg) (.slice z.B g'.ar.length z.d) (.bool g'.aF) (.int .i64 g'.be) (.slice z.P g'.az.length z.r) = V) : Fm X w V z g' := by
 subst hV
 have h' := h.ab hb
 exact ⟨qy h'.below cV _ _ _ _ _ _, h'.s1.put _ _ _ _ _ _, h'.s2.LU oM _ _ _ _ _ _, hr.pX (fj _ _) _ _ _ _ _ _, by rw [yz]; exact h'.sz⟩
theorem Fm.Ui (h : Fm X w wr y g) (hX : ∀ b, X b → b < w.heap.size) : ∀ b, X2 X w.heap.size b → b < wr.heap.size := tw hX h.sz
def RFM (X : Nat → Prop) (w : World) (G : Fl) (code : Int) (e : Ending) (w' : World) : Prop :=
 ∃ y : Rc, e = .returned (.tuple #[y.v G, .int .i64 code]) ∧ ca X w' y G ∧ bW w w'
theorem iM.KT {e f : Value} (h : iM w B a b c d e f) (k : ah X w w') (hB : ¬ X B) : iM w' B a b c d e f := by
 have e := k.block B h.lt hB
 exact ⟨(cell_of_block e).trans h.1, (cell_of_block e).trans h.2.1, (cell_of_block e).trans h.2.2.1, (cell_of_block e).trans h.2.2.2.1, (cell_of_block e).trans h.2.2.2.2.1, (cell_of_block e).trans h.2.2.2.2.2.1, fun j => (cm e).trans (h.2.2.2.2.2.2 j)⟩
def XB (X : Nat → Prop) (B b : Nat) : Prop := X b ∨ b = B
abbrev Vk (q : Qv) (s : St) : Array Value := (aS q s)
structure Ft (X : Nat → Prop) (w wr : World) (y : Rc) (g : Fl) (B5 : Nat) (q : Qv) (s : St) : Prop where
 fm : Fm (XB X B5) w wr y g
 row : wr.heap[B5]? = some (.cells (Vk q s) 43 (0, 0))
 rv : iE (X2 (XB X B5) w.heap.size) wr q s g.pg
 lt : w.heap.size + 1 < B5
theorem Ft.blt (h : Ft X w wr y g B5 q s) : B5 < wr.heap.size := (Array.getElem?_eq_some_iff.1 h.row).1
theorem Ft.ab (h : Ft X w wr y g B5 q s) (hb : bW wr w') : Ft X w w' y g B5 q s :=
 ⟨h.fm.ab hb, (hb.block _ h.blt).trans h.row, h.rv.below hb, h.lt⟩
theorem Ft.Ui (h : Ft X w wr y g B5 q s) (hX : ∀ b, X b → b < w.heap.size) : ∀ b, X2 (XB X B5) w.heap.size b → b < wr.heap.size := fun b hb => by
 have h1 := h.blt
 have h2 := h.lt
 rcases hb with (hb | hb) | hb | hb
 ·have := hX b hb; omega
 ·omega
 ·omega
 omega
theorem Ft.put {q' : Qv} {s' : St} (h : Ft X w wr y g B5 q s) (hb : bW wr w') (hv : iE (X2 (XB X B5) w.heap.size) w' q' s' g.pg) : Ft X w (w'.setRow B5 (Vk q' s')) y g B5 q' s' := by
 have h1 := h.ab hb
 have h2 := h.lt
 have hx : X2 (XB X B5) w.heap.size B5 := .inl (.inr rfl)
 have ho := ah.row (X := fun b => b = B5) w' B5 (Vk q' s') rfl
 have kV := ah.row (X := X2 (XB X B5) w.heap.size) w' B5 (Vk q' s') hx
 refine ⟨⟨below_setRow h1.fm.below oM _, h1.fm.s1.KT ho oM, h1.fm.s2.KT ho oM, h1.fm.ra.ao kV, by rw [size_setRow]; exact h1.fm.sz⟩, setRow_heap _ _ _ _ _ _ h1.row, hv.ao kV, h.lt⟩
theorem Ft.new {M : Nat} (h : Fm X w wr y g) (hb : bW wr w') (hB : wr.heap.size ≤ B5) (hv : iE (XW (X2 X w.heap.size) wr.heap.size M) w' q s g.pg) (hBM : B5 < M ∨ w'.heap.size ≤ B5) 
 (ho : ah (fun b => b = B5) w' W) (DF : bW wr W) (ED : W.heap[B5]? = some (.cells (Vk q s) 43 (0, 0))) : Ft X w W y g B5 q s := by
 have hsz := h.sz
 have hY : ∀ b, b < wr.heap.size → X2 (XB X B5) w.heap.size b → X2 X w.heap.size b := fun b aY hx => by
  rcases hx with (hx | hx) | hx | hx
  ·exact .inl hx
  ·omega
  ·exact .inr (.inl hx)
  exact .inr (.inr hx)
 have hra : ca (X2 (XB X B5) w.heap.size) wr y g := ⟨h.ra.ok, h.ra.a.dS hY, h.ra.a1, h.ra.a2, h.ra.b.dS hY, h.ra.b1, h.ra.b2, h.ra.p.dS hY, h.ra.p1, h.ra.p2⟩
 have hx : X2 (XB X B5) w.heap.size B5 := .inl (.inr rfl)
 have kV : ah (X2 (XB X B5) w.heap.size) w' W := ho.more (fun b hb => by subst hb; exact hx)
 have jA : iE (X2 (XB X B5) w.heap.size) w' q s g.pg := hv.dS (fun b aY hx => by
  rcases hx with (hx | hx) | hx | hx
  ·exact .inl (.inl hx)
  ·rcases hBM with h1 | h1
   ·exact .inr ⟨oM, oM⟩
   omega
  ·exact .inl (.inr (.inl hx))
  exact .inl (.inr (.inr hx)))
 have h1 := h.ab hb
 refine ⟨⟨h.below.trans (DF.mono h.below.size), h.s1.below DF h.s1.lt, h.s2.below DF h.s2.lt, hra.below DF, Nat.lt_of_lt_of_le h.sz DF.size⟩, ED, jA.ao kV, oM⟩
end Go.Proofs.YtjdknddnanopaaaGreat
