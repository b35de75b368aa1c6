/-
  Part 24 of the proof.
-/
import Derived.Deep.RegionWith
import Derived.Test.YtjdknddnanopaaaGreatQ16
import Derived.Test.YtjdknddnanopaaaGreatQ20
namespace Go.Proofs.YtjdknddnanopaaaGreat
open Go.RowKit Tryz
set_option maxRecDepth 100000
set_option maxHeartbeats 16000000
set_option linter.all false
variable {W w w' wr : World} {X Y : Nat → Prop} {y : Rc} {g : Fl} {B B5 N : Nat} {a b c d v : Value} {q : Qv} {s : St} {l : List Int}
def four (w : World) (B : Nat) (a b c d : Value) : Prop :=
 w.cell? ⟨B, 0, none⟩ = some a ∧ w.cell? ⟨B, 1, none⟩ = some b ∧ w.cell? ⟨B, 2, none⟩ = some c ∧ w.cell? ⟨B, 3, none⟩ = some d ∧ ∀ j, w.frozen? ⟨B, j, none⟩ = false
theorem fL (w : World) (p q : Addr) (u : Value) (h : p ≠ q) : (w.setCell p u).cell? q = w.cell? q := World.cell?_setCell_other _ _ _ _ h
theorem four.lt (h : four w B a b c d) : B < w.heap.size := World.block_lt_of_cell? w _ h.1
theorem four.below (h : four w B a b c d) (hb : Below N w w') (hB : B < N) : four w' B a b c d :=
 ⟨(hb.cell (p := ⟨B, 0, none⟩) hB).trans h.1, (hb.cell (p := ⟨B, 1, none⟩) hB).trans h.2.1, (hb.cell (p := ⟨B, 2, none⟩) hB).trans h.2.2.1, (hb.cell (p := ⟨B, 3, none⟩) hB).trans h.2.2.2.1, fun j => (hb.frozen (p := ⟨B, j, none⟩) hB).trans (h.2.2.2.2 j)⟩
def D3 (w : World) (B : Nat) (a b c d : Value) : World := (((w.setCell ⟨B, 0, none⟩ a).setCell ⟨B, 1, none⟩ b).setCell ⟨B, 2, none⟩ c).setCell ⟨B, 3, none⟩ d
theorem four.put (h : four w B a b c d) (a' b' c' d' : Value) : four (D3 w B a' b' c' d') B a' b' c' d' := by
 obtain ⟨h0, h1, h2, h3, hf⟩ := h
 unfold D3
 refine ⟨?_, ?_, ?_, ?_, fun j => by rw [World.frozen?_setCell, World.frozen?_setCell, World.frozen?_setCell, World.frozen?_setCell]; exact hf j⟩
 ·rw [fL _ _ _ _ (by simp), fL _ _ _ _ (by simp), fL _ _ _ _ (by simp)]
  exact World.cell?_setCell_same _ _ _ h0
 ·rw [fL _ _ _ _ (by simp), fL _ _ _ _ (by simp)]
  exact World.cell?_setCell_same _ _ _ ((fL _ _ _ _ (by simp)).trans h1)
 ·rw [fL _ _ _ _ (by simp)]
  exact World.cell?_setCell_same _ _ _ ((fL _ _ _ _ (by simp)).trans ((fL _ _ _ _ (by simp)).trans h2))
 exact World.cell?_setCell_same _ _ _ ((fL _ _ _ _ (by simp)).trans ((fL _ _ _ _ (by simp)).trans ((fL _ _ _ _ (by simp)).trans h3)))
def Jf (X : Nat → Prop) (w : World) (N : Nat) (l : List Int) (v : Value) : Prop :=
 ∃ A c, v = .slice A N c ∧ l.length = N ∧ N ≤ c ∧ c ≤ maxLen ∧ cn X w A (aw l)
theorem Jf.ao (h : Jf X w N l v) (k : ah X w w') : Jf X w' N l v := by
 obtain ⟨A, c, h1, h2, h3, h4, h5⟩ := h
 exact ⟨A, c, h1, h2, h3, h4, h5.ao k⟩
theorem Jf.dQ (h : Jf X w N l v) (hY : ∀ b, b < w.heap.size → Y b → X b) : Jf Y w N l v := by
 obtain ⟨A, c, h1, h2, h3, h4, h5⟩ := h
 exact ⟨A, c, h1, h2, h3, h4, h5.dQ hY⟩
theorem Jf.own {w0 : World} {e : Nat} (h : w.ownsRow w0.heap.size e 1 v N (aw l)) (hl : l.length = N) (hX : ∀ b, X b → b < w0.heap.size) : Jf X w N l v := by
 obtain ⟨A, c, rfl, h1, h2, h3⟩ := a9 h
 exact ⟨A, c, rfl, hl, h1, h2, oE h (fun b hb hx => by have := (h.lt b hb).1; have := hX b hx; omega)⟩
def UD (X : Nat → Prop) (w : World) (N : Nat) (o : Option (List Int)) (v : Value) : Prop :=
 match o with
 | none => v = .slice none 0 0
 | some l => Jf X w N l v
theorem UD.ao {o : Option (List Int)} (h : UD X w N o v) (k : ah X w w') : UD X w' N o v := by
 cases o with
 | none => exact h
 | some l => exact Jf.ao h k
theorem UD.dQ {o : Option (List Int)} (h : UD X w N o v) (hY : ∀ b, b < w.heap.size → Y b → X b) : UD Y w N o v := by
 cases o with
 | none => exact h
 | some l => exact Jf.dQ h hY
theorem Jf.some (h : Jf X w N l v) (h1 : 1 ≤ N) : ∃ b o c, v = .slice (some ⟨b, o, none⟩) N c := by
 obtain ⟨A, c, e, h2, h3, h4, h5⟩ := h
 obtain ⟨b, off, e', _⟩ := h5 (by intro e; have := cj l; rw [e] at this; simp at this; omega)
 exact ⟨b, off, c, by rw [e, e']⟩
theorem OT {x : Ev} {B0 B1 : Nat} (h : x.ok w B0) (hB : B0 ≤ B1) : x.ok w B1 :=
 ⟨h.rp.more hB, h.lp, h.mp, h.cp, h.bp, h.sq, h.k0, h.k1, h.a0, h.b0⟩
theorem IJ (b p s l : Int) (C B P S N : Nat) (hC : dT b 0 1 = C) (hB : 4 + 2 * C = B) (hP : dT p 2 4 = P) (hS : dT s 1 1073741824 = S) (hN : dT l 1 (((B - 2) / 2 * P * 64 : Nat) : Int) = N) (w : World) :
 Calls prog 7 #[.agg #[.int .i64 b, .int .i64 p, .int .i64 s, .int .i64 l]] w fun e w' => e = .returned (.agg #[.int .i64 B, .int .i64 P, .int .i64 S, .int .i64 N]) ∧ bW w w' := by
 have H1 := iD (fun w => mw b 0 1 w)
 have H2 := iD (fun w => mw p 2 4 w)
 have H3 := iD (fun w => mw s 1 1073741824 w)
 have hP4 : P ≤ 4 := by unfold dT at hP; omega
 have jg : C ≤ 1 := by unfold dT at hC; omega
 have aco : B = 4 ∨ B = 6 := oM
 have e1 : (((B - 2) / 2 * P * 64 : Nat) : Int) = (((B - 2) / 2 : Nat) : Int) * (P : Int) * 64 := by push_cast; rfl
 obtain ⟨k, hk⟩ := ex ((B - 2) / 2)
 have H4 := iD (fun w => mw l 1 ((k : Int) * (P : Int) * 64) w)
 rw [e1, hk] at hN
 rw [hC] at H1
 rw [hP] at H2
 rw [hS] at H3
 rw [hN] at H4
 have Uh : 1 ≤ k ∧ k ≤ 2 := oM
 have hBi : (4 : Int) + 2 * (C : Int) = (B : Int) := oM
 have Uv : 4 ≤ B ∧ B ≤ 6 := oM
 have q1 : ((B : Int) - 2).tdiv 2 = (k : Int) := by rw [Int.tdiv_eq_ediv_of_nonneg oM]; omega
 have q1' : ((B : Int) - 2) / 2 = (k : Int) := oM
 have q2 : (k : Int) * (P : Int) ≤ 8 ∧ 0 ≤ (k : Int) * (P : Int) := by
  have h1 := Nat.mul_le_mul Uh.2 hP4
  have h2 : ((k * P : Nat) : Int) ≤ 8 := oM
  push_cast at h2
  exact ⟨h2, Int.mul_nonneg oM oM⟩
 have q3 : IntKind.i64.wrap ((k : Int) * (P : Int)) = (k : Int) * (P : Int) := IntWalk.i64_in _ oM
 have q4 : IntKind.i64.wrap ((k : Int) * (P : Int) * 64) = (k : Int) * (P : Int) * 64 := IntWalk.i64_in _ oM
 have q5 : IntKind.i64.wrap (2 * (C : Int)) = 2 * (C : Int) := IntWalk.i64_in _ oM
 have q6 : IntKind.i64.wrap (B : Int) = (B : Int) := IntWalk.i64_in _ oM
 obtain ⟨q2a, q2b⟩ := q2
 clear hC hP hS hN e1 hk hB
 go_enter func7, ntmps7
 go_wp2_with (fail)
 go_region_with (first
  | (go_at_call 23; with_reducible refine (H1.out _).mono ?_; rintro e w1 ⟨rfl, rfl⟩)
  | (go_at_call 23; with_reducible refine (H2.out _).mono ?_; rintro e w1 ⟨rfl, rfl⟩))
 all_goals
  go_wp2_with (fail)
  refine (H3 _).mono ?_
  rintro e w1 ⟨rfl, rfl⟩
  go_wp2_with (fail)
  refine (H4 _).mono ?_
  rintro e w1 ⟨rfl, rfl⟩
  go_wp2
  refine bodyPost_ret (v := .agg #[.int .i64 B, .int .i64 P, .int .i64 S, .int .i64 N]) ?_ rfl ⟨rfl, ?_⟩
  ·rw [vC rfl]
   go_simp
  exact Below.drew ((bV.alloc cV _).alloc (by simp) _)
structure Fm (X : Nat → Prop) (w wr : World) (y : Rc) (g : Fl) : Prop where
 below : bW w wr
 s1 : iI wr w.heap.size (.slice y.A g.img.length y.c) (.int .i64 g.pg) (.slice y.B g.aq.length y.d) (.bool g.aF) (.int .i64 g.be) (.slice y.P g.az.length y.r)
 s2 : iI wr (w.heap.size + 1) (.slice none 0 0) (.int .i64 0) (.slice none 0 0) (.bool false) (.int .i64 0) (.slice none 0 0)
 ra : cf (X2 X w.heap.size) wr y g
 sz : w.heap.size + 1 < wr.heap.size
theorem Fm.ab (h : Fm X w wr y g) (hb : bW wr w') : Fm X w w' y g :=
 ⟨h.below.trans (hb.mono h.below.size), h.s1.below hb h.s1.lt, h.s2.below hb h.s2.lt, h.ra.below hb, Nat.lt_of_lt_of_le h.sz hb.size⟩
theorem Fm.new (h : cf X w y g) (hW : (w.alloc (.cells (aX y g) 35)).alloc (.cells Bh 35) = W) : Fm X w W y g := by
 subst hW
 obtain ⟨h1, h2⟩ := uO w (.slice y.A g.img.length y.c) (.int .i64 g.pg) (.slice y.B g.aq.length y.d) (.bool g.aF) (.int .i64 g.be) (.slice y.P g.az.length y.r) (.slice none 0 0) (.int .i64 0) (.slice none 0 0) (.bool false) (.int .i64 0) (.slice none 0 0) 35 35
 exact ⟨ck _ _ _, h1, h2, h.two.below (ck _ _ _), h2.lt⟩
theorem Fm.put {V : World} {z : Rc} {g' : Fl} (h : Fm X w wr y g) (hb : bW wr w') (hr : cf (X2 X w.heap.size) w' z g') (hV : pP w' w.heap.size (.slice z.A g'.img.length z.c) (.int .i64 g'.pg) (.slice z.B g'.aq.length z.d) (.bool g'.aF) (.int .i64 g'.be) (.slice z.P g'.az.length z.r) = V) : Fm X w V z g' := by
 subst hV
 have h' := h.ab hb
 exact ⟨qo h'.below cV _ _ _ _ _ _, h'.s1.put _ _ _ _ _ _, h'.s2.Uy oM _ _ _ _ _ _, hr.pP (fj _ _) _ _ _ _ _ _, by rw [yx]; exact h'.sz⟩
theorem Fm.TX (h : Fm X w wr y g) (hX : ∀ b, X b → b < w.heap.size) : ∀ b, X2 X w.heap.size b → b < wr.heap.size := tA hX h.sz
def RFM (X : Nat → Prop) (w : World) (G : Fl) (code : Int) (e : Ending) (w' : World) : Prop :=
 ∃ y : Rc, e = .returned (.tuple #[y.v G, .int .i64 code]) ∧ cf X w' y G ∧ bW w w'
theorem iI.KT {e f : Value} (h : iI w B a b c d e f) (k : ah X w w') (hB : ¬ X B) : iI w' B a b c d e f := by
 have e := k.block B h.lt hB
 exact ⟨(cell_of_block e).trans h.1, (cell_of_block e).trans h.2.1, (cell_of_block e).trans h.2.2.1, (cell_of_block e).trans h.2.2.2.1, (cell_of_block e).trans h.2.2.2.2.1, (cell_of_block e).trans h.2.2.2.2.2.1, fun j => (cF e).trans (h.2.2.2.2.2.2 j)⟩
def XB (X : Nat → Prop) (B b : Nat) : Prop := X b ∨ b = B
abbrev U9 (q : Qv) (s : St) : Array Value := (aS q s)
structure Ft (X : Nat → Prop) (w wr : World) (y : Rc) (g : Fl) (B5 : Nat) (q : Qv) (s : St) : Prop where
 fm : Fm (XB X B5) w wr y g
 row : wr.heap[B5]? = some (.cells (U9 q s) 43 (0, 0))
 rv : ic (X2 (XB X B5) w.heap.size) wr q s g.pg
 lt : w.heap.size + 1 < B5
theorem Ft.blt (h : Ft X w wr y g B5 q s) : B5 < wr.heap.size := (Array.getElem?_eq_some_iff.1 h.row).1
theorem Ft.ab (h : Ft X w wr y g B5 q s) (hb : bW wr w') : Ft X w w' y g B5 q s :=
 ⟨h.fm.ab hb, (hb.block _ h.blt).trans h.row, h.rv.below hb, h.lt⟩
theorem Ft.TX (h : Ft X w wr y g B5 q s) (hX : ∀ b, X b → b < w.heap.size) : ∀ b, X2 (XB X B5) w.heap.size b → b < wr.heap.size := fun b hb => by
 have h1 := h.blt
 have h2 := h.lt
 rcases hb with (hb | hb) | hb | hb
 ·have := hX b hb; omega
 ·omega
 ·omega
 omega
theorem Ft.put {q' : Qv} {s' : St} (h : Ft X w wr y g B5 q s) (hb : bW wr w') (hv : ic (X2 (XB X B5) w.heap.size) w' q' s' g.pg) : Ft X w (w'.setRow B5 (U9 q' s')) y g B5 q' s' := by
 have h1 := h.ab hb
 have h2 := h.lt
 have hx : X2 (XB X B5) w.heap.size B5 := .inl (.inr rfl)
 have ho := ah.row (X := fun b => b = B5) w' B5 (U9 q' s') rfl
 have lR := ah.row (X := X2 (XB X B5) w.heap.size) w' B5 (U9 q' s') hx
 refine ⟨⟨below_setRow h1.fm.below oM _, h1.fm.s1.KT ho oM, h1.fm.s2.KT ho oM, h1.fm.ra.ao lR, by rw [size_setRow]; exact h1.fm.sz⟩, setRow_heap _ _ _ _ _ _ h1.row, hv.ao lR, h.lt⟩
theorem Ft.new {M : Nat} (h : Fm X w wr y g) (hb : bW wr w') (hB : wr.heap.size ≤ B5) (hv : ic (XW (X2 X w.heap.size) wr.heap.size M) w' q s g.pg) (hBM : B5 < M ∨ w'.heap.size ≤ B5) 
 (ho : ah (fun b => b = B5) w' W) (Iy : bW wr W) (Et : W.heap[B5]? = some (.cells (U9 q s) 43 (0, 0))) : Ft X w W y g B5 q s := by
 have hsz := h.sz
 have hY : ∀ b, b < wr.heap.size → X2 (XB X B5) w.heap.size b → X2 X w.heap.size b := fun b aW hx => by
  rcases hx with (hx | hx) | hx | hx
  ·exact .inl hx
  ·omega
  ·exact .inr (.inl hx)
  exact .inr (.inr hx)
 have VN : cf (X2 (XB X B5) w.heap.size) wr y g := ⟨h.ra.ok, h.ra.a.dQ hY, h.ra.a1, h.ra.a2, h.ra.b.dQ hY, h.ra.b1, h.ra.b2, h.ra.p.dQ hY, h.ra.p1, h.ra.p2⟩
 have hx : X2 (XB X B5) w.heap.size B5 := .inl (.inr rfl)
 have lR : ah (X2 (XB X B5) w.heap.size) w' W := ho.more (fun b hb => by subst hb; exact hx)
 have jB : ic (X2 (XB X B5) w.heap.size) w' q s g.pg := hv.dQ (fun b aW hx => by
  rcases hx with (hx | hx) | hx | hx
  ·exact .inl (.inl hx)
  ·rcases hBM with h1 | h1
   ·exact .inr ⟨oM, oM⟩
   omega
  ·exact .inl (.inr (.inl hx))
  exact .inl (.inr (.inr hx)))
 have h1 := h.ab hb
 refine ⟨⟨h.below.trans (Iy.mono h.below.size), h.s1.below Iy h.s1.lt, h.s2.below Iy h.s2.lt, VN.below Iy, Nat.lt_of_lt_of_le h.sz Iy.size⟩, Et, jB.ao lR, oM⟩
end Go.Proofs.YtjdknddnanopaaaGreat
