/-
  Part 21 of the proof.
-/
import Derived.Test.YtjdknddnanopaaaGreatQ19
import Derived.Test.YtjdknddnanopaaaGreatQ20
namespace Go.Proofs.YtjdknddnanopaaaGreat
open Go.RowKit Tryz
set_option maxRecDepth 100000
set_option maxHeartbeats 16000000
set_option linter.all false
variable {w w' : World} {L L' : Lc} {S S' : Sc} {N o p : Nat} {A C R : Array Value} {t : TypeId} {n : Int}
section
variable {w0 w w' : World} {L L' : Lc} {S S' : Sc} {K K' : Kc} {f f' : Fl} {b b' : Bk}
theorem bo.G9 (h : bo w0 w L S K f b) {Y : Nat → Prop} (hY : ∀ g, Y g → L.E g ∧ ¬ qv L S K g) (ho : ah Y w w') (hb : bW w0 w') (E : Nat → Prop) (hE : ∀ b, E b → b < w'.heap.size) (hN : ∀ b, b < w.heap.size → E b → L.E b) (hL : ∀ b, L.E b → E b) : bo w0 w' { L with E := E } S K f b := by
 have hX : ∀ g, g < w.heap.size → eu { L with E := E } S g → eu L S g := fun g aW hy => by
  rcases hy with h5 | he
  ·exact .inl h5
  exact .inr (hN g aW he)
 have hD : ¬ Y K.D := fun hy => (hY _ hy).2 (.inr (.inl rfl))
 exact ⟨h.st.G9 (fun g hg => ⟨(hY g hg).1, fun h5 => (hY g hg).2 (.inl h5)⟩) ho hb E hE hN hL, h.dd, h.nd, hL _ h.ed, fun j u hu => (cell_of_block (ho.block _ h.lt hD)).trans (h.row j u hu), fun j => (cF (ho.block _ h.lt hD)).trans (h.fz j), h.er.block (fun g hg => ho.block g (h.er.lt hg).2 (fun hy => (hY _ hy).2 (.inr (.inr hg)))), fun g hg => ⟨(h.en g hg).1, (h.en g hg).2.1, hL _ (h.en g hg).2.2⟩, (h.dt.dQ hX).KS ho (fun g hg => .inr (hL _ (hY g hg).1))⟩
theorem bo.eb (h : bo w0 w L S K f b) {k : Nat} (hk : L.E k) : k < w.heap.size := h.st.fl.eb k hk
theorem bo.dY (h : bo w0 w L S K f b) : ∀ k, eu L S k → k < w.heap.size := h.st.dY
theorem bo.sH (h : bo w0 w L S K f b) : ∀ k, qv L S K k → eu L S k := fun k hk => by
 rcases hk with hk | rfl | hk
 ·exact .inl hk
 ·exact .inr h.ed
 exact .inr (h.en k hk).2.2
theorem bo.n0 (h : bo w0 w L S K f b) : w0.heap.size ≤ w.heap.size := h.st.fl.below.size
end
def bE (d D : Nat) (F C : Array Value) : Array Value := #[.pointer (some ⟨d, 0, none⟩), .pointer (some ⟨D, 0, none⟩)] ++ F ++ C
structure Pw (w0 w : World) (L : Lc) (S : Sc) (K : Kc) (f : Fl) (bP : Bk) (p : Nat) (V : Array Value) (r : Rb) (y : Rc) (g : Fl) (bR : Bk) : Prop where
 bk : bo w0 w L S K f bP
 rk : gP (eu L S) w0.heap.size w r bR g.pg
 ra : cf (eu L S) w y g
 row : w.heap[p]? = some (.cells V 50 (0, 0))
 pE : L.E p
 pN : ¬ qv L S K p
 p0 : w0.heap.size ≤ p
 eE : ∀ k, (Value.slice r.E r.ne r.ce).ownBlock = some k → L.E k ∧ ¬ qv L S K k ∧ k ≠ p ∧ w0.heap.size ≤ k
structure Ot (w w' : World) (L : Lc) (S : Sc) (L' : Lc) (S' : Sc) : Prop where
 only : ah (eu L S) w w'
 own : ∀ b, b < w.heap.size → eu L' S' b → eu L S b
 d : L'.d = L.d
theorem Ot.trans {w1 w2 : World} {L1 L2 : Lc} {S1 S2 : Sc} (h : Ot w w1 L S L1 S1) (k : Ot w1 w2 L1 S1 L2 S2) : Ot w w2 L S L2 S2 :=
 ⟨h.only.Kl k.only (fun n hn hy => h.own n hn hy), fun b hb hy => h.own b hb (k.own b (Nat.lt_of_lt_of_le hb h.only.size) hy), k.d.trans h.d⟩
theorem Ot.ak (h : bW w w') : Ot w w' L S L S := ⟨.ak h, fun _ _ h => h, rfl⟩
structure Bx (w : World) (L : Lc) (S : Sc) (N : Nat) (A : Array Value) (t : TypeId) : Prop where
 row : w.heap[N]? = some (.cells A t (0, 0))
 no : ¬ eu L S N
theorem Bx.lt (h : Bx w L S N A t) : N < w.heap.size := (Array.getElem?_eq_some_iff.1 h.row).1
theorem Bx.ot (h : Bx w L S N A t) (k : Ot w w' L S L' S') : Bx w' L' S' N A t :=
 ⟨(k.only.block _ h.lt h.no).trans h.row, fun hy => h.no (k.own _ h.lt hy)⟩
theorem RL {A : Option Addr} {xs : List Value} (h : cn (eu L S) w A xs) (k : Ot w w' L S L' S') : cn (eu L' S') w' A xs := fun hx => by
 obtain ⟨b, off, e, aW, hn, hc⟩ := h hx
 exact ⟨b, off, e, Nat.lt_of_lt_of_le aW k.only.size, fun hy => hn (k.own _ aW hy), fun j u hu => (cell_of_block (k.only.block b aW hn)).trans (hc j u hu)⟩
section
variable {w0 w w' : World} {L L' : Lc} {S S' : Sc} {K K' : Kc} {f f' : Fl} {bP Xj bR bR' : Bk} {p : Nat} {V V' : Array Value} {r r' : Rb} {y y' : Rc} {g g' : Fl}
theorem Pw.ab (h : Pw w0 w L S K f bP p V r y g bR) (hb : bW w w') : Pw w0 w' L S K f bP p V r y g bR :=
 ⟨h.bk.ab hb, h.rk.below hb, h.ra.below hb, (hb.block _ (h.bk.eb h.pE)).trans h.row, h.pE, h.pN, h.p0, h.eE⟩
theorem Pw.prog (h : Pw w0 w L S K f bP p V r y g bR) (ha : bY w w' L S K L' S' K') (hk : bo w0 w' L' S' K' f' Xj) : Pw w0 w' L' S' K' f' Xj p V r y g bR ∧ Ot w w' L S L' S' := by
 have bX : ∀ b, b < w.heap.size → eu L' S' b → eu L S b := fun b hb hy => by
  rcases hy with h5 | he
  ·exact h.bk.sH b (ha.own b hb (.inl h5))
  exact .inr (ha.ein b hb he)
 have hX : ∀ b, b < w.heap.size → (eu L S b ∨ eu L' S' b) → eu L S b := fun b hb hy => hy.elim id (bX b hb)
 have hY : ∀ b, qv L S K b → (eu L S b ∨ eu L' S' b) := fun b hb => .inl (h.bk.sH b hb)
 have pl := h.bk.eb h.pE
 have nN : ∀ k, k < w.heap.size → ¬ qv L S K k → ¬ qv L' S' K' k := fun k hk hn hy => hn (ha.own k hk hy)
 refine ⟨⟨hk, ((h.rk.dQ hX).ao ha.only hY (fun k hk => (h.eE k hk).2.1)).dQ (fun _ _ hy => .inr hy), ((h.ra.nM hX).ao (ha.only.more hY)).cX (fun _ hy => .inr hy), (ha.only.block _ pl h.pN).trans h.row, ha.Zb _ h.pE, nN _ pl h.pN, h.p0, fun k hk => ?_⟩, ha.only.more h.bk.sH, bX, ha.ld⟩
 obtain ⟨h1, h2, h3, h4⟩ := h.eE k hk
 exact ⟨ha.Zb _ h1, nN _ (h.bk.eb h1) h2, h3, h4⟩
theorem Pw.ref (h : Pw w0 w L S K f bP p V r y g bR) (hb : bW w w') (hr : gP (eu L S) w0.heap.size w' r' bR' g'.pg) (hy : cf (eu L S) w' y' g') (he : ∀ k, (Value.slice r'.E r'.ne r'.ce).ownBlock = some k → (Value.slice r.E r.ne r.ce).ownBlock = some k) : Pw w0 w' L S K f bP p V r' y' g' bR' :=
 ⟨h.bk.ab hb, hr, hy, (hb.block _ (h.bk.eb h.pE)).trans h.row, h.pE, h.pN, h.p0, fun k hk => h.eE k (he k hk)⟩
theorem Pw.store (h : Pw w0 w L S K f bP p V r y g bR) (ho : ah (fun k => k = p) w w') (hb : bW w0 w') (hr : w'.heap[p]? = some (.cells V' 50 (0, 0))) : Pw w0 w' L S K f bP p V' r y g bR ∧ Ot w w' L S L S := by
 have hY : ∀ k, k = p → eu L S k := fun k hk => .inr (hk ▸ h.pE)
 have hk := h.bk.G9 (Y := fun k => k = p) (fun k hk => ⟨hk ▸ h.pE, hk ▸ h.pN⟩) ho hb L.E (fun k hk => Nat.lt_of_lt_of_le (h.bk.eb hk) ho.size) (fun _ _ hk => hk) (fun _ hk => hk)
 exact ⟨⟨hk, h.rk.ao ho hY (fun k hk => (h.eE k hk).2.2.1), h.ra.ao (ho.more hY), hr, h.pE, h.pN, h.p0, h.eE⟩, ho.more hY, fun _ _ hk => hk, rfl⟩
theorem Pw.begin (h : Pw w0 w L S K f bP p V r y g bR) (ho : ah (fun k => (Value.slice r.E r.ne r.ce).ownBlock = some k) w w') (hb : Below w0.heap.size w w')
 (hr : gP (fun k => eu L S k ∨ w.heap.size ≤ k) w0.heap.size w' r' bR' g.pg) (he : ∀ k, (Value.slice r'.E r'.ne r'.ce).ownBlock = some k → (Value.slice r.E r.ne r.ce).ownBlock = some k ∨ (w.heap.size ≤ k ∧ k < w'.heap.size)) :
 ∃ L', Pw w0 w' L' S K f bP p V r' y g bR' ∧ Ot w w' L S L' S := by
 have h0 := h.bk.n0
 have aW : ∀ k, (Value.slice r'.E r'.ne r'.ce).ownBlock = some k → k < w'.heap.size := fun k hk => (he k hk).elim (fun e => Nat.lt_of_lt_of_le (h.bk.eb (h.eE k e).1) ho.size) (fun e => e.2)
 have hE : ∀ k, (Value.slice r.E r.ne r.ce).ownBlock = some k → eu L S k := fun k hk => .inr (h.eE k hk).1
 have hk := h.bk.G9 (Y := fun k => (Value.slice r.E r.ne r.ce).ownBlock = some k) (fun k hk => ⟨(h.eE k hk).1, (h.eE k hk).2.1⟩) ho (h.bk.st.fl.below.trans hb) (fun k => L.E k ∨ (Value.slice r'.E r'.ne r'.ce).ownBlock = some k) (fun k hk => hk.elim (fun hk => Nat.lt_of_lt_of_le (h.bk.eb hk) ho.size) (aW k)) (fun k hk hy => hy.elim id (fun hy => (he k hy).elim (fun e => (h.eE k e).1) (fun e => oM))) (fun _ hk => .inl hk)
 have bX : ∀ k, k < w.heap.size → eu { L with E := fun k => L.E k ∨ (Value.slice r'.E r'.ne r'.ce).ownBlock = some k } S k → eu L S k := fun k hk hy => by
  rcases hy with h5 | hy | hy
  ·exact .inl h5
  ·exact .inr hy
  exact (he k hy).elim (hE k) (fun e => oM)
 have hX : ∀ k, eu { L with E := fun k => L.E k ∨ (Value.slice r'.E r'.ne r'.ce).ownBlock = some k } S k → eu L S k ∨ w.heap.size ≤ k := fun k hy => by
  by_cases hk : k < w.heap.size
  ·exact .inl (bX k hk hy)
  exact .inr oM
 have hX2 : ∀ k, k < w.heap.size → (eu L S k ∨ w.heap.size ≤ k) → eu L S k := fun k hk hy => hy.elim id (fun e => oM)
 refine ⟨{ L with E := fun k => L.E k ∨ (Value.slice r'.E r'.ne r'.ce).ownBlock = some k }, ⟨hk, hr.dQ (fun k _ hy => hX k hy), ((h.ra.nM hX2).ao (ho.more (fun k hk => .inl (hE k hk)))).cX hX, (ho.block _ (h.bk.eb h.pE) (fun e => (h.eE _ e).2.2.1 rfl)).trans h.row, .inl h.pE, h.pN, h.p0, fun k hk => ?_⟩, ho.more hE, bX, rfl⟩
 rcases he k hk with e | e
 ·exact ⟨.inr hk, (h.eE k e).2⟩
 refine ⟨.inr hk, fun hy => ?_, fun e2 => ?_, oM⟩
 ·have := h.bk.dY k (h.bk.sH k hy)
  omega
 have := h.bk.eb h.pE
 omega
end
structure Dz (w0 w wr : World) (L0 : Lc) (S0 : Sc) (L : Lc) (S : Sc) (K : Kc) (f : Fl) (bP : Bk) (p : Nat) (V : Array Value) (r : Rb) (y : Rc) (g : Fl) (bR : Bk) (N : Nat) (A : Array Value) : Prop where
 pw : Pw w0 wr L S K f bP p V r y g bR
 bx : Bx wr L S N A 52
 ot : Ot w wr L0 S0 L S
 wl : w.heap.size ≤ N
section
variable {w0 w wr w' : World} {L0 L L' : Lc} {S0 S S' : Sc} {K K' : Kc} {f f' : Fl} {bP Xj bR bR' : Bk} {p : Nat} {V V' : Array Value} {r r' : Rb} {y y' : Rc} {g g' : Fl} {N : Nat} {A : Array Value}
theorem Dz.start (h : Pw w0 w L S K f bP p V r y g bR) (A : Array Value) (hW : w.alloc (.cells A 52) = w') : Dz w0 w w' L S L S K f bP p V r y g bR w.heap.size A := by
 subst hW
 have hb : bW w (w.alloc (.cells A 52)) := bV.alloc cV _
 exact ⟨h.ab hb, ⟨heap_alloc_new w _, fun hy => Nat.lt_irrefl _ (h.bk.dY _ hy)⟩, .ak hb, Nat.le_refl _⟩
theorem Dz.ab (h : Dz w0 w wr L0 S0 L S K f bP p V r y g bR N A) (hb : bW wr w') : Dz w0 w w' L0 S0 L S K f bP p V r y g bR N A :=
 ⟨h.pw.ab hb, h.bx.ot (.ak hb), h.ot.trans (.ak hb), h.wl⟩
theorem Dz.prog (h : Dz w0 w wr L0 S0 L S K f bP p V r y g bR N A) (ha : bY wr w' L S K L' S' K') (hk : bo w0 w' L' S' K' f' Xj) : Dz w0 w w' L0 S0 L' S' K' f' Xj p V r y g bR N A := by
 obtain ⟨h1, h2⟩ := h.pw.prog ha hk
 exact ⟨h1, h.bx.ot h2, h.ot.trans h2, h.wl⟩
theorem Dz.ref (h : Dz w0 w wr L0 S0 L S K f bP p V r y g bR N A) (hb : bW wr w') (hr : gP (eu L S) w0.heap.size w' r' bR' g'.pg) (hy : cf (eu L S) w' y' g') (he : ∀ k, (Value.slice r'.E r'.ne r'.ce).ownBlock = some k → (Value.slice r.E r.ne r.ce).ownBlock = some k) : Dz w0 w w' L0 S0 L S K f bP p V r' y' g' bR' N A :=
 ⟨h.pw.ref hb hr hy he, h.bx.ot (.ak hb), h.ot.trans (.ak hb), h.wl⟩
theorem Dz.setRow (h : Dz w0 w wr L0 S0 L S K f bP p V r y g bR N A) (V' : Array Value) : Dz w0 w (wr.setRow p V') L0 S0 L S K f bP p V' r y g bR N A := by
 obtain ⟨h1, h2⟩ := h.pw.store (ah.row wr p V' rfl) (below_setRow h.pw.bk.st.fl.below h.pw.p0 _) (setRow_heap _ _ V _ 50 _ h.pw.row)
 exact ⟨h1, h.bx.ot h2, h.ot.trans h2, h.wl⟩
theorem Dz.begin (h : Dz w0 w wr L0 S0 L S K f bP p V r y g bR N A) (ho : ah (fun k => (Value.slice r.E r.ne r.ce).ownBlock = some k) wr w') (hb : Below w0.heap.size wr w')
 (hr : gP (fun k => eu L S k ∨ wr.heap.size ≤ k) w0.heap.size w' r' bR' g.pg) (he : ∀ k, (Value.slice r'.E r'.ne r'.ce).ownBlock = some k → (Value.slice r.E r.ne r.ce).ownBlock = some k ∨ (wr.heap.size ≤ k ∧ k < w'.heap.size)) :
 ∃ L', Dz w0 w w' L0 S0 L' S K f bP p V r' y g bR' N A ∧ L'.d = L.d := by
 obtain ⟨L', h1, h2⟩ := h.pw.begin ho hb hr he
 exact ⟨L', ⟨h1, h.bx.ot h2, h.ot.trans h2, h.wl⟩, h2.d⟩
end
section
variable {d D : Nat} {F C : Array Value}
theorem gx (hF : F.size = 6) (hC : C.size = 26) : (bE d D F C).size = 34 := by simp [bE, hF, hC]
theorem fc (d D : Nat) (F C : Array Value) : (bE d D F C).toList = .pointer (some ⟨d, 0, none⟩) :: .pointer (some ⟨D, 0, none⟩) :: (F.toList ++ C.toList) := by simp [bE]
theorem qI : (bE d D F C)[0]? = some (.pointer (some ⟨d, 0, none⟩)) := by rw [← Array.getElem?_toList, fc]; rfl
theorem dN : (bE d D F C)[1]? = some (.pointer (some ⟨D, 0, none⟩)) := by rw [← Array.getElem?_toList, fc]; rfl
theorem zC (hF : F.size = 6) (j : Nat) (hj : j < 6) : (bE d D F C)[2 + j]? = F[j]? := by
 rw [← Array.getElem?_toList, fc, Nat.add_comm 2 j, List.getElem?_cons_succ, List.getElem?_cons_succ, List.getElem?_append_left (by rw [Array.length_toList]; omega), Array.getElem?_toList]
theorem gR (hF : F.size = 6) (j : Nat) : (bE d D F C)[8 + j]? = C[j]? := by
 rw [← Array.getElem?_toList, fc, show 8 + j = (6 + j) + 1 + 1 by omega, List.getElem?_cons_succ, List.getElem?_cons_succ, List.getElem?_append_right (by rw [Array.length_toList]; omega), Array.length_toList, hF, show 6 + j - 6 = j by omega, Array.getElem?_toList]
theorem BR (hF : F.size = 6) (F' : Array Value) (IC : F'.size = 6) : FT (bE d D F C) 2 F'.toList = bE d D F' C := by
 apply Array.ext'
 unfold FT
 rw [fc, fc, Array.length_toList, IC]
 have h1 : F.toList.length = 6 := by rw [Array.length_toList]; exact hF
 show (Value.pointer (some ⟨d, 0, none⟩) :: Value.pointer (some ⟨D, 0, none⟩) :: (F.toList ++ C.toList)).take 2 ++ F'.toList ++ List.drop 6 (F.toList ++ C.toList) = _
 rw [List.drop_append_of_le_length oM, List.drop_of_length_le oM]
 simp
theorem KH (hF : F.size = 6) (hC : C.size = 26) (C' : Array Value) (QF : C'.size = 26) : FT (bE d D F C) 8 C'.toList = bE d D F C' := by
 apply Array.ext'
 unfold FT
 rw [fc, fc, Array.length_toList, QF]
 have h1 : F.toList.length = 6 := by rw [Array.length_toList]; exact hF
 have h2 : C.toList.length = 26 := by rw [Array.length_toList]; exact hC
 show Value.pointer (some ⟨d, 0, none⟩) :: Value.pointer (some ⟨D, 0, none⟩) :: ((F.toList ++ C.toList).take 6 ++ C'.toList ++ List.drop 32 (F.toList ++ C.toList)) = _
 rw [List.take_append_of_le_length oM, List.take_of_length_le oM, List.drop_of_length_le (by rw [List.length_append]; omega), List.append_nil]
theorem KI (D' : Nat) : (bE d D F C).setIfInBounds 1 (.pointer (some ⟨D', 0, none⟩)) = bE d D' F C := by
 apply Array.ext'
 rw [Array.toList_setIfInBounds, fc, fc]
 rfl
theorem wC {n : Nat} (hC : C.size = n) (hR : o + n ≤ R.size) (h : ∀ j, j < n → R[o + j]? = C[j]?) : (R.extract o (o + n)) = C := by
 apply Array.ext_getElem?
 intro i
 rw [Array.getElem?_extract]
 by_cases hi : i < n
 ·rw [iP oM]
  exact h i hi
 rw [iN oM, Array.getElem?_eq_none oM]
theorem F9 (hw : w.heap[p]? = some (.cells (bE d D F C) 50 (0, 0))) (hF : F.size = 6) (hC : C.size = 26) : w.rangeAt p 8 C.toList := by
 have hr := World.rangeAt_of_block hw 8 26
 rw [wC hC (by rw [gx hF hC]; decide) (fun j _ => gR hF j)] at hr
 exact hr
theorem F8 (hw : w.heap[p]? = some (.cells (bE d D F C) 50 (0, 0))) (hF : F.size = 6) (hC : C.size = 26) : w.rangeAt p 2 F.toList := by
 have hr := World.rangeAt_of_block hw 2 6
 rw [wC hF (by rw [gx hF hC]; decide) (fun j hj => zC hF j hj)] at hr
 exact hr
variable {ops : Array Oper} {op : Oper} {a : Go.Act} {S : World → Prop}
theorem ZI (hw : Region.wanted op (yielded ops a.tmps) = true) (x : Operand) (ho : op.op = .load 45 x) (p : Nat) (hx : a.eval x = .pointer (some ⟨p, 8, none⟩)) (hS : ∀ w, S w → w.heap[p]? = some (.cells (bE d D F C) 50 (0, 0))) (hF : F.size = 6) (hC : C.size = 26) : YieldsIf prog ops S op (.agg C) a := by
 have := yieldsIf_load_mid hw 45 x ho p 8 hx C.toList _ (fun w h => F9 (hS w h) hF hC) underlying45 rfl (by rw [Array.length_toList]; exact gE hC)
 rw [Array.toArray_toList] at this
 exact this
theorem ZJ (hw : Region.wanted op (yielded ops a.tmps) = true) (x : Operand) (ho : op.op = .load 35 x) (p : Nat) (hx : a.eval x = .pointer (some ⟨p, 2, none⟩)) (hS : ∀ w, S w → w.heap[p]? = some (.cells (bE d D F C) 50 (0, 0))) (hF : F.size = 6) (hC : C.size = 26) : YieldsIf prog ops S op (.agg F) a := by
 have := yieldsIf_load_mid hw 35 x ho p 2 hx F.toList _ (fun w h => F8 (hS w h) hF hC) underlying35 rfl (by rw [Array.length_toList]; exact pv hF)
 rw [Array.toArray_toList] at this
 exact this
variable {Q : Exit → Go.Act → World → Prop} {i : Nat} {oi : Oper} {w : World} {K : Go.Act → World → Prop}
theorem so {n : Nat} (hw : w.heap[p]? = some (.cells R t (0, 0))) (hs : o + n ≤ R.size) : w.there p o n := fun j hj => by
 rw [cell_of_row w p (o + j) R t (0, 0) hw, Array.getElem?_eq_getElem oM]
 exact ⟨rfl, frozen_of_row w p (o + j) R t hw⟩
theorem uW (hi : ops[i]? = some oi) (wi : Region.wanted oi (yielded ops a.tmps) = true) (di : oi.dst = none) (x y : Operand) (ho : oi.op = .store 45 x y) (p : Nat) (C' : Array Value) (hx : a.eval x = .pointer (some ⟨p, 8, none⟩)) (hy : a.eval y = .agg C') (hw : w.heap[p]? = some (.cells (bE d D F C) 50 (0, 0))) (hF : F.size = 6) (hC : C.size = 26) (QF : C'.size = 26) (h1 : C'.all (·.oneCell') = true)
 (h : K a (w.setRow p (bE d D F C'))) : wpOp prog ops Q i K a w :=
 wpOp_step hi (fun K' hK => by
  rw [iP wi]
  refine wp_store_mid 45 x y ho p 8 C' hx hy (so hw (by rw [gx hF hC, QF]; decide)) (gE QF) h1 ?_
  rw [di, iM C'.toList hw 8 (by rw [gx hF hC, Array.length_toList, QF]; decide), KH hF hC C' QF]
  exact hK _ _ h)
theorem O1 (hi : ops[i]? = some oi) (wi : Region.wanted oi (yielded ops a.tmps) = true) (di : oi.dst = none) (x y : Operand) (ho : oi.op = .store 35 x y) (p : Nat) (F' : Array Value) (hx : a.eval x = .pointer (some ⟨p, 2, none⟩)) (hy : a.eval y = .agg F') (hw : w.heap[p]? = some (.cells (bE d D F C) 50 (0, 0))) (hF : F.size = 6) (hC : C.size = 26) (IC : F'.size = 6) (h1 : F'.all (·.oneCell') = true)
 (h : K a (w.setRow p (bE d D F' C))) : wpOp prog ops Q i K a w :=
 wpOp_step hi (fun K' hK => by
  rw [iP wi]
  refine wp_store_mid 35 x y ho p 2 F' hx hy (so hw (by rw [gx hF hC, IC]; decide)) (pv IC) h1 ?_
  rw [di, iM F'.toList hw 2 (by rw [gx hF hC, Array.length_toList, IC]; decide), BR hF F' IC]
  exact hK _ _ h)
end
section
variable {w0 w w' : World} {L : Lc} {S : Sc} {K : Kc} {f : Fl} {bP bR : Bk} {p : Nat} {V : Array Value} {r : Rb} {y : Rc} {g : Fl}
theorem Pw.setRow (h : Pw w0 w L S K f bP p V r y g bR) (V' : Array Value) : Pw w0 (w.setRow p V') L S K f bP p V' r y g bR ∧ Ot w (w.setRow p V') L S L S :=
 h.store (ah.row w p V' rfl) (below_setRow h.bk.st.fl.below h.p0 _) (setRow_heap _ _ V _ 50 _ h.row)
end
structure JD (f : Fl) (b : Bk) (f' : Fl) (b' : Bk) (n : Int) : Prop where
 pl : jF f' b' (n + 1)
 Uy : JC f f' b
 fi : b'.first = b.first
 bl : b'.aa = b.aa
section
variable {f : Fl} {b : Bk} {n : Int}
theorem LV (h : jF f b n) (v l : Int) : JD f b f (cA b f v l).1 n :=
 ⟨(Pc h v l).more oM, JC.refl f b, by unfold cA; (repeat' split) <;> rfl, by unfold cA; (repeat' split) <;> rfl⟩
theorem OV (h : jF f b n) {x : List Int} (hx : Bytes x) : JD f b f (dG b f x).1 n :=
 ⟨(SU h hx).more oM, JC.refl f b, by unfold dG; (repeat' split) <;> rfl, by unfold dG; (repeat' split) <;> rfl⟩
theorem IS (h : jF f b n) {c : Int} (hc : 0 ≤ c ∧ c < 4294967296) : JD f b f (bU b f c).1 n :=
 ⟨(LQ h hc).more oM, JC.refl f b, by unfold bU; (repeat' split) <;> rfl, by unfold bU; (repeat' split) <;> rfl⟩
theorem LW (h : jF f b n) : JD f b f (ei b f).1 n :=
 ⟨(Pj h).more oM, JC.refl f b, by unfold ei; (repeat' split) <;> rfl, by unfold ei; (repeat' split) <;> rfl⟩
theorem EN (h : jF f b n) : JD f b f (bJ b f).1 n :=
 ⟨(I1 h).more oM, JC.refl f b, by unfold bJ; (repeat' split) <;> rfl, by unfold bJ; (repeat' split) <;> rfl⟩
theorem LU (h : jF f b n) (s : Int) : JD f b f (dp b f s).1 n :=
 ⟨(Oa h s).more oM, JC.refl f b, by rw [pW]; rfl, by rw [pW]; rfl⟩
theorem OW (h : jF f b n) : JD f b (cz b f).2.1 (cz b f).1 n :=
 ⟨Tb h, Tc h, by unfold cz; simp only; (repeat' split) <;> rfl, by unfold cz; simp only; (repeat' split) <;> rfl⟩
theorem OR (h : jF f b n) : JD f b (aK b f).2.1 (aK b f).1 n :=
 ⟨Rx h, Ry h, by unfold aK; (repeat' split) <;> rfl, by unfold aK; (repeat' split) <;> rfl⟩
theorem OU (h : jF f b n) {m : Int} {p : List Int} (hp : Bytes p) (hm : m < 9223372036854775808) : JD f b (fM f m p) b n :=
 ⟨(SQ h hp hm).more oM, ⟨CA f m p, fun _ _ _ => rfl⟩, rfl, rfl⟩
theorem vn (f : Fl) (b : Bk) : JC f (aR f) b := by
 unfold aR
 split
 ·exact ⟨⟨rfl, rfl⟩, fun _ _ _ => rfl⟩
 exact JC.refl f b
theorem LS (h : jF f b n) : JD f b (aR f) b n := ⟨(zr h).1, vn f b, rfl, rfl⟩
theorem OS (h : jF f b n) : JD f b (aR f) (dI (aR f) (b.first : Int) (b.aa : Int)) n :=
 ⟨(zr h).2.2, vn f b, rfl, rfl⟩
end
section
variable {w0 w wr : World} {L0 L : Lc} {S0 S : Sc} {K : Kc} {f g : Fl} {bP bR : Bk} {p N : Nat} {V A : Array Value} {r : Rb} {y : Rc} {ops : Array Oper} {Q : Exit → Go.Act → World → Prop} {a : Go.Act}
theorem Dz.f2 (h : Dz w0 w wr L0 S0 L S K f bP p V r y g bR N A) : wr.heap[p]? = some (.cells V 50 (0, 0)) ∧ wr.heap[N]? = some (.cells A 52 (0, 0)) := ⟨h.pw.row, h.bx.row⟩
theorem rD {id : Nat} (h : Hid (Dz w0 w wr L0 S0 L S K f bP p V r y g bR N A)) (k : Hid (Dz w0 w wr.drew L0 S0 L S K f bP p V r y g bR N A) → wpAnyH prog .any ops Q (fun w' => w'.heap[p]? = some (.cells V 50 (0, 0)) ∧ w'.heap[N]? = some (.cells A 52 (0, 0))) ops.size (Array.replicate ops.size false) a wr.drew) : (Code.region id ops true).wp prog Q a wr :=
 wp_region_held_drew (by kernel_rfl) (h.out.ab fT).f2 (fun _ => k (h.out.ab fT))
theorem rK {id : Nat} (h : Hid (Dz w0 w wr L0 S0 L S K f bP p V r y g bR N A)) (n : Nat) (k : Hid (Dz w0 w wr.drew L0 S0 L S K f bP p V r y g bR N A) → fF prog .any ops Q (fun w' => w'.heap[p]? = some (.cells V 50 (0, 0)) ∧ w'.heap[N]? = some (.cells A 52 (0, 0))) n ops.size (Array.replicate ops.size false) a wr.drew) : (Code.region id ops true).wp prog Q a wr :=
 mh (by kernel_rfl) _ n (k (h.out.ab fT))
end
section
variable {ops : Array Oper} {op : Oper} {a : Go.Act} {S : World → Prop} {d D p : Nat} {F C : Array Value} {x : Operand}
theorem zo (hS : ∀ w, S w → w.heap[p]? = some (.cells (bE d D F C) 50 (0, 0))) (hF : F.size = 6 := by exact aQ _ _) (hC : C.size = 26 := by exact bC _ _) (hw : Region.wanted op (yielded ops a.tmps) = true := by exact rfl) (ho : op.op = .load 45 x := by exact rfl) (hx : a.eval x = .pointer (some ⟨p, 8, none⟩) := by exact rfl) : YieldsIf prog ops S op (.agg C) a := ZI hw x ho p hx hS hF hC
theorem vd (hS : ∀ w, S w → w.heap[p]? = some (.cells (bE d D F C) 50 (0, 0))) (hF : F.size = 6 := by exact aQ _ _) (hC : C.size = 26 := by exact bC _ _) (hw : Region.wanted op (yielded ops a.tmps) = true := by exact rfl) (ho : op.op = .load 35 x := by exact rfl) (hx : a.eval x = .pointer (some ⟨p, 2, none⟩) := by exact rfl) : YieldsIf prog ops S op (.agg F) a := ZJ hw x ho p hx hS hF hC
theorem ZH (h : C.size = 4) : (prog.info? 52).map (·.size) = some C.size := by
 rw [h]
 kernel_rfl
theorem U0 {g : Nat} (hS : ∀ w, S w → w.heap[g]? = some (.cells C 52 (0, 0))) (hs : C.size = 4) (hw : Region.wanted op (yielded ops a.tmps) = true := by exact rfl) (ho : op.op = .load 52 x := by exact rfl) (hx : a.eval x = .pointer (some ⟨g, 0, none⟩) := by exact rfl) : YieldsIf prog ops S op (.agg C) a :=
 bF hw 52 x ho g hx 52 C (0, 0) _ hS underlying52 rfl (ZH hs)
variable {w0 w wr : World} {L0 L : Lc} {S0 S9 : Sc} {K : Kc} {f g : Fl} {bP bR : Bk} {N : Nat} {A : Array Value} {r : Rb} {y : Rc} {Q : Exit → Go.Act → World → Prop} {i : Nat} {oi : Oper} {KK : Go.Act → World → Prop} {z : Operand}
theorem DY {C' : Array Value} (h : Hid (Dz w0 w wr L0 S0 L S9 K f bP p (bE d D F C) r y g bR N A)) (k : ∀ w', Hid (Dz w0 w w' L0 S0 L S9 K f bP p (bE d D F C') r y g bR N A) → KK a w') 
 (hi : ops[i]? = some oi := by exact rfl) (wi : Region.wanted oi (yielded ops a.tmps) = true := by exact rfl) (di : oi.dst = none := by exact rfl) (ho : oi.op = .store 45 x z := by exact rfl) (hx : a.eval x = .pointer (some ⟨p, 8, none⟩) := by exact rfl) (hy : a.eval z = .agg C' := by exact rfl)
 (hF : F.size = 6 := by exact aQ _ _) (hC : C.size = 26 := by exact bC _ _) (QF : C'.size = 26 := by exact bC _ _) (h1 : C'.all (·.oneCell') = true := by exact eX _ _) : wpOp prog ops Q i KK a wr :=
 uW hi wi di x z ho p C' hx hy h.out.pw.row hF hC QF h1 (k _ (h.out.setRow _))
theorem RB {F' : Array Value} (h : Hid (Dz w0 w wr L0 S0 L S9 K f bP p (bE d D F C) r y g bR N A)) (k : ∀ w', Hid (Dz w0 w w' L0 S0 L S9 K f bP p (bE d D F' C) r y g bR N A) → KK a w') 
 (hi : ops[i]? = some oi := by exact rfl) (wi : Region.wanted oi (yielded ops a.tmps) = true := by exact rfl) (di : oi.dst = none := by exact rfl) (ho : oi.op = .store 35 x z := by exact rfl) (hx : a.eval x = .pointer (some ⟨p, 2, none⟩) := by exact rfl) (hy : a.eval z = .agg F' := by exact rfl)
 (hF : F.size = 6 := by exact aQ _ _) (hC : C.size = 26 := by exact bC _ _) (IC : F'.size = 6 := by exact aQ _ _) (h1 : F'.all (·.oneCell') = true := by exact mE _ _) : wpOp prog ops Q i KK a wr :=
 O1 hi wi di x z ho p F' hx hy h.out.pw.row hF hC IC h1 (k _ (h.out.setRow _))
end
def oy (w0 w : World) (L : Lc) (S : Sc) (p : Nat) (f : Fl) (b : Bk) (n : Int) (e : Ending) (w' : World) : Prop :=
 ∃ L' S' K' f' b' r' y' g', e = .returned (.bool true) ∧ Pw w0 w' L' S' K' f' b' p (bE L'.d K'.D (xa y' g') (ba r' b')) r' y' g' b' ∧ Ot w w' L S L' S' ∧ fC f' g' ∧ JD f b f' b' n
theorem oy.mk' {w0 wr : World} {K' : Kc} {f f' : Fl} {b b' : Bk} {d D : Nat} {r' : Rb} {y' : Rc} {g' : Fl} (h : Dz w0 w wr L S L' S' K' f' b' p (bE d D (xa y' g') (ba r' b')) r' y' g' b' N A) (hd : L'.d = d) (hD : K'.D = D) (hs : fC f' g') (he : JD f b f' b' n) : oy w0 w L S p f b n (.returned (.bool true)) wr := by
 subst hd hD
 exact ⟨L', S', K', f', b', r', y', g', rfl, h.pw, h.ot, hs, he⟩
structure M5 (w0 w : World) (L : Lc) (S : Sc) (K : Kc) (f g : Fl) (b : Bk) (p : Nat) (r : Rb) (y : Rc) (n k A B : Int) (P : Option Addr) (np cp : Nat) (pk : List Int) : Prop where
 h : Pw w0 w L S K f b p (bE L.d K.D (xa y g) (ba r b)) r y g b
 hs : fC f g
 hp : jF f b n
 hn : n < 999000
 A0 : 0 ≤ k ∧ k < 256
 hA : dH A
 hB : dH B
 hP : Rd w0 w0.heap.size P (ag .u8 pk)
 fQ : pk.length = np
 Gp : np ≤ 140737488351232
 qz : Bytes pk
def zn (w0 w : World) (L : Lc) (S : Sc) (p : Nat) (f : Fl) (b : Bk) (n k A B : Int) (P : Option Addr) (np cp : Nat) : Prop :=
 Calls prog 14 #[.pointer (some ⟨p, 0, none⟩), .agg #[.int .u8 k, .int .i64 A, .int .i64 B, .slice P np cp]] w (oy w0 w L S p f b n)
theorem M6 (k A B : Int) (P : Option Addr) (np cp : Nat) : ∃ Z : Array Value, #[.int .u8 k, .int .i64 A, .int .i64 B, .slice P np cp] = Z ∧ Hid (Z.size = 4) ∧ Hid (Z[0]? = some (.int .u8 k)) ∧ Hid (Z[1]? = some (.int .i64 A)) ∧ Hid (Z[2]? = some (.int .i64 B)) ∧ Hid (Z[3]? = some (.slice P np cp)) := ⟨_, rfl, rfl, rfl, rfl, rfl, rfl⟩
theorem dE {p q c : Prop} (d1 : c) (k : q) (h : c → q → p := by
 intro d1 k
 go_upto_region 55 with (fail)
 go_wp2_with ((first | with_reducible refine (N5 _ _).mono ?_ | with_reducible refine (Gf _).mono ?_); rintro e v9 ⟨rfl, rfl⟩)
 try go_ret
 exact k) : p := h d1 k
theorem rm (args : Array Value) (w : World) : (callFunc 12 args).run prog w = .ok (.enter 12 args) w := by
 go_simp
theorem z52 (h : C.size = 4) : (prog.info? 52).map (·.size) = some C.size := by
 rw [h]
 kernel_rfl
theorem Ao (A B : Int) (b : Bk) : Bytes (kT A B b) := by
 unfold kT
 split
 ·exact jC _ _
 exact fun x hx => jC _ _ x (List.mem_of_mem_drop (List.mem_of_mem_take hx))
section
variable {w0 w : World} {L : Lc} {S : Sc} {K : Kc} {f : Fl} {b : Bk}
theorem CG (h : bo w0 w L S K f b) (hp : jF f b n) (hn : n < 999000) : Calls prog 45 #[.pointer (some ⟨K.D, 0, none⟩)] w (xp w0 w L S K f (bJ b f)) := by
 by_cases nA : b.af = true
 ·have cQ : (ar b f).af = true := by unfold ar; rw [nA]; rfl
  have g1 := ne_nil
  have g2 := fW
  have HR := iD (fe h)
  have HB : Hid (bJ b f = (ar b f, 20)) := by unfold bJ; rw [Hid, iP cQ]
  rw [iP cQ, dJ (by decide)] at HR
  clear h hp hn cQ nA
  go_enter func45, ntmps45
  go_wp2_with (fail)
  refine HR.mono ?_
  rintro e w1 ⟨rfl, hK, hX⟩
  have HK := iD hK
  have HX := iD hX
  clear hK hX
  go_wp2
  go_ret
  rw [HB]
  exact ⟨rfl, .mk' (.dh HX) HK⟩
 have hJ := (hp.up (by simpa using nA)).1
 exact Ae h hp.ok (fun hb hr => (hJ.lv hb (hJ.dn hb)).2.symm.trans hr) (by have := hJ.sq; omega)
theorem EK (h : bo w0 w L S K f b) (hp : jF f b n) (hn : n < 999000) (c : Int) (hc : 0 ≤ c ∧ c < 4294967296) : Calls prog 41 #[.pointer (some ⟨K.D, 0, none⟩), .int .u32 c] w (xp w0 w L S K f (bU b f c)) := by
 by_cases nA : b.af = true
 ·have cQ : (ar b f).af = true := by unfold ar; rw [nA]; rfl
  have g1 := ne_nil
  have g2 := fW
  have HR := iD (fe h)
  have HB : Hid (bU b f c = (ar b f, 20)) := by unfold bU; rw [Hid, iP cQ]
  rw [iP cQ, dJ (by decide)] at HR
  clear h hp hn cQ nA
  go_enter func41, ntmps41
  go_wp2_with (fail)
  refine HR.mono ?_
  rintro e w1 ⟨rfl, hK, hX⟩
  have HK := iD hK
  have HX := iD hX
  have c6 : w1.cell? ⟨K.D, 6, none⟩ = some (.bool b.au) := hK.row 6 _ rfl
  have uf : w1.cell? ⟨K.D, 10, none⟩ = some (.int .i64 b.cH) := hK.row 10 _ rfl
  have c9 : w1.cell? ⟨K.D, 9, none⟩ = some (.int .i64 b.length) := hK.row 9 _ rfl
  clear hK hX
  go_wp2
  go_ret
  rw [HB]
  exact ⟨rfl, .mk' (.dh HX) HK⟩
 have hJ := (hp.up (by simpa using nA)).1
 exact CF h hp.ok (fun hb hr => (hJ.lv hb (hJ.dn hb)).2.symm.trans hr) (by have := hJ.sq; omega) hJ.ul c hc
end
variable {w0 w : World} {L : Lc} {S : Sc} {K : Kc} {f g : Fl} {b : Bk} {p : Nat} {r : Rb} {y : Rc} {n k A B : Int} {P : Option Addr} {np cp : Nat} {pk : List Int}
theorem Md (H : M5 w0 w L S K f g b p r y n k A B P np cp pk) (hk : k % 16 = 0) : zn w0 w L S p f b n k A B P np cp := by
 obtain ⟨h, hs, hp, hn, A0, hA, hB, hP, fQ, Gp, qz⟩ := H
 unfold zn
 obtain ⟨Z, hZ, HZ, xT, nB, Jk, DA⟩ := M6 k A B P np cp
 have HS := iD hs
 have nj := iD hp
 have tZ : bS g b := bS.xG hs hp.ok
 have HH := iD h
 obtain ⟨⟨b5, cd⟩, hq⟩ := ex (cA b f A B)
 have HC := iD (fun (wr : World) (hb : bo w0 wr L S K f b) => EL hb hp.ok A B hB)
 rw [hq] at HC
 have HR := iD (fun (wr : World) (L5 : Lc) (S5 : Sc) (K5 : Kc) (hz : Pw w0 wr L5 S5 K5 f b5 p (bE L.d K.D (xa y g) (ba r b)) r y g b) => Jb (n0 := n) (X := fun k => eu L5 S5 k ∨ wr.heap.size ≤ k) (hz.rk.dQ (fun k hk hy => hy.elim id (fun e => oM))) (hz.ra.nM (fun k hk hy => hy.elim id (fun e => oM))) tZ (fun hb => jJ.xG hs hz.ra.ok (hp.up hb).1) hz.bk.n0 (fun k hk => .inl (.inr (hz.eE k hk).1)) A B hA hB)
 rw [hs.cA, hq] at HR
 have tv := iD (LV hp A B)
 rw [hq] at tv
 clear hq
 obtain ⟨W, hW⟩ := ex (w.alloc (.cells Z 52))
 have H0 := iD (Dz.start h Z hW)
 have d0 := (cell_of_row W w.heap.size 0 Z 52 (0, 0) H0.bx.row).trans xT
 rw [hZ]
 clear hZ h hs hp tZ hP hA hB
 go_enter func14, ntmps14
 go_upto_region 11 with (fail)
 refine rD H0 fun H2 => ?_
 refine vP 0 p 0 H2.f2 ?_
 refine vP 1 p 0 H2.f2 ?_
 refine vP 2 p 1 H2.f2 ?_
 refine tL 3 _ rfl (yC fun _ hS => gH hS.1 dN) H2.f2 ?_
 refine vP 4 w.heap.size 1 H2.f2 ?_
 refine tL 5 _ rfl (yC fun _ hS => gH hS.2 nB) H2.f2 ?_
 refine vP 6 w.heap.size 2 H2.f2 ?_
 refine tL 7 _ rfl (yC fun _ hS => gH hS.2 Jk) H2.f2 ?_
 refine wI 8 (cW (HC _ H2.pw.bk) ?_)
 rintro e v5 ⟨rfl, L5, S5, K5, kJ, mu⟩
 have H3 := iD (H2.prog kJ mu)
 have uZ := iD kJ.d
 have Dc := iD kJ.ld
 clear kJ mu
 refine rW H3.f2 ?_
 refine tV 9 (fy cd) H3.f2 ?_
 refine wD ?_
 go_upto_region 12 with (fail)
 refine rK H3 19 fun H4 => ?_
 refine kP 0 p 0 H4.f2 ?_
 refine kP 1 p 0 H4.f2 ?_
 refine kP 2 p 0 H4.f2 ?_
 refine kP 3 p 8 H4.f2 ?_
 refine tM 4 _ rfl (zo (fun _ hS => hS.1)) H4.f2 ?_
 refine kP 5 p 0 H4.f2 ?_
 refine kP 6 p 0 H4.f2 ?_
 refine kP 7 p 2 H4.f2 ?_
 refine tM 8 _ rfl (vd (fun _ hS => hS.1)) H4.f2 ?_
 refine kP 9 w.heap.size 1 H4.f2 ?_
 refine tM 10 _ rfl (yC fun _ hS => gH hS.2 nB) H4.f2 ?_
 refine kP 11 w.heap.size 2 H4.f2 ?_
 refine tM 12 _ rfl (yC fun _ hS => gH hS.2 Jk) H4.f2 ?_
 refine kI 13 (cW (HR _ _ _ _ H4.pw) ?_)
 rintro e v6 ⟨r6, rfl, kF, xx, oH, fx⟩
 obtain ⟨L6, hz6, Bd⟩ := H4.begin oH fx kF xx
 have H5 := iD hz6
 have HLD := iD Bd
 clear hz6 Bd kF xx oH fx
 refine rX H5.f2 ?_
 refine tK 14 (.tuple #[.agg (ba r6 b5), .int .i64 cd]) H5.f2 ?_
 refine kA 15 (ba r6 b5) H5.f2 ?_
 refine kN 16 cd H5.f2 ?_
 refine kP 17 p 0 H5.f2 ?_
 refine kP 18 p 8 H5.f2 ?_
 refine kL (DY H5 fun u6 H6 => ?_)
 refine vN 20 cd trivial ?_
 refine wD ?_
 exact dE (gH H6.pw.row dN) (oy.mk' H6 (HLD.trans Dc) uZ HS tv)
theorem Me (H : M5 w0 w L S K f g b p r y n k A B P np cp pk) (hk : k % 16 = 6) : zn w0 w L S p f b n k A B P np cp := by
 obtain ⟨h, hs, hp, hn, A0, hA, hB, hP, fQ, Gp, qz⟩ := H
 unfold zn
 obtain ⟨Z, hZ, HZ, xT, nB, Jk, DA⟩ := M6 k A B P np cp
 have HS := iD hs
 have nj := iD hp
 have tZ : bS g b := bS.xG hs hp.ok
 have HH := iD h
 obtain ⟨⟨b5, cd⟩, hq⟩ := ex (ei b f)
 have HC := iD (fun (wr : World) (hb : bo w0 wr L S K f b) => EM hb)
 rw [hq] at HC
 have HR := iD (fun (wr : World) (L5 : Lc) (S5 : Sc) (K5 : Kc) (hz : Pw w0 wr L5 S5 K5 f b5 p (bE L.d K.D (xa y g) (ba r b)) r y g b) => Ph (x := y) hz.rk)
 rw [hs.ei, hq] at HR
 have tv := iD (LW hp)
 rw [hq] at tv
 clear hq
 obtain ⟨W, hW⟩ := ex (w.alloc (.cells Z 52))
 have H0 := iD (Dz.start h Z hW)
 have d0 := (cell_of_row W w.heap.size 0 Z 52 (0, 0) H0.bx.row).trans xT
 rw [hZ]
 clear hZ h hs hp tZ hP hA hB
 go_enter func14, ntmps14
 go_upto_region 25 with (fail)
 have d1 := (cell_of_row W p 1 _ 50 (0, 0) H0.pw.row).trans dN
 go_wp2_with (fail)
 refine (HC _ H0.pw.bk).mono ?_
 rintro e v5 ⟨rfl, L5, S5, K5, kJ, mu⟩
 have H2 := iD (H0.prog kJ mu)
 have uZ := iD kJ.d
 have Dc := iD kJ.ld
 clear kJ mu
 clear d1
 go_upto_region 26 with (fail)
 refine rK H2 15 fun H3 => ?_
 refine kP 0 p 0 H3.f2 ?_
 refine kP 1 p 0 H3.f2 ?_
 refine kP 2 p 0 H3.f2 ?_
 refine kP 3 p 8 H3.f2 ?_
 refine tM 4 _ rfl (zo (fun _ hS => hS.1)) H3.f2 ?_
 refine kP 5 p 0 H3.f2 ?_
 refine kP 6 p 0 H3.f2 ?_
 refine kP 7 p 2 H3.f2 ?_
 refine tM 8 _ rfl (vd (fun _ hS => hS.1)) H3.f2 ?_
 refine kI 9 (cW (HR _ _ _ _ H3.pw) ?_)
 rintro e v6 ⟨r6, rfl, kF, xx, fx⟩
 have H4 := iD (H3.ref fx kF (H3.pw.ra.below fx) xx)
 clear kF xx fx
 refine rX H4.f2 ?_
 refine tK 10 (.tuple #[.agg (ba r6 b5), .int .i64 cd]) H4.f2 ?_
 refine kA 11 (ba r6 b5) H4.f2 ?_
 refine kN 12 cd H4.f2 ?_
 refine kP 13 p 0 H4.f2 ?_
 refine kP 14 p 8 H4.f2 ?_
 refine kL (DY H4 fun u5 H5 => ?_)
 refine vN 16 cd trivial ?_
 refine wD ?_
 exact dE (gH H5.pw.row dN) (oy.mk' H5 Dc uZ HS tv)
theorem EW (H : M5 w0 w L S K f g b p r y n k A B P np cp pk) (hk : k % 16 = 7) : zn w0 w L S p f b n k A B P np cp := by
 obtain ⟨h, hs, hp, hn, A0, hA, hB, hP, fQ, Gp, qz⟩ := H
 unfold zn
 obtain ⟨Z, hZ, HZ, xT, nB, Jk, DA⟩ := M6 k A B P np cp
 have HS := iD hs
 have nj := iD hp
 have tZ : bS g b := bS.xG hs hp.ok
 have HH := iD h
 obtain ⟨⟨b5, cd⟩, hq⟩ := ex (bJ b f)
 have HC := iD (fun (wr : World) (hb : bo w0 wr L S K f b) => CG hb hp hn)
 rw [hq] at HC
 have HR := iD (fun (wr : World) (L5 : Lc) (S5 : Sc) (K5 : Kc) (hz : Pw w0 wr L5 S5 K5 f b5 p (bE L.d K.D (xa y g) (ba r b)) r y g b) => I0 (n := n) hz.rk hz.ra hz.bk.dY tZ (fun hb => jJ.xG hs hz.ra.ok (hp.up hb).1) oM)
 rw [hs.bJ, hq] at HR
 have tv := iD (EN hp)
 rw [hq] at tv
 clear hq
 obtain ⟨W, hW⟩ := ex (w.alloc (.cells Z 52))
 have H0 := iD (Dz.start h Z hW)
 have d0 := (cell_of_row W w.heap.size 0 Z 52 (0, 0) H0.bx.row).trans xT
 rw [hZ]
 clear hZ h hs hp tZ hP hA hB
 go_enter func14, ntmps14
 go_upto_region 28 with (fail)
 have d1 := (cell_of_row W p 1 _ 50 (0, 0) H0.pw.row).trans dN
 go_wp2_with (fail)
 refine (HC _ H0.pw.bk).mono ?_
 rintro e v5 ⟨rfl, L5, S5, K5, kJ, mu⟩
 have H2 := iD (H0.prog kJ mu)
 have uZ := iD kJ.d
 have Dc := iD kJ.ld
 clear kJ mu
 clear d1
 go_upto_region 29 with (fail)
 refine rK H2 15 fun H3 => ?_
 refine kP 0 p 0 H3.f2 ?_
 refine kP 1 p 0 H3.f2 ?_
 refine kP 2 p 0 H3.f2 ?_
 refine kP 3 p 8 H3.f2 ?_
 refine tM 4 _ rfl (zo (fun _ hS => hS.1)) H3.f2 ?_
 refine kP 5 p 0 H3.f2 ?_
 refine kP 6 p 0 H3.f2 ?_
 refine kP 7 p 2 H3.f2 ?_
 refine tM 8 _ rfl (vd (fun _ hS => hS.1)) H3.f2 ?_
 refine kI 9 (cW (HR _ _ _ _ H3.pw) ?_)
 rintro e v6 ⟨r6, rfl, kF, xx, fx⟩
 have H4 := iD (H3.ref fx kF (H3.pw.ra.below fx) xx)
 clear kF xx fx
 refine rX H4.f2 ?_
 refine tK 10 (.tuple #[.agg (ba r6 b5), .int .i64 cd]) H4.f2 ?_
 refine kA 11 (ba r6 b5) H4.f2 ?_
 refine kN 12 cd H4.f2 ?_
 refine kP 13 p 0 H4.f2 ?_
 refine kP 14 p 8 H4.f2 ?_
 refine kL (DY H4 fun u5 H5 => ?_)
 refine vN 16 cd trivial ?_
 refine wD ?_
 exact dE (gH H5.pw.row dN) (oy.mk' H5 Dc uZ HS tv)
theorem wH (H : M5 w0 w L S K f g b p r y n k A B P np cp pk) (hk : k % 16 = 1 ∨ k % 16 = 2 ∨ k % 16 = 3) : zn w0 w L S p f b n k A B P np cp := by
 obtain ⟨h, hs, hp, hn, A0, hA, hB, hP, fQ, Gp, qz⟩ := H
 unfold zn
 rcases hk with hk | hk | hk
 all_goals
  obtain ⟨Z, hZ, HZ, xT, nB, Jk, DA⟩ := M6 k A B P np cp
  have HS := iD hs
  have nj := iD hp
  have tZ : bS g b := bS.xG hs hp.ok
  have HH := iD h
  have HCH := iD (fun wr : World => O5 r b k A B hB P np cp wr)
  rw [hZ] at HCH
  obtain ⟨⟨b5, cd⟩, hq⟩ := ex (dG b f (kT A B b))
  have HC := iD (fun (wr : World) (hb : bo w0 wr L S K f b) => fun (A9 : Option Addr) (n9 c9 : Nat) (h9 : cn (qv L S K) wr A9 (ag .u8 (kT A B b))) (e9 : (kT A B b).length = n9) (l9 : n9 ≤ c9) (m9 : c9 ≤ maxLen) => IN hb hp.ok A9 n9 c9 _ h9 e9 l9 m9)
  simp only [hq] at HC
  have HR := iD (fun (wr : World) (L5 : Lc) (S5 : Sc) (K5 : Kc) (hz : Pw w0 wr L5 S5 K5 f b5 p (bE L.d K.D (xa y g) (ba r b)) r y g b) => fun (A9 : Option Addr) (n9 c9 : Nat) (h9 : Rd wr wr.heap.size A9 (ag .u8 (kT A B b))) (e9 : (kT A B b).length = n9) => SS (n := n) (x := y) hz.rk hz.ra.ok hz.bk.dY tZ (fun hb => jJ.xG hs hz.ra.ok (hp.up hb).1) A9 n9 c9 _ h9 e9)
  simp only [hs.dG, hq] at HR
  have tv := iD (OV hp (Ao A B b))
  rw [hq] at tv
  clear hq
  obtain ⟨W, hW⟩ := ex (w.alloc (.cells Z 52))
  have H0 := iD (Dz.start h Z hW)
  have d0 := (cell_of_row W w.heap.size 0 Z 52 (0, 0) H0.bx.row).trans xT
  rw [hZ]
  clear hZ h hs hp tZ hP hA hB
  go_enter func14, ntmps14
  go_upto_region 16 with (fail)
  refine rD H0 fun H2 => ?_
  refine tL 0 (.agg Z) rfl (U0 (fun _ hS => hS.2) HZ) H2.f2 ?_
  refine vP 1 p 0 H2.f2 ?_
  refine vP 2 p 0 H2.f2 ?_
  refine vP 3 p 8 H2.f2 ?_
  refine tL 4 _ rfl (zo (fun _ hS => hS.1)) H2.f2 ?_
  refine wI 5 (cW (HCH _) ?_)
  rintro e v4 ⟨A5, n5, c5, rfl, JN, Nn, YQ, Vt, gD⟩
  have HXC := iD (Vt _ H2.pw.bk.dY)
  have HN5 := iD JN
  have UX := iD (And.intro Nn YQ)
  have H3 := iD (H2.ab gD)
  clear Vt JN Nn YQ gD
  refine rW H3.f2 ?_
  refine tV 6 (.slice A5 n5 c5) H3.f2 ?_
  refine wD ?_
  go_upto_region 17 with (fail)
  have d1 := (cell_of_row v4 p 1 _ 50 (0, 0) H3.pw.row).trans dN
  go_wp2_with (fail)
  refine (HC _ H3.pw.bk A5 n5 c5 (HXC.cX H3.pw.bk.sH) HN5 UX.1 UX.2).mono ?_
  rintro e v5 ⟨rfl, L5, S5, K5, kJ, mu⟩
  have H4 := iD (H3.prog kJ mu)
  have uZ := iD kJ.d
  have Dc := iD kJ.ld
  have aa0 := iD (RL HXC (H3.pw.prog kJ mu).2)
  clear kJ mu
  clear d1
  go_upto_region 18 with (fail)
  refine rK H4 16 fun H5 => ?_
  refine kP 0 p 0 H5.f2 ?_
  refine kP 1 p 0 H5.f2 ?_
  refine kP 2 p 0 H5.f2 ?_
  refine kP 3 p 8 H5.f2 ?_
  refine tM 4 _ rfl (zo (fun _ hS => hS.1)) H5.f2 ?_
  refine kP 5 p 0 H5.f2 ?_
  refine kP 6 p 0 H5.f2 ?_
  refine kP 7 p 2 H5.f2 ?_
  refine tM 8 _ rfl (vd (fun _ hS => hS.1)) H5.f2 ?_
  refine tK 9 (.slice A5 n5 c5) H5.f2 ?_
  refine kI 10 (cW (HR _ _ _ _ H5.pw A5 n5 c5 (aa0.below fT).rd HN5) ?_)
  rintro e v6 ⟨r6, rfl, kF, xx, fx⟩
  have H6 := iD (H5.ref fx kF (H5.pw.ra.below fx) xx)
  clear kF xx fx
  refine rX H6.f2 ?_
  refine tK 11 (.tuple #[.agg (ba r6 b5), .int .i64 cd]) H6.f2 ?_
  refine kA 12 (ba r6 b5) H6.f2 ?_
  refine kN 13 cd H6.f2 ?_
  refine kP 14 p 0 H6.f2 ?_
  refine kP 15 p 8 H6.f2 ?_
  refine kL (DY H6 fun u7 H7 => ?_)
  refine vN 17 cd trivial ?_
  refine wD ?_
  exact dE (gH H7.pw.row dN) (oy.mk' H7 Dc uZ HS tv)
theorem wG (H : M5 w0 w L S K f g b p r y n k A B P np cp pk) (hk : k % 16 = 4 ∨ k % 16 = 5) : zn w0 w L S p f b n k A B P np cp := by
 obtain ⟨h, hs, hp, hn, A0, hA, hB, hP, fQ, Gp, qz⟩ := H
 unfold zn
 obtain ⟨t9, ht9⟩ : ∃ z : Int, (k % 16 = 4 ∧ z = 0) ∨ (k % 16 = 5 ∧ z = 1) := hk.elim (fun e => ⟨0, .inl ⟨e, rfl⟩⟩) (fun e => ⟨1, .inr ⟨e, rfl⟩⟩)
 clear hk
 rcases ht9 with ⟨hk, ht9⟩ | ⟨hk, ht9⟩
 all_goals
  obtain ⟨Z, hZ, HZ, xT, nB, Jk, DA⟩ := M6 k A B P np cp
  have HS := iD hs
  have nj := iD hp
  have tZ : bS g b := bS.xG hs hp.ok
  have HH := iD h
  obtain ⟨LN, hLN⟩ := ex (min b.length 2000)
  have Rg : Hid (∀ W : World, Calls prog 11 #[.int .i64 b.version, .int .i64 b.length] W fun e w' => ∃ A1, e = .returned (.slice A1 LN LN) ∧ w'.ownsRow W.heap.size 5 1 (.slice A1 LN LN) LN (ag .u8 (fg b.version LN)) ∧ bW W w') := fun W => wM b.version (b.length : Int) LN (by unfold dT; omega) W
  have hLM : LN ≤ 2000 := oM
  obtain ⟨s0, fp⟩ := ex (eS (fg b.version LN))
  have HSU := iD (fun (wr : World) (A9 : Option Addr) (h9 : Rd wr wr.heap.size A9 (ag .u8 (fg b.version LN))) => nF A9 LN LN (fg b.version LN) wr h9 (dy _ _) (jC _ _) oM)
  rw [fp] at HSU
  obtain ⟨cc, qV⟩ := ex (IntKind.u32.wrap (s0 + t9))
  have hcr : 0 ≤ cc ∧ cc < 4294967296 := by rw [← qV, IntKind.wrap_u32]; omega
  have Yq := iD qV
  clear hLN fp
  obtain ⟨⟨b5, cd⟩, hq⟩ := ex (bU b f cc)
  have HC := iD (fun (wr : World) (hb : bo w0 wr L S K f b) => EK hb hp hn cc hcr)
  rw [hq] at HC
  have HR := iD (fun (wr : World) (L5 : Lc) (S5 : Sc) (K5 : Kc) (hz : Pw w0 wr L5 S5 K5 f b5 p (bE L.d K.D (xa y g) (ba r b)) r y g b) => LP (n := n) hz.rk hz.ra hz.bk.dY tZ (fun hb => jJ.xG hs hz.ra.ok (hp.up hb).1) oM cc hcr)
  rw [hs.bU, hq] at HR
  have tv := iD (IS hp hcr)
  rw [hq] at tv
  clear hq
  obtain ⟨W, hW⟩ := ex (w.alloc (.cells Z 52))
  have H0 := iD (Dz.start h Z hW)
  have d0 := (cell_of_row W w.heap.size 0 Z 52 (0, 0) H0.bx.row).trans xT
  rw [hZ]
  clear hZ h hs hp tZ hP hA hB
  go_enter func14, ntmps14
  have hkt : k.tmod 16 = 4 + t9 := by rw [Int.tmod_eq_emod_of_nonneg oM]; omega
  have Cv := qV
  try rw [Int.add_zero] at Cv
  go_upto_region 21 with (fail)
  refine rD H0 fun H2 => ?_
  refine vP 0 p 0 H2.f2 ?_
  refine vP 1 p 0 H2.f2 ?_
  refine vP 2 p 8 H2.f2 ?_
  refine vP 3 p 29 H2.f2 ?_
  refine tL 4 _ rfl (yC fun _ hS => gH hS.1 ((gR (aQ _ _) 21).trans (show (ba r b)[21]? = some (.int .i64 b.version) from rfl))) H2.f2 ?_
  refine vP 5 p 0 H2.f2 ?_
  refine vP 6 p 0 H2.f2 ?_
  refine vP 7 p 8 H2.f2 ?_
  refine vP 8 p 30 H2.f2 ?_
  refine tL 9 _ rfl (yC fun _ hS => gH hS.1 ((gR (aQ _ _) 22).trans (show (ba r b)[22]? = some (.int .i64 b.length) from rfl))) H2.f2 ?_
  refine vP 12 w.heap.size 0 H2.f2 ?_
  refine tL 13 _ rfl (yC fun _ hS => gH hS.2 xT) H2.f2 ?_
  refine tV 14 (.int .u8 (4 + t9)) H2.f2 ?_
  refine tV 15 (.int .u8 t9) H2.f2 ?_ (M9 (he := by intro _; go_simp; first | rfl | simp [← qV, ht9]))
  refine tV 16 (.int .u32 t9) H2.f2 ?_ (M9 (he := by intro _; go_simp; first | rfl | simp [← qV, ht9]))
  refine wI 10 (cW (Rg _) ?_)
  rintro e v4 ⟨A5, rfl, ke, gD⟩
  have uk := iD (bL ke)
  clear ke
  have H3 := iD (H2.ab gD)
  clear gD
  obtain ⟨A9, c9, e9, hc9, hm9, Lm⟩ := uk
  injection e9 with e91 e92 e93
  subst e91 e93
  have mD := iD Lm
  clear Lm hc9 hm9
  refine rW H3.f2 ?_
  refine wI 11 (cW (HSU _ A5 mD) ?_)
  rintro e v8 ⟨rfl, q7, rfl⟩
  have H4 := iD (H3.ab (Below.drewN bV q7))
  generalize v4.drewN q7 = v7 at H4 ⊢
  refine rW H4.f2 ?_
  refine tV 17 (.int .u32 cc) H4.f2 ?_ (M9 (he := by intro _; go_simp; first | rfl | simp [← qV, ht9]))
  refine tV 18 (.int .u32 cc) H4.f2 ?_
  refine wD ?_
  go_upto_region 22 with (fail)
  have d1 := (cell_of_row v7 p 1 _ 50 (0, 0) H4.pw.row).trans dN
  go_wp2_with (fail)
  refine (HC _ H4.pw.bk).mono ?_
  rintro e v5 ⟨rfl, L5, S5, K5, kJ, mu⟩
  have H5 := iD (H4.prog kJ mu)
  have uZ := iD kJ.d
  have Dc := iD kJ.ld
  clear kJ mu
  clear d1
  go_upto_region 23 with (fail)
  refine rK H5 16 fun H6 => ?_
  refine kP 0 p 0 H6.f2 ?_
  refine kP 1 p 0 H6.f2 ?_
  refine kP 2 p 0 H6.f2 ?_
  refine kP 3 p 8 H6.f2 ?_
  refine tM 4 _ rfl (zo (fun _ hS => hS.1)) H6.f2 ?_
  refine kP 5 p 0 H6.f2 ?_
  refine kP 6 p 0 H6.f2 ?_
  refine kP 7 p 2 H6.f2 ?_
  refine tM 8 _ rfl (vd (fun _ hS => hS.1)) H6.f2 ?_
  refine tK 9 (.int .u32 cc) H6.f2 ?_
  refine kI 10 (cW (HR _ _ _ _ H6.pw) ?_)
  rintro e v6 ⟨r6, rfl, kF, xx, fx⟩
  have H7 := iD (H6.ref fx kF (H6.pw.ra.below fx) xx)
  clear kF xx fx
  refine rX H7.f2 ?_
  refine tK 11 (.tuple #[.agg (ba r6 b5), .int .i64 cd]) H7.f2 ?_
  refine kA 12 (ba r6 b5) H7.f2 ?_
  refine kN 13 cd H7.f2 ?_
  refine kP 14 p 0 H7.f2 ?_
  refine kP 15 p 8 H7.f2 ?_
  refine kL (DY H7 fun u8 H8 => ?_)
  refine vN 17 cd trivial ?_
  refine wD ?_
  exact dE (gH H8.pw.row dN) (oy.mk' H8 Dc uZ HS tv)
end Go.Proofs.YtjdknddnanopaaaGreat
