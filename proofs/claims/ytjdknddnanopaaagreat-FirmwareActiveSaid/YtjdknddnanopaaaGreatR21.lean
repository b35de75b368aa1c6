/-
  Part 21 of the proof.
-/
import Derived.Test.YtjdknddnanopaaaGreatR19
import Derived.Test.YtjdknddnanopaaaGreatR20
namespace Go.Proofs.YtjdknddnanopaaaGreat
open Go.RowKit Tryz
set_option maxRecDepth 100000
set_option maxHeartbeats 16000000
set_option linter.all false
variable {w w' : World} {L L' : Lc} {S S' : Sc} {N o p : Nat} {A C R : Array Value} {t : TypeId} {n : Int}
section
variable {w0 w w' : World} {L L' : Lc} {S S' : Sc} {K K' : Kc} {f f' : Fl} {b b' : Bk}
theorem bo.BA (h : bo w0 w L S K f b) {Y : Nat → Prop} (hY : ∀ g, Y g → L.E g ∧ ¬ pt L S K g) (ho : ah Y w w') (hb : bW w0 w') (E : Nat → Prop) (hE : ∀ b, E b → b < w'.heap.size) (hN : ∀ b, b < w.heap.size → E b → L.E b) (hL : ∀ b, L.E b → E b) : bo w0 w' { L with E := E } S K f b := by
 have hX : ∀ g, g < w.heap.size → ea { L with E := E } S g → ea L S g := fun g aY hy => by
  rcases hy with h5 | he
  ·exact .inl h5
  exact .inr (hN g aY he)
 have hD : ¬ Y K.D := fun hy => (hY _ hy).2 (.inr (.inl rfl))
 exact ⟨h.st.BA (fun g hg => ⟨(hY g hg).1, fun h5 => (hY g hg).2 (.inl h5)⟩) ho hb E hE hN hL, h.dd, h.nd, hL _ h.ed, fun j u hu => (cell_of_block (ho.block _ h.lt hD)).trans (h.row j u hu), fun j => (cm (ho.block _ h.lt hD)).trans (h.fz j), h.er.block (fun g hg => ho.block g (h.er.lt hg).2 (fun hy => (hY _ hy).2 (.inr (.inr hg)))), fun g hg => ⟨(h.en g hg).1, (h.en g hg).2.1, hL _ (h.en g hg).2.2⟩, (h.dt.dS hX).KS ho (fun g hg => .inr (hL _ (hY g hg).1))⟩
theorem bo.eb (h : bo w0 w L S K f b) {k : Nat} (hk : L.E k) : k < w.heap.size := h.st.fl.eb k hk
theorem bo.cY (h : bo w0 w L S K f b) : ∀ k, ea L S k → k < w.heap.size := h.st.cY
theorem bo.qa (h : bo w0 w L S K f b) : ∀ k, pt L S K k → ea L S k := fun k hk => by
 rcases hk with hk | rfl | hk
 ·exact .inl hk
 ·exact .inr h.ed
 exact .inr (h.en k hk).2.2
theorem bo.n0 (h : bo w0 w L S K f b) : w0.heap.size ≤ w.heap.size := h.st.fl.below.size
end
def bF (d D : Nat) (F C : Array Value) : Array Value := #[.pointer (some ⟨d, 0, none⟩), .pointer (some ⟨D, 0, none⟩)] ++ F ++ C
structure Pw (w0 w : World) (L : Lc) (S : Sc) (K : Kc) (f : Fl) (bP : Bk) (p : Nat) (V : Array Value) (r : Rb) (y : Rc) (g : Fl) (bR : Bk) : Prop where
 bk : bo w0 w L S K f bP
 rk : gW (ea L S) w0.heap.size w r bR g.pg
 ra : ca (ea L S) w y g
 row : w.heap[p]? = some (.cells V 50 (0, 0))
 pE : L.E p
 pN : ¬ pt L S K p
 p0 : w0.heap.size ≤ p
 eE : ∀ k, (Value.slice r.E r.ne r.ce).ownBlock = some k → L.E k ∧ ¬ pt L S K k ∧ k ≠ p ∧ w0.heap.size ≤ k
structure Ot (w w' : World) (L : Lc) (S : Sc) (L' : Lc) (S' : Sc) : Prop where
 only : ah (ea L S) w w'
 own : ∀ b, b < w.heap.size → ea L' S' b → ea L S b
 d : L'.d = L.d
theorem Ot.trans {w1 w2 : World} {L1 L2 : Lc} {S1 S2 : Sc} (h : Ot w w1 L S L1 S1) (k : Ot w1 w2 L1 S1 L2 S2) : Ot w w2 L S L2 S2 :=
 ⟨h.only.Kj k.only (fun n hn hy => h.own n hn hy), fun b hb hy => h.own b hb (k.own b (Nat.lt_of_lt_of_le hb h.only.size) hy), k.d.trans h.d⟩
theorem Ot.ak (h : bW w w') : Ot w w' L S L S := ⟨.ak h, fun _ _ h => h, rfl⟩
structure Bx (w : World) (L : Lc) (S : Sc) (N : Nat) (A : Array Value) (t : TypeId) : Prop where
 row : w.heap[N]? = some (.cells A t (0, 0))
 no : ¬ ea L S N
theorem Bx.lt (h : Bx w L S N A t) : N < w.heap.size := (Array.getElem?_eq_some_iff.1 h.row).1
theorem Bx.ot (h : Bx w L S N A t) (k : Ot w w' L S L' S') : Bx w' L' S' N A t :=
 ⟨(k.only.block _ h.lt h.no).trans h.row, fun hy => h.no (k.own _ h.lt hy)⟩
theorem KB {A : Option Addr} {xs : List Value} (h : cn (ea L S) w A xs) (k : Ot w w' L S L' S') : cn (ea L' S') w' A xs := fun hx => by
 obtain ⟨b, off, e, aY, hn, hc⟩ := h hx
 exact ⟨b, off, e, Nat.lt_of_lt_of_le aY k.only.size, fun hy => hn (k.own _ aY hy), fun j u hu => (cell_of_block (k.only.block b aY hn)).trans (hc j u hu)⟩
section
variable {w0 w w' : World} {L L' : Lc} {S S' : Sc} {K K' : Kc} {f f' : Fl} {bP Xl bR bR' : Bk} {p : Nat} {V V' : Array Value} {r r' : Rb} {y y' : Rc} {g g' : Fl}
theorem Pw.ab (h : Pw w0 w L S K f bP p V r y g bR) (hb : bW w w') : Pw w0 w' L S K f bP p V r y g bR :=
 ⟨h.bk.ab hb, h.rk.below hb, h.ra.below hb, (hb.block _ (h.bk.eb h.pE)).trans h.row, h.pE, h.pN, h.p0, h.eE⟩
theorem Pw.prog (h : Pw w0 w L S K f bP p V r y g bR) (ha : bZ w w' L S K L' S' K') (hk : bo w0 w' L' S' K' f' Xl) : Pw w0 w' L' S' K' f' Xl p V r y g bR ∧ Ot w w' L S L' S' := by
 have bY : ∀ b, b < w.heap.size → ea L' S' b → ea L S b := fun b hb hy => by
  rcases hy with h5 | he
  ·exact h.bk.qa b (ha.own b hb (.inl h5))
  exact .inr (ha.ein b hb he)
 have hX : ∀ b, b < w.heap.size → (ea L S b ∨ ea L' S' b) → ea L S b := fun b hb hy => hy.elim id (bY b hb)
 have hY : ∀ b, pt L S K b → (ea L S b ∨ ea L' S' b) := fun b hb => .inl (h.bk.qa b hb)
 have pl := h.bk.eb h.pE
 have nN : ∀ k, k < w.heap.size → ¬ pt L S K k → ¬ pt L' S' K' k := fun k hk hn hy => hn (ha.own k hk hy)
 refine ⟨⟨hk, ((h.rk.dS hX).ao ha.only hY (fun k hk => (h.eE k hk).2.1)).dS (fun _ _ hy => .inr hy), ((h.ra.nl hX).ao (ha.only.more hY)).cU (fun _ hy => .inr hy), (ha.only.block _ pl h.pN).trans h.row, ha.Zb _ h.pE, nN _ pl h.pN, h.p0, fun k hk => ?_⟩, ha.only.more h.bk.qa, bY, ha.ld⟩
 obtain ⟨h1, h2, h3, h4⟩ := h.eE k hk
 exact ⟨ha.Zb _ h1, nN _ (h.bk.eb h1) h2, h3, h4⟩
theorem Pw.ref (h : Pw w0 w L S K f bP p V r y g bR) (hb : bW w w') (hr : gW (ea L S) w0.heap.size w' r' bR' g'.pg) (hy : ca (ea L S) w' y' g') (he : ∀ k, (Value.slice r'.E r'.ne r'.ce).ownBlock = some k → (Value.slice r.E r.ne r.ce).ownBlock = some k) : Pw w0 w' L S K f bP p V r' y' g' bR' :=
 ⟨h.bk.ab hb, hr, hy, (hb.block _ (h.bk.eb h.pE)).trans h.row, h.pE, h.pN, h.p0, fun k hk => h.eE k (he k hk)⟩
theorem Pw.store (h : Pw w0 w L S K f bP p V r y g bR) (ho : ah (fun k => k = p) w w') (hb : bW w0 w') (hr : w'.heap[p]? = some (.cells V' 50 (0, 0))) : Pw w0 w' L S K f bP p V' r y g bR ∧ Ot w w' L S L S := by
 have hY : ∀ k, k = p → ea L S k := fun k hk => .inr (hk ▸ h.pE)
 have hk := h.bk.BA (Y := fun k => k = p) (fun k hk => ⟨hk ▸ h.pE, hk ▸ h.pN⟩) ho hb L.E (fun k hk => Nat.lt_of_lt_of_le (h.bk.eb hk) ho.size) (fun _ _ hk => hk) (fun _ hk => hk)
 exact ⟨⟨hk, h.rk.ao ho hY (fun k hk => (h.eE k hk).2.2.1), h.ra.ao (ho.more hY), hr, h.pE, h.pN, h.p0, h.eE⟩, ho.more hY, fun _ _ hk => hk, rfl⟩
theorem Pw.begin (h : Pw w0 w L S K f bP p V r y g bR) (ho : ah (fun k => (Value.slice r.E r.ne r.ce).ownBlock = some k) w w') (hb : Below w0.heap.size w w')
 (hr : gW (fun k => ea L S k ∨ w.heap.size ≤ k) w0.heap.size w' r' bR' g.pg) (he : ∀ k, (Value.slice r'.E r'.ne r'.ce).ownBlock = some k → (Value.slice r.E r.ne r.ce).ownBlock = some k ∨ (w.heap.size ≤ k ∧ k < w'.heap.size)) :
 ∃ L', Pw w0 w' L' S K f bP p V r' y g bR' ∧ Ot w w' L S L' S := by
 have h0 := h.bk.n0
 have aY : ∀ k, (Value.slice r'.E r'.ne r'.ce).ownBlock = some k → k < w'.heap.size := fun k hk => (he k hk).elim (fun e => Nat.lt_of_lt_of_le (h.bk.eb (h.eE k e).1) ho.size) (fun e => e.2)
 have hE : ∀ k, (Value.slice r.E r.ne r.ce).ownBlock = some k → ea L S k := fun k hk => .inr (h.eE k hk).1
 have hk := h.bk.BA (Y := fun k => (Value.slice r.E r.ne r.ce).ownBlock = some k) (fun k hk => ⟨(h.eE k hk).1, (h.eE k hk).2.1⟩) ho (h.bk.st.fl.below.trans hb) (fun k => L.E k ∨ (Value.slice r'.E r'.ne r'.ce).ownBlock = some k) (fun k hk => hk.elim (fun hk => Nat.lt_of_lt_of_le (h.bk.eb hk) ho.size) (aY k)) (fun k hk hy => hy.elim id (fun hy => (he k hy).elim (fun e => (h.eE k e).1) (fun e => oM))) (fun _ hk => .inl hk)
 have bY : ∀ k, k < w.heap.size → ea { L with E := fun k => L.E k ∨ (Value.slice r'.E r'.ne r'.ce).ownBlock = some k } S k → ea L S k := fun k hk hy => by
  rcases hy with h5 | hy | hy
  ·exact .inl h5
  ·exact .inr hy
  exact (he k hy).elim (hE k) (fun e => oM)
 have hX : ∀ k, ea { L with E := fun k => L.E k ∨ (Value.slice r'.E r'.ne r'.ce).ownBlock = some k } S k → ea L S k ∨ w.heap.size ≤ k := fun k hy => by
  by_cases hk : k < w.heap.size
  ·exact .inl (bY k hk hy)
  exact .inr oM
 have hX2 : ∀ k, k < w.heap.size → (ea L S k ∨ w.heap.size ≤ k) → ea L S k := fun k hk hy => hy.elim id (fun e => oM)
 refine ⟨{ L with E := fun k => L.E k ∨ (Value.slice r'.E r'.ne r'.ce).ownBlock = some k }, ⟨hk, hr.dS (fun k _ hy => hX k hy), ((h.ra.nl hX2).ao (ho.more (fun k hk => .inl (hE k hk)))).cU hX, (ho.block _ (h.bk.eb h.pE) (fun e => (h.eE _ e).2.2.1 rfl)).trans h.row, .inl h.pE, h.pN, h.p0, fun k hk => ?_⟩, ho.more hE, bY, rfl⟩
 rcases he k hk with e | e
 ·exact ⟨.inr hk, (h.eE k e).2⟩
 refine ⟨.inr hk, fun hy => ?_, fun e2 => ?_, oM⟩
 ·have := h.bk.cY k (h.bk.qa k hy)
  omega
 have := h.bk.eb h.pE
 omega
end
structure Dz (w0 w wr : World) (L0 : Lc) (S0 : Sc) (L : Lc) (S : Sc) (K : Kc) (f : Fl) (bP : Bk) (p : Nat) (V : Array Value) (r : Rb) (y : Rc) (g : Fl) (bR : Bk) (N : Nat) (A : Array Value) : Prop where
 pw : Pw w0 wr L S K f bP p V r y g bR
 bx : Bx wr L S N A 52
 ot : Ot w wr L0 S0 L S
 wl : w.heap.size ≤ N
section
variable {w0 w wr w' : World} {L0 L L' : Lc} {S0 S S' : Sc} {K K' : Kc} {f f' : Fl} {bP Xl bR bR' : Bk} {p : Nat} {V V' : Array Value} {r r' : Rb} {y y' : Rc} {g g' : Fl} {N : Nat} {A : Array Value}
theorem Dz.start (h : Pw w0 w L S K f bP p V r y g bR) (A : Array Value) (hW : w.alloc (.cells A 52) = w') : Dz w0 w w' L S L S K f bP p V r y g bR w.heap.size A := by
 subst hW
 have hb : bW w (w.alloc (.cells A 52)) := bV.alloc cV _
 exact ⟨h.ab hb, ⟨heap_alloc_new w _, fun hy => Nat.lt_irrefl _ (h.bk.cY _ hy)⟩, .ak hb, Nat.le_refl _⟩
theorem Dz.ab (h : Dz w0 w wr L0 S0 L S K f bP p V r y g bR N A) (hb : bW wr w') : Dz w0 w w' L0 S0 L S K f bP p V r y g bR N A :=
 ⟨h.pw.ab hb, h.bx.ot (.ak hb), h.ot.trans (.ak hb), h.wl⟩
theorem Dz.prog (h : Dz w0 w wr L0 S0 L S K f bP p V r y g bR N A) (ha : bZ wr w' L S K L' S' K') (hk : bo w0 w' L' S' K' f' Xl) : Dz w0 w w' L0 S0 L' S' K' f' Xl p V r y g bR N A := by
 obtain ⟨h1, h2⟩ := h.pw.prog ha hk
 exact ⟨h1, h.bx.ot h2, h.ot.trans h2, h.wl⟩
theorem Dz.ref (h : Dz w0 w wr L0 S0 L S K f bP p V r y g bR N A) (hb : bW wr w') (hr : gW (ea L S) w0.heap.size w' r' bR' g'.pg) (hy : ca (ea L S) w' y' g') (he : ∀ k, (Value.slice r'.E r'.ne r'.ce).ownBlock = some k → (Value.slice r.E r.ne r.ce).ownBlock = some k) : Dz w0 w w' L0 S0 L S K f bP p V r' y' g' bR' N A :=
 ⟨h.pw.ref hb hr hy he, h.bx.ot (.ak hb), h.ot.trans (.ak hb), h.wl⟩
theorem Dz.setRow (h : Dz w0 w wr L0 S0 L S K f bP p V r y g bR N A) (V' : Array Value) : Dz w0 w (wr.setRow p V') L0 S0 L S K f bP p V' r y g bR N A := by
 obtain ⟨h1, h2⟩ := h.pw.store (ah.row wr p V' rfl) (below_setRow h.pw.bk.st.fl.below h.pw.p0 _) (setRow_heap _ _ V _ 50 _ h.pw.row)
 exact ⟨h1, h.bx.ot h2, h.ot.trans h2, h.wl⟩
theorem Dz.begin (h : Dz w0 w wr L0 S0 L S K f bP p V r y g bR N A) (ho : ah (fun k => (Value.slice r.E r.ne r.ce).ownBlock = some k) wr w') (hb : Below w0.heap.size wr w')
 (hr : gW (fun k => ea L S k ∨ wr.heap.size ≤ k) w0.heap.size w' r' bR' g.pg) (he : ∀ k, (Value.slice r'.E r'.ne r'.ce).ownBlock = some k → (Value.slice r.E r.ne r.ce).ownBlock = some k ∨ (wr.heap.size ≤ k ∧ k < w'.heap.size)) :
 ∃ L', Dz w0 w w' L0 S0 L' S K f bP p V r' y g bR' N A ∧ L'.d = L.d := by
 obtain ⟨L', h1, h2⟩ := h.pw.begin ho hb hr he
 exact ⟨L', ⟨h1, h.bx.ot h2, h.ot.trans h2, h.wl⟩, h2.d⟩
end
section
variable {d D : Nat} {F C : Array Value}
theorem gv (hF : F.size = 6) (hC : C.size = 26) : (bF d D F C).size = 34 := by simp [bF, hF, hC]
theorem fe (d D : Nat) (F C : Array Value) : (bF d D F C).toList = .pointer (some ⟨d, 0, none⟩) :: .pointer (some ⟨D, 0, none⟩) :: (F.toList ++ C.toList) := by simp [bF]
theorem uQ : (bF d D F C)[0]? = some (.pointer (some ⟨d, 0, none⟩)) := by rw [← Array.getElem?_toList, fe]; rfl
theorem ec : (bF d D F C)[1]? = some (.pointer (some ⟨D, 0, none⟩)) := by rw [← Array.getElem?_toList, fe]; rfl
theorem N6 (hF : F.size = 6) (j : Nat) (hj : j < 6) : (bF d D F C)[2 + j]? = F[j]? := by
 rw [← Array.getElem?_toList, fe, Nat.add_comm 2 j, List.getElem?_cons_succ, List.getElem?_cons_succ, List.getElem?_append_left (by rw [Array.length_toList]; omega), Array.getElem?_toList]
theorem gR (hF : F.size = 6) (j : Nat) : (bF d D F C)[8 + j]? = C[j]? := by
 rw [← Array.getElem?_toList, fe, show 8 + j = (6 + j) + 1 + 1 by omega, List.getElem?_cons_succ, List.getElem?_cons_succ, List.getElem?_append_right (by rw [Array.length_toList]; omega), Array.length_toList, hF, show 6 + j - 6 = j by omega, Array.getElem?_toList]
theorem BX (hF : F.size = 6) (F' : Array Value) (IH : F'.size = 6) : F4 (bF d D F C) 2 F'.toList = bF d D F' C := by
 apply Array.ext'
 unfold F4
 rw [fe, fe, Array.length_toList, IH]
 have h1 : F.toList.length = 6 := by rw [Array.length_toList]; exact hF
 show (Value.pointer (some ⟨d, 0, none⟩) :: Value.pointer (some ⟨D, 0, none⟩) :: (F.toList ++ C.toList)).take 2 ++ F'.toList ++ List.drop 6 (F.toList ++ C.toList) = _
 rw [List.drop_append_of_le_length oM, List.drop_of_length_le oM]
 simp
theorem KG (hF : F.size = 6) (hC : C.size = 26) (C' : Array Value) (QZ : C'.size = 26) : F4 (bF d D F C) 8 C'.toList = bF d D F C' := by
 apply Array.ext'
 unfold F4
 rw [fe, fe, Array.length_toList, QZ]
 have h1 : F.toList.length = 6 := by rw [Array.length_toList]; exact hF
 have h2 : C.toList.length = 26 := by rw [Array.length_toList]; exact hC
 show Value.pointer (some ⟨d, 0, none⟩) :: Value.pointer (some ⟨D, 0, none⟩) :: ((F.toList ++ C.toList).take 6 ++ C'.toList ++ List.drop 32 (F.toList ++ C.toList)) = _
 rw [List.take_append_of_le_length oM, List.take_of_length_le oM, List.drop_of_length_le (by rw [List.length_append]; omega), List.append_nil]
theorem KH (D' : Nat) : (bF d D F C).setIfInBounds 1 (.pointer (some ⟨D', 0, none⟩)) = bF d D' F C := by
 apply Array.ext'
 rw [Array.toList_setIfInBounds, fe, fe]
 rfl
theorem wB {n : Nat} (hC : C.size = n) (hR : o + n ≤ R.size) (h : ∀ j, j < n → R[o + j]? = C[j]?) : (R.extract o (o + n)) = C := by
 apply Array.ext_getElem?
 intro i
 rw [Array.getElem?_extract]
 by_cases hi : i < n
 ·rw [iP oM]
  exact h i hi
 rw [iN oM, Array.getElem?_eq_none oM]
theorem N5 (hw : w.heap[p]? = some (.cells (bF d D F C) 50 (0, 0))) (hF : F.size = 6) (hC : C.size = 26) : w.rangeAt p 8 C.toList := by
 have hr := World.rangeAt_of_block hw 8 26
 rw [wB hC (by rw [gv hF hC]; decide) (fun j _ => gR hF j)] at hr
 exact hr
theorem Gg (hw : w.heap[p]? = some (.cells (bF d D F C) 50 (0, 0))) (hF : F.size = 6) (hC : C.size = 26) : w.rangeAt p 2 F.toList := by
 have hr := World.rangeAt_of_block hw 2 6
 rw [wB hF (by rw [gv hF hC]; decide) (fun j hj => N6 hF j hj)] at hr
 exact hr
variable {ops : Array Oper} {op : Oper} {a : Go.Act} {S : World → Prop}
theorem ZL (hw : Region.wanted op (yielded ops a.tmps) = true) (x : Operand) (ho : op.op = .load 45 x) (p : Nat) (hx : a.eval x = .pointer (some ⟨p, 8, none⟩)) (hS : ∀ w, S w → w.heap[p]? = some (.cells (bF d D F C) 50 (0, 0))) (hF : F.size = 6) (hC : C.size = 26) : YieldsIf prog ops S op (.agg C) a := by
 have := yieldsIf_load_mid hw 45 x ho p 8 hx C.toList _ (fun w h => N5 (hS w h) hF hC) underlying45 rfl (by rw [Array.length_toList]; exact gJ hC)
 rw [Array.toArray_toList] at this
 exact this
theorem ZM (hw : Region.wanted op (yielded ops a.tmps) = true) (x : Operand) (ho : op.op = .load 35 x) (p : Nat) (hx : a.eval x = .pointer (some ⟨p, 2, none⟩)) (hS : ∀ w, S w → w.heap[p]? = some (.cells (bF d D F C) 50 (0, 0))) (hF : F.size = 6) (hC : C.size = 26) : YieldsIf prog ops S op (.agg F) a := by
 have := yieldsIf_load_mid hw 35 x ho p 2 hx F.toList _ (fun w h => Gg (hS w h) hF hC) underlying35 rfl (by rw [Array.length_toList]; exact pF hF)
 rw [Array.toArray_toList] at this
 exact this
variable {Q : Exit → Go.Act → World → Prop} {i : Nat} {oi : Oper} {w : World} {K : Go.Act → World → Prop}
theorem sr {n : Nat} (hw : w.heap[p]? = some (.cells R t (0, 0))) (hs : o + n ≤ R.size) : w.there p o n := fun j hj => by
 rw [cell_of_row w p (o + j) R t (0, 0) hw, Array.getElem?_eq_getElem oM]
 exact ⟨rfl, frozen_of_row w p (o + j) R t hw⟩
theorem uV (hi : ops[i]? = some oi) (wi : Region.wanted oi (yielded ops a.tmps) = true) (di : oi.dst = none) (x y : Operand) (ho : oi.op = .store 45 x y) (p : Nat) (C' : Array Value) (hx : a.eval x = .pointer (some ⟨p, 8, none⟩)) (hy : a.eval y = .agg C') (hw : w.heap[p]? = some (.cells (bF d D F C) 50 (0, 0))) (hF : F.size = 6) (hC : C.size = 26) (QZ : C'.size = 26) (h1 : C'.all (·.oneCell') = true)
 (h : K a (w.setRow p (bF d D F C'))) : wpOp prog ops Q i K a w :=
 wpOp_step hi (fun K' hK => by
  rw [iP wi]
  refine wp_store_mid 45 x y ho p 8 C' hx hy (sr hw (by rw [gv hF hC, QZ]; decide)) (gJ QZ) h1 ?_
  rw [di, iR C'.toList hw 8 (by rw [gv hF hC, Array.length_toList, QZ]; decide), KG hF hC C' QZ]
  exact hK _ _ h)
theorem Pb (hi : ops[i]? = some oi) (wi : Region.wanted oi (yielded ops a.tmps) = true) (di : oi.dst = none) (x y : Operand) (ho : oi.op = .store 35 x y) (p : Nat) (F' : Array Value) (hx : a.eval x = .pointer (some ⟨p, 2, none⟩)) (hy : a.eval y = .agg F') (hw : w.heap[p]? = some (.cells (bF d D F C) 50 (0, 0))) (hF : F.size = 6) (hC : C.size = 26) (IH : F'.size = 6) (h1 : F'.all (·.oneCell') = true)
 (h : K a (w.setRow p (bF d D F' C))) : wpOp prog ops Q i K a w :=
 wpOp_step hi (fun K' hK => by
  rw [iP wi]
  refine wp_store_mid 35 x y ho p 2 F' hx hy (sr hw (by rw [gv hF hC, IH]; decide)) (pF IH) h1 ?_
  rw [di, iR F'.toList hw 2 (by rw [gv hF hC, Array.length_toList, IH]; decide), BX hF F' IH]
  exact hK _ _ h)
end
section
variable {w0 w w' : World} {L : Lc} {S : Sc} {K : Kc} {f : Fl} {bP bR : Bk} {p : Nat} {V : Array Value} {r : Rb} {y : Rc} {g : Fl}
theorem Pw.setRow (h : Pw w0 w L S K f bP p V r y g bR) (V' : Array Value) : Pw w0 (w.setRow p V') L S K f bP p V' r y g bR ∧ Ot w (w.setRow p V') L S L S :=
 h.store (ah.row w p V' rfl) (below_setRow h.bk.st.fl.below h.p0 _) (setRow_heap _ _ V _ 50 _ h.row)
end
structure JG (f : Fl) (b : Bk) (f' : Fl) (b' : Bk) (n : Int) : Prop where
 pl : jH f' b' (n + 1)
 LU : G8 f f' b
 fi : b'.first = b.first
 bl : b'.aa = b.aa
section
variable {f : Fl} {b : Bk} {n : Int}
theorem LX (h : jH f b n) (v l : Int) : JG f b f (cz b f v l).1 n :=
 ⟨(Pp h v l).more oM, G8.refl f b, by unfold cz; (repeat' split) <;> rfl, by unfold cz; (repeat' split) <;> rfl⟩
theorem O6 (h : jH f b n) {x : List Int} (hx : Bytes x) : JG f b f (dH b f x).1 n :=
 ⟨(Tm h hx).more oM, G8.refl f b, by unfold dH; (repeat' split) <;> rfl, by unfold dH; (repeat' split) <;> rfl⟩
theorem IY (h : jH f b n) {c : Int} (hc : 0 ≤ c ∧ c < 4294967296) : JG f b f (bX b f c).1 n :=
 ⟨(LR h hc).more oM, G8.refl f b, by unfold bX; (repeat' split) <;> rfl, by unfold bX; (repeat' split) <;> rfl⟩
theorem LY (h : jH f b n) : JG f b f (ej b f).1 n :=
 ⟨(Pv h).more oM, G8.refl f b, by unfold ej; (repeat' split) <;> rfl, by unfold ej; (repeat' split) <;> rfl⟩
theorem EV (h : jH f b n) : JG f b f (bJ b f).1 n :=
 ⟨(I7 h).more oM, G8.refl f b, by unfold bJ; (repeat' split) <;> rfl, by unfold bJ; (repeat' split) <;> rfl⟩
theorem LW (h : jH f b n) (s : Int) : JG f b f (dr b f s).1 n :=
 ⟨(Ok h s).more oM, G8.refl f b, by rw [qj]; rfl, by rw [qj]; rfl⟩
theorem O7 (h : jH f b n) : JG f b (cy b f).2.1 (cy b f).1 n :=
 ⟨Tt h, Tu h, by unfold cy; simp only; (repeat' split) <;> rfl, by unfold cy; simp only; (repeat' split) <;> rfl⟩
theorem O2 (h : jH f b n) : JG f b (aK b f).2.1 (aK b f).1 n :=
 ⟨RQ h, RR h, by unfold aK; (repeat' split) <;> rfl, by unfold aK; (repeat' split) <;> rfl⟩
theorem O5 (h : jH f b n) {m : Int} {p : List Int} (hp : Bytes p) (hm : m < 9223372036854775808) : JG f b (fM f m p) b n :=
 ⟨(Tj h hp hm).more oM, ⟨CG f m p, fun _ _ _ => rfl⟩, rfl, rfl⟩
theorem vm (f : Fl) (b : Bk) : G8 f (aQ f) b := by
 unfold aQ
 split
 ·exact ⟨⟨rfl, rfl⟩, fun _ _ _ => rfl⟩
 exact G8.refl f b
theorem LV (h : jH f b n) : JG f b (aQ f) b n := ⟨(zr h).1, vm f b, rfl, rfl⟩
theorem O3 (h : jH f b n) : JG f b (aQ f) (dh (aQ f) (b.first : Int) (b.aa : Int)) n :=
 ⟨(zr h).2.2, vm f b, rfl, rfl⟩
end
section
variable {w0 w wr : World} {L0 L : Lc} {S0 S : Sc} {K : Kc} {f g : Fl} {bP bR : Bk} {p N : Nat} {V A : Array Value} {r : Rb} {y : Rc} {ops : Array Oper} {Q : Exit → Go.Act → World → Prop} {a : Go.Act}
theorem Dz.f2 (h : Dz w0 w wr L0 S0 L S K f bP p V r y g bR N A) : wr.heap[p]? = some (.cells V 50 (0, 0)) ∧ wr.heap[N]? = some (.cells A 52 (0, 0)) := ⟨h.pw.row, h.bx.row⟩
theorem rD {id : Nat} (h : Hid (Dz w0 w wr L0 S0 L S K f bP p V r y g bR N A)) (k : Hid (Dz w0 w wr.drew L0 S0 L S K f bP p V r y g bR N A) → wpAnyH prog .any ops Q (fun w' => w'.heap[p]? = some (.cells V 50 (0, 0)) ∧ w'.heap[N]? = some (.cells A 52 (0, 0))) ops.size (Array.replicate ops.size false) a wr.drew) : (Code.region id ops true).wp prog Q a wr :=
 wp_region_held_drew (by kernel_rfl) (h.out.ab fY).f2 (fun _ => k (h.out.ab fY))
theorem rK {id : Nat} (h : Hid (Dz w0 w wr L0 S0 L S K f bP p V r y g bR N A)) (n : Nat) (k : Hid (Dz w0 w wr.drew L0 S0 L S K f bP p V r y g bR N A) → fC prog .any ops Q (fun w' => w'.heap[p]? = some (.cells V 50 (0, 0)) ∧ w'.heap[N]? = some (.cells A 52 (0, 0))) n ops.size (Array.replicate ops.size false) a wr.drew) : (Code.region id ops true).wp prog Q a wr :=
 mi (by kernel_rfl) _ n (k (h.out.ab fY))
end
section
variable {ops : Array Oper} {op : Oper} {a : Go.Act} {S : World → Prop} {d D p : Nat} {F C : Array Value} {x : Operand}
theorem zn (hS : ∀ w, S w → w.heap[p]? = some (.cells (bF d D F C) 50 (0, 0))) (hF : F.size = 6 := by exact aT _ _) (hC : C.size = 26 := by exact bD _ _) (hw : Region.wanted op (yielded ops a.tmps) = true := by exact rfl) (ho : op.op = .load 45 x := by exact rfl) (hx : a.eval x = .pointer (some ⟨p, 8, none⟩) := by exact rfl) : YieldsIf prog ops S op (.agg C) a := ZL hw x ho p hx hS hF hC
theorem vc (hS : ∀ w, S w → w.heap[p]? = some (.cells (bF d D F C) 50 (0, 0))) (hF : F.size = 6 := by exact aT _ _) (hC : C.size = 26 := by exact bD _ _) (hw : Region.wanted op (yielded ops a.tmps) = true := by exact rfl) (ho : op.op = .load 35 x := by exact rfl) (hx : a.eval x = .pointer (some ⟨p, 2, none⟩) := by exact rfl) : YieldsIf prog ops S op (.agg F) a := ZM hw x ho p hx hS hF hC
theorem ZJ (h : C.size = 4) : (prog.info? 52).map (·.size) = some C.size := by
 rw [h]
 kernel_rfl
theorem Vc {g : Nat} (hS : ∀ w, S w → w.heap[g]? = some (.cells C 52 (0, 0))) (hs : C.size = 4) (hw : Region.wanted op (yielded ops a.tmps) = true := by exact rfl) (ho : op.op = .load 52 x := by exact rfl) (hx : a.eval x = .pointer (some ⟨g, 0, none⟩) := by exact rfl) : YieldsIf prog ops S op (.agg C) a :=
 bE hw 52 x ho g hx 52 C (0, 0) _ hS underlying52 rfl (ZJ hs)
variable {w0 w wr : World} {L0 L : Lc} {S0 S9 : Sc} {K : Kc} {f g : Fl} {bP bR : Bk} {N : Nat} {A : Array Value} {r : Rb} {y : Rc} {Q : Exit → Go.Act → World → Prop} {i : Nat} {oi : Oper} {KK : Go.Act → World → Prop} {z : Operand}
theorem Ea {C' : Array Value} (h : Hid (Dz w0 w wr L0 S0 L S9 K f bP p (bF d D F C) r y g bR N A)) (k : ∀ w', Hid (Dz w0 w w' L0 S0 L S9 K f bP p (bF d D F C') r y g bR N A) → KK a w') 
 (hi : ops[i]? = some oi := by exact rfl) (wi : Region.wanted oi (yielded ops a.tmps) = true := by exact rfl) (di : oi.dst = none := by exact rfl) (ho : oi.op = .store 45 x z := by exact rfl) (hx : a.eval x = .pointer (some ⟨p, 8, none⟩) := by exact rfl) (hy : a.eval z = .agg C' := by exact rfl)
 (hF : F.size = 6 := by exact aT _ _) (hC : C.size = 26 := by exact bD _ _) (QZ : C'.size = 26 := by exact bD _ _) (h1 : C'.all (·.oneCell') = true := by exact eY _ _) : wpOp prog ops Q i KK a wr :=
 uV hi wi di x z ho p C' hx hy h.out.pw.row hF hC QZ h1 (k _ (h.out.setRow _))
theorem RU {F' : Array Value} (h : Hid (Dz w0 w wr L0 S0 L S9 K f bP p (bF d D F C) r y g bR N A)) (k : ∀ w', Hid (Dz w0 w w' L0 S0 L S9 K f bP p (bF d D F' C) r y g bR N A) → KK a w') 
 (hi : ops[i]? = some oi := by exact rfl) (wi : Region.wanted oi (yielded ops a.tmps) = true := by exact rfl) (di : oi.dst = none := by exact rfl) (ho : oi.op = .store 35 x z := by exact rfl) (hx : a.eval x = .pointer (some ⟨p, 2, none⟩) := by exact rfl) (hy : a.eval z = .agg F' := by exact rfl)
 (hF : F.size = 6 := by exact aT _ _) (hC : C.size = 26 := by exact bD _ _) (IH : F'.size = 6 := by exact aT _ _) (h1 : F'.all (·.oneCell') = true := by exact mF _ _) : wpOp prog ops Q i KK a wr :=
 Pb hi wi di x z ho p F' hx hy h.out.pw.row hF hC IH h1 (k _ (h.out.setRow _))
end
def oB (w0 w : World) (L : Lc) (S : Sc) (p : Nat) (f : Fl) (b : Bk) (n : Int) (e : Ending) (w' : World) : Prop :=
 ∃ L' S' K' f' b' r' y' g', e = .returned (.bool true) ∧ Pw w0 w' L' S' K' f' b' p (bF L'.d K'.D (xa y' g') (ba r' b')) r' y' g' b' ∧ Ot w w' L S L' S' ∧ fE f' g' ∧ JG f b f' b' n
theorem oB.mk' {w0 wr : World} {K' : Kc} {f f' : Fl} {b b' : Bk} {d D : Nat} {r' : Rb} {y' : Rc} {g' : Fl} (h : Dz w0 w wr L S L' S' K' f' b' p (bF d D (xa y' g') (ba r' b')) r' y' g' b' N A) (hd : L'.d = d) (hD : K'.D = D) (hs : fE f' g') (he : JG f b f' b' n) : oB w0 w L S p f b n (.returned (.bool true)) wr := by
 subst hd hD
 exact ⟨L', S', K', f', b', r', y', g', rfl, h.pw, h.ot, hs, he⟩
structure M8 (w0 w : World) (L : Lc) (S : Sc) (K : Kc) (f g : Fl) (b : Bk) (p : Nat) (r : Rb) (y : Rc) (n k A B : Int) (P : Option Addr) (np cp : Nat) (pk : List Int) : Prop where
 h : Pw w0 w L S K f b p (bF L.d K.D (xa y g) (ba r b)) r y g b
 hs : fE f g
 hp : jH f b n
 hn : n < 999000
 Bb : 0 ≤ k ∧ k < 256
 hA : dI A
 hB : dI B
 hP : Rd w0 w0.heap.size P (ag .u8 pk)
 fA : pk.length = np
 Gx : np ≤ 140737488351232
 qI : Bytes pk
def zm (w0 w : World) (L : Lc) (S : Sc) (p : Nat) (f : Fl) (b : Bk) (n k A B : Int) (P : Option Addr) (np cp : Nat) : Prop :=
 Calls prog 14 #[.pointer (some ⟨p, 0, none⟩), .agg #[.int .u8 k, .int .i64 A, .int .i64 B, .slice P np cp]] w (oB w0 w L S p f b n)
theorem M9 (k A B : Int) (P : Option Addr) (np cp : Nat) : ∃ Z : Array Value, #[.int .u8 k, .int .i64 A, .int .i64 B, .slice P np cp] = Z ∧ Hid (Z.size = 4) ∧ Hid (Z[0]? = some (.int .u8 k)) ∧ Hid (Z[1]? = some (.int .i64 A)) ∧ Hid (Z[2]? = some (.int .i64 B)) ∧ Hid (Z[3]? = some (.slice P np cp)) := ⟨_, rfl, rfl, rfl, rfl, rfl, rfl⟩
theorem dE {p q c : Prop} (d1 : c) (k : q) (h : c → q → p := by
 intro d1 k
 go_upto_region 55 with (fail)
 go_wp2_with ((first | with_reducible refine (Of _ _).mono ?_ | with_reducible refine (Gm _).mono ?_); rintro e v9 ⟨rfl, rfl⟩)
 try go_ret
 exact k) : p := h d1 k
theorem ru (args : Array Value) (w : World) : (callFunc 12 args).run prog w = .ok (.enter 12 args) w := by
 go_simp
theorem z52 (h : C.size = 4) : (prog.info? 52).map (·.size) = some C.size := by
 rw [h]
 kernel_rfl
theorem Aq (A B : Int) (b : Bk) : Bytes (kR A B b) := by
 unfold kR
 split
 ·exact iC _ _
 exact fun x hx => iC _ _ x (List.mem_of_mem_drop (List.mem_of_mem_take hx))
section
variable {w0 w : World} {L : Lc} {S : Sc} {K : Kc} {f : Fl} {b : Bk}
theorem CN (h : bo w0 w L S K f b) (hp : jH f b n) (hn : n < 999000) : Calls prog 45 #[.pointer (some ⟨K.D, 0, none⟩)] w (xq w0 w L S K f (bJ b f)) := by
 by_cases nD : b.af = true
 ·have cO : (aq b f).af = true := by unfold aq; rw [nD]; rfl
  have g1 := ne_nil
  have g2 := fT
  have HR := iD (ff h)
  have HB : Hid (bJ b f = (aq b f, 20)) := by unfold bJ; rw [Hid, iP cO]
  rw [iP cO, dJ (by decide)] at HR
  clear h hp hn cO nD
  go_enter func45, ntmps45
  go_wp2_with (fail)
  refine HR.mono ?_
  rintro e w1 ⟨rfl, hK, hX⟩
  have HK := iD hK
  have HX := iD hX
  clear hK hX
  go_wp2
  go_ret
  rw [HB]
  exact ⟨rfl, .mk' (.dj HX) HK⟩
 have hJ := (hp.up (by simpa using nD)).1
 exact Ae h hp.ok (fun hb hr => (hJ.lv hb (hJ.dn hb)).2.symm.trans hr) (by have := hJ.sq; omega)
theorem ES (h : bo w0 w L S K f b) (hp : jH f b n) (hn : n < 999000) (c : Int) (hc : 0 ≤ c ∧ c < 4294967296) : Calls prog 41 #[.pointer (some ⟨K.D, 0, none⟩), .int .u32 c] w (xq w0 w L S K f (bX b f c)) := by
 by_cases nD : b.af = true
 ·have cO : (aq b f).af = true := by unfold aq; rw [nD]; rfl
  have g1 := ne_nil
  have g2 := fT
  have HR := iD (ff h)
  have HB : Hid (bX b f c = (aq b f, 20)) := by unfold bX; rw [Hid, iP cO]
  rw [iP cO, dJ (by decide)] at HR
  clear h hp hn cO nD
  go_enter func41, ntmps41
  go_wp2_with (fail)
  refine HR.mono ?_
  rintro e w1 ⟨rfl, hK, hX⟩
  have HK := iD hK
  have HX := iD hX
  have c6 : w1.cell? ⟨K.D, 6, none⟩ = some (.bool b.au) := hK.row 6 _ rfl
  have ua : w1.cell? ⟨K.D, 10, none⟩ = some (.int .i64 b.cH) := hK.row 10 _ rfl
  have c9 : w1.cell? ⟨K.D, 9, none⟩ = some (.int .i64 b.length) := hK.row 9 _ rfl
  clear hK hX
  go_wp2
  go_ret
  rw [HB]
  exact ⟨rfl, .mk' (.dj HX) HK⟩
 have hJ := (hp.up (by simpa using nD)).1
 exact CL h hp.ok (fun hb hr => (hJ.lv hb (hJ.dn hb)).2.symm.trans hr) (by have := hJ.sq; omega) hJ.ul c hc
end
variable {w0 w : World} {L : Lc} {S : Sc} {K : Kc} {f g : Fl} {b : Bk} {p : Nat} {r : Rb} {y : Rc} {n k A B : Int} {P : Option Addr} {np cp : Nat} {pk : List Int}
theorem Mf (H : M8 w0 w L S K f g b p r y n k A B P np cp pk) (hk : k % 16 = 0) : zm w0 w L S p f b n k A B P np cp := by
 obtain ⟨h, hs, hp, hn, Bb, hA, hB, hP, fA, Gx, qI⟩ := H
 unfold zm
 obtain ⟨Z, hZ, HZ, xV, oy, Jq, DJ⟩ := M9 k A B P np cp
 have HS := iD hs
 have lV := iD hp
 have tU : bU g b := bU.xI hs hp.ok
 have HH := iD h
 obtain ⟨⟨b5, cd⟩, hq⟩ := ex (cz b f A B)
 have HC := iD (fun (wr : World) (hb : bo w0 wr L S K f b) => ET hb hp.ok A B hB)
 rw [hq] at HC
 have HR := iD (fun (wr : World) (L5 : Lc) (S5 : Sc) (K5 : Kc) (hz : Pw w0 wr L5 S5 K5 f b5 p (bF L.d K.D (xa y g) (ba r b)) r y g b) => Jh (n0 := n) (X := fun k => ea L5 S5 k ∨ wr.heap.size ≤ k) (hz.rk.dS (fun k hk hy => hy.elim id (fun e => oM))) (hz.ra.nl (fun k hk hy => hy.elim id (fun e => oM))) tU (fun hb => jJ.xI hs hz.ra.ok (hp.up hb).1) hz.bk.n0 (fun k hk => .inl (.inr (hz.eE k hk).1)) A B hA hB)
 rw [hs.cz, hq] at HR
 have oX := iD (LX hp A B)
 rw [hq] at oX
 clear hq
 obtain ⟨W, hW⟩ := ex (w.alloc (.cells Z 52))
 have H0 := iD (Dz.start h Z hW)
 have d0 := (cell_of_row W w.heap.size 0 Z 52 (0, 0) H0.bx.row).trans xV
 rw [hZ]
 clear hZ h hs hp tU hP hA hB
 go_enter func14, ntmps14
 go_upto_region 11 with (fail)
 refine rD H0 fun H2 => ?_
 refine vP 0 p 0 H2.f2 ?_
 refine vP 1 p 0 H2.f2 ?_
 refine vP 2 p 1 H2.f2 ?_
 refine tL 3 _ rfl (yC fun _ hS => gQ hS.1 ec) H2.f2 ?_
 refine vP 4 w.heap.size 1 H2.f2 ?_
 refine tL 5 _ rfl (yC fun _ hS => gQ hS.2 oy) H2.f2 ?_
 refine vP 6 w.heap.size 2 H2.f2 ?_
 refine tL 7 _ rfl (yC fun _ hS => gQ hS.2 Jq) H2.f2 ?_
 refine wI 8 (cW (HC _ H2.pw.bk) ?_)
 rintro e v5 ⟨rfl, L5, S5, K5, kH, lG⟩
 have H3 := iD (H2.prog kH lG)
 have uY := iD kH.d
 have Di := iD kH.ld
 clear kH lG
 refine rW H3.f2 ?_
 refine tV 9 (fx cd) H3.f2 ?_
 refine wD ?_
 go_upto_region 12 with (fail)
 refine rK H3 19 fun H4 => ?_
 refine kP 0 p 0 H4.f2 ?_
 refine kP 1 p 0 H4.f2 ?_
 refine kP 2 p 0 H4.f2 ?_
 refine kP 3 p 8 H4.f2 ?_
 refine tM 4 _ rfl (zn (fun _ hS => hS.1)) H4.f2 ?_
 refine kP 5 p 0 H4.f2 ?_
 refine kP 6 p 0 H4.f2 ?_
 refine kP 7 p 2 H4.f2 ?_
 refine tM 8 _ rfl (vc (fun _ hS => hS.1)) H4.f2 ?_
 refine kP 9 w.heap.size 1 H4.f2 ?_
 refine tM 10 _ rfl (yC fun _ hS => gQ hS.2 oy) H4.f2 ?_
 refine kP 11 w.heap.size 2 H4.f2 ?_
 refine tM 12 _ rfl (yC fun _ hS => gQ hS.2 Jq) H4.f2 ?_
 refine kI 13 (cW (HR _ _ _ _ H4.pw) ?_)
 rintro e v6 ⟨r6, rfl, kD, xy, oJ, fB⟩
 obtain ⟨L6, hz6, Bf⟩ := H4.begin oJ fB kD xy
 have H5 := iD hz6
 have Zy := iD Bf
 clear hz6 Bf kD xy oJ fB
 refine rX H5.f2 ?_
 refine tK 14 (.tuple #[.agg (ba r6 b5), .int .i64 cd]) H5.f2 ?_
 refine kA 15 (ba r6 b5) H5.f2 ?_
 refine kN 16 cd H5.f2 ?_
 refine kP 17 p 0 H5.f2 ?_
 refine kP 18 p 8 H5.f2 ?_
 refine kL (Ea H5 fun u6 H6 => ?_)
 refine vN 20 cd trivial ?_
 refine wD ?_
 exact dE (gQ H6.pw.row ec) (oB.mk' H6 (Zy.trans Di) uY HS oX)
theorem Mg (H : M8 w0 w L S K f g b p r y n k A B P np cp pk) (hk : k % 16 = 6) : zm w0 w L S p f b n k A B P np cp := by
 obtain ⟨h, hs, hp, hn, Bb, hA, hB, hP, fA, Gx, qI⟩ := H
 unfold zm
 obtain ⟨Z, hZ, HZ, xV, oy, Jq, DJ⟩ := M9 k A B P np cp
 have HS := iD hs
 have lV := iD hp
 have tU : bU g b := bU.xI hs hp.ok
 have HH := iD h
 obtain ⟨⟨b5, cd⟩, hq⟩ := ex (ej b f)
 have HC := iD (fun (wr : World) (hb : bo w0 wr L S K f b) => EU hb)
 rw [hq] at HC
 have HR := iD (fun (wr : World) (L5 : Lc) (S5 : Sc) (K5 : Kc) (hz : Pw w0 wr L5 S5 K5 f b5 p (bF L.d K.D (xa y g) (ba r b)) r y g b) => Pu (x := y) hz.rk)
 rw [hs.ej, hq] at HR
 have oX := iD (LY hp)
 rw [hq] at oX
 clear hq
 obtain ⟨W, hW⟩ := ex (w.alloc (.cells Z 52))
 have H0 := iD (Dz.start h Z hW)
 have d0 := (cell_of_row W w.heap.size 0 Z 52 (0, 0) H0.bx.row).trans xV
 rw [hZ]
 clear hZ h hs hp tU hP hA hB
 go_enter func14, ntmps14
 go_upto_region 25 with (fail)
 have d1 := (cell_of_row W p 1 _ 50 (0, 0) H0.pw.row).trans ec
 go_wp2_with (fail)
 refine (HC _ H0.pw.bk).mono ?_
 rintro e v5 ⟨rfl, L5, S5, K5, kH, lG⟩
 have H2 := iD (H0.prog kH lG)
 have uY := iD kH.d
 have Di := iD kH.ld
 clear kH lG
 clear d1
 go_upto_region 26 with (fail)
 refine rK H2 15 fun H3 => ?_
 refine kP 0 p 0 H3.f2 ?_
 refine kP 1 p 0 H3.f2 ?_
 refine kP 2 p 0 H3.f2 ?_
 refine kP 3 p 8 H3.f2 ?_
 refine tM 4 _ rfl (zn (fun _ hS => hS.1)) H3.f2 ?_
 refine kP 5 p 0 H3.f2 ?_
 refine kP 6 p 0 H3.f2 ?_
 refine kP 7 p 2 H3.f2 ?_
 refine tM 8 _ rfl (vc (fun _ hS => hS.1)) H3.f2 ?_
 refine kI 9 (cW (HR _ _ _ _ H3.pw) ?_)
 rintro e v6 ⟨r6, rfl, kD, xy, fB⟩
 have H4 := iD (H3.ref fB kD (H3.pw.ra.below fB) xy)
 clear kD xy fB
 refine rX H4.f2 ?_
 refine tK 10 (.tuple #[.agg (ba r6 b5), .int .i64 cd]) H4.f2 ?_
 refine kA 11 (ba r6 b5) H4.f2 ?_
 refine kN 12 cd H4.f2 ?_
 refine kP 13 p 0 H4.f2 ?_
 refine kP 14 p 8 H4.f2 ?_
 refine kL (Ea H4 fun u5 H5 => ?_)
 refine vN 16 cd trivial ?_
 refine wD ?_
 exact dE (gQ H5.pw.row ec) (oB.mk' H5 Di uY HS oX)
theorem E4 (H : M8 w0 w L S K f g b p r y n k A B P np cp pk) (hk : k % 16 = 7) : zm w0 w L S p f b n k A B P np cp := by
 obtain ⟨h, hs, hp, hn, Bb, hA, hB, hP, fA, Gx, qI⟩ := H
 unfold zm
 obtain ⟨Z, hZ, HZ, xV, oy, Jq, DJ⟩ := M9 k A B P np cp
 have HS := iD hs
 have lV := iD hp
 have tU : bU g b := bU.xI hs hp.ok
 have HH := iD h
 obtain ⟨⟨b5, cd⟩, hq⟩ := ex (bJ b f)
 have HC := iD (fun (wr : World) (hb : bo w0 wr L S K f b) => CN hb hp hn)
 rw [hq] at HC
 have HR := iD (fun (wr : World) (L5 : Lc) (S5 : Sc) (K5 : Kc) (hz : Pw w0 wr L5 S5 K5 f b5 p (bF L.d K.D (xa y g) (ba r b)) r y g b) => I6 (n := n) hz.rk hz.ra hz.bk.cY tU (fun hb => jJ.xI hs hz.ra.ok (hp.up hb).1) oM)
 rw [hs.bJ, hq] at HR
 have oX := iD (EV hp)
 rw [hq] at oX
 clear hq
 obtain ⟨W, hW⟩ := ex (w.alloc (.cells Z 52))
 have H0 := iD (Dz.start h Z hW)
 have d0 := (cell_of_row W w.heap.size 0 Z 52 (0, 0) H0.bx.row).trans xV
 rw [hZ]
 clear hZ h hs hp tU hP hA hB
 go_enter func14, ntmps14
 go_upto_region 28 with (fail)
 have d1 := (cell_of_row W p 1 _ 50 (0, 0) H0.pw.row).trans ec
 go_wp2_with (fail)
 refine (HC _ H0.pw.bk).mono ?_
 rintro e v5 ⟨rfl, L5, S5, K5, kH, lG⟩
 have H2 := iD (H0.prog kH lG)
 have uY := iD kH.d
 have Di := iD kH.ld
 clear kH lG
 clear d1
 go_upto_region 29 with (fail)
 refine rK H2 15 fun H3 => ?_
 refine kP 0 p 0 H3.f2 ?_
 refine kP 1 p 0 H3.f2 ?_
 refine kP 2 p 0 H3.f2 ?_
 refine kP 3 p 8 H3.f2 ?_
 refine tM 4 _ rfl (zn (fun _ hS => hS.1)) H3.f2 ?_
 refine kP 5 p 0 H3.f2 ?_
 refine kP 6 p 0 H3.f2 ?_
 refine kP 7 p 2 H3.f2 ?_
 refine tM 8 _ rfl (vc (fun _ hS => hS.1)) H3.f2 ?_
 refine kI 9 (cW (HR _ _ _ _ H3.pw) ?_)
 rintro e v6 ⟨r6, rfl, kD, xy, fB⟩
 have H4 := iD (H3.ref fB kD (H3.pw.ra.below fB) xy)
 clear kD xy fB
 refine rX H4.f2 ?_
 refine tK 10 (.tuple #[.agg (ba r6 b5), .int .i64 cd]) H4.f2 ?_
 refine kA 11 (ba r6 b5) H4.f2 ?_
 refine kN 12 cd H4.f2 ?_
 refine kP 13 p 0 H4.f2 ?_
 refine kP 14 p 8 H4.f2 ?_
 refine kL (Ea H4 fun u5 H5 => ?_)
 refine vN 16 cd trivial ?_
 refine wD ?_
 exact dE (gQ H5.pw.row ec) (oB.mk' H5 Di uY HS oX)
theorem wH (H : M8 w0 w L S K f g b p r y n k A B P np cp pk) (hk : k % 16 = 1 ∨ k % 16 = 2 ∨ k % 16 = 3) : zm w0 w L S p f b n k A B P np cp := by
 obtain ⟨h, hs, hp, hn, Bb, hA, hB, hP, fA, Gx, qI⟩ := H
 unfold zm
 rcases hk with hk | hk | hk
 all_goals
  obtain ⟨Z, hZ, HZ, xV, oy, Jq, DJ⟩ := M9 k A B P np cp
  have HS := iD hs
  have lV := iD hp
  have tU : bU g b := bU.xI hs hp.ok
  have HH := iD h
  have HCH := iD (fun wr : World => Pg r b k A B hB P np cp wr)
  rw [hZ] at HCH
  obtain ⟨⟨b5, cd⟩, hq⟩ := ex (dH b f (kR A B b))
  have HC := iD (fun (wr : World) (hb : bo w0 wr L S K f b) => fun (A9 : Option Addr) (n9 c9 : Nat) (h9 : cn (pt L S K) wr A9 (ag .u8 (kR A B b))) (e9 : (kR A B b).length = n9) (l9 : n9 ≤ c9) (m9 : c9 ≤ maxLen) => IV hb hp.ok A9 n9 c9 _ h9 e9 l9 m9)
  simp only [hq] at HC
  have HR := iD (fun (wr : World) (L5 : Lc) (S5 : Sc) (K5 : Kc) (hz : Pw w0 wr L5 S5 K5 f b5 p (bF L.d K.D (xa y g) (ba r b)) r y g b) => fun (A9 : Option Addr) (n9 c9 : Nat) (h9 : Rd wr wr.heap.size A9 (ag .u8 (kR A B b))) (e9 : (kR A B b).length = n9) => Tl (n := n) (x := y) hz.rk hz.ra.ok hz.bk.cY tU (fun hb => jJ.xI hs hz.ra.ok (hp.up hb).1) A9 n9 c9 _ h9 e9)
  simp only [hs.dH, hq] at HR
  have oX := iD (O6 hp (Aq A B b))
  rw [hq] at oX
  clear hq
  obtain ⟨W, hW⟩ := ex (w.alloc (.cells Z 52))
  have H0 := iD (Dz.start h Z hW)
  have d0 := (cell_of_row W w.heap.size 0 Z 52 (0, 0) H0.bx.row).trans xV
  rw [hZ]
  clear hZ h hs hp tU hP hA hB
  go_enter func14, ntmps14
  go_upto_region 16 with (fail)
  refine rD H0 fun H2 => ?_
  refine tL 0 (.agg Z) rfl (Vc (fun _ hS => hS.2) HZ) H2.f2 ?_
  refine vP 1 p 0 H2.f2 ?_
  refine vP 2 p 0 H2.f2 ?_
  refine vP 3 p 8 H2.f2 ?_
  refine tL 4 _ rfl (zn (fun _ hS => hS.1)) H2.f2 ?_
  refine wI 5 (cW (HCH _) ?_)
  rintro e v4 ⟨A5, n5, c5, rfl, JO, Ns, YS, VE, gC⟩
  have HXC := iD (VE _ H2.pw.bk.cY)
  have HN5 := iD JO
  have U9 := iD (And.intro Ns YS)
  have H3 := iD (H2.ab gC)
  clear VE JO Ns YS gC
  refine rW H3.f2 ?_
  refine tV 6 (.slice A5 n5 c5) H3.f2 ?_
  refine wD ?_
  go_upto_region 17 with (fail)
  have d1 := (cell_of_row v4 p 1 _ 50 (0, 0) H3.pw.row).trans ec
  go_wp2_with (fail)
  refine (HC _ H3.pw.bk A5 n5 c5 (HXC.cU H3.pw.bk.qa) HN5 U9.1 U9.2).mono ?_
  rintro e v5 ⟨rfl, L5, S5, K5, kH, lG⟩
  have H4 := iD (H3.prog kH lG)
  have uY := iD kH.d
  have Di := iD kH.ld
  have aa3 := iD (KB HXC (H3.pw.prog kH lG).2)
  clear kH lG
  clear d1
  go_upto_region 18 with (fail)
  refine rK H4 16 fun H5 => ?_
  refine kP 0 p 0 H5.f2 ?_
  refine kP 1 p 0 H5.f2 ?_
  refine kP 2 p 0 H5.f2 ?_
  refine kP 3 p 8 H5.f2 ?_
  refine tM 4 _ rfl (zn (fun _ hS => hS.1)) H5.f2 ?_
  refine kP 5 p 0 H5.f2 ?_
  refine kP 6 p 0 H5.f2 ?_
  refine kP 7 p 2 H5.f2 ?_
  refine tM 8 _ rfl (vc (fun _ hS => hS.1)) H5.f2 ?_
  refine tK 9 (.slice A5 n5 c5) H5.f2 ?_
  refine kI 10 (cW (HR _ _ _ _ H5.pw A5 n5 c5 (aa3.below fY).rd HN5) ?_)
  rintro e v6 ⟨r6, rfl, kD, xy, fB⟩
  have H6 := iD (H5.ref fB kD (H5.pw.ra.below fB) xy)
  clear kD xy fB
  refine rX H6.f2 ?_
  refine tK 11 (.tuple #[.agg (ba r6 b5), .int .i64 cd]) H6.f2 ?_
  refine kA 12 (ba r6 b5) H6.f2 ?_
  refine kN 13 cd H6.f2 ?_
  refine kP 14 p 0 H6.f2 ?_
  refine kP 15 p 8 H6.f2 ?_
  refine kL (Ea H6 fun u7 H7 => ?_)
  refine vN 17 cd trivial ?_
  refine wD ?_
  exact dE (gQ H7.pw.row ec) (oB.mk' H7 Di uY HS oX)
theorem wG (H : M8 w0 w L S K f g b p r y n k A B P np cp pk) (hk : k % 16 = 4 ∨ k % 16 = 5) : zm w0 w L S p f b n k A B P np cp := by
 obtain ⟨h, hs, hp, hn, Bb, hA, hB, hP, fA, Gx, qI⟩ := H
 unfold zm
 obtain ⟨t9, ht9⟩ : ∃ z : Int, (k % 16 = 4 ∧ z = 0) ∨ (k % 16 = 5 ∧ z = 1) := hk.elim (fun e => ⟨0, .inl ⟨e, rfl⟩⟩) (fun e => ⟨1, .inr ⟨e, rfl⟩⟩)
 clear hk
 rcases ht9 with ⟨hk, ht9⟩ | ⟨hk, ht9⟩
 all_goals
  obtain ⟨Z, hZ, HZ, xV, oy, Jq, DJ⟩ := M9 k A B P np cp
  have HS := iD hs
  have lV := iD hp
  have tU : bU g b := bU.xI hs hp.ok
  have HH := iD h
  obtain ⟨LN, hLN⟩ := ex (min b.length 2000)
  have RA : Hid (∀ W : World, Calls prog 11 #[.int .i64 b.version, .int .i64 b.length] W fun e w' => ∃ A1, e = .returned (.slice A1 LN LN) ∧ w'.ownsRow W.heap.size 5 1 (.slice A1 LN LN) LN (ag .u8 (eT b.version LN)) ∧ bW W w') := fun W => td b.version (b.length : Int) LN (by unfold dN; omega) W
  have hLM : LN ≤ 2000 := oM
  obtain ⟨s0, fp⟩ := ex (eS (eT b.version LN))
  have HSU := iD (fun (wr : World) (A9 : Option Addr) (h9 : Rd wr wr.heap.size A9 (ag .u8 (eT b.version LN))) => nG A9 LN LN (eT b.version LN) wr h9 (cS _ _) (iC _ _) oM)
  rw [fp] at HSU
  obtain ⟨cc, rh⟩ := ex (IntKind.u32.wrap (s0 + t9))
  have hcr : 0 ≤ cc ∧ cc < 4294967296 := by rw [← rh, IntKind.wrap_u32]; omega
  have Yq := iD rh
  clear hLN fp
  obtain ⟨⟨b5, cd⟩, hq⟩ := ex (bX b f cc)
  have HC := iD (fun (wr : World) (hb : bo w0 wr L S K f b) => ES hb hp hn cc hcr)
  rw [hq] at HC
  have HR := iD (fun (wr : World) (L5 : Lc) (S5 : Sc) (K5 : Kc) (hz : Pw w0 wr L5 S5 K5 f b5 p (bF L.d K.D (xa y g) (ba r b)) r y g b) => LQ (n := n) hz.rk hz.ra hz.bk.cY tU (fun hb => jJ.xI hs hz.ra.ok (hp.up hb).1) oM cc hcr)
  rw [hs.bX, hq] at HR
  have oX := iD (IY hp hcr)
  rw [hq] at oX
  clear hq
  obtain ⟨W, hW⟩ := ex (w.alloc (.cells Z 52))
  have H0 := iD (Dz.start h Z hW)
  have d0 := (cell_of_row W w.heap.size 0 Z 52 (0, 0) H0.bx.row).trans xV
  rw [hZ]
  clear hZ h hs hp tU hP hA hB
  go_enter func14, ntmps14
  have hkt : k.tmod 16 = 4 + t9 := by rw [Int.tmod_eq_emod_of_nonneg oM]; omega
  have CA := rh
  try rw [Int.add_zero] at CA
  go_upto_region 21 with (fail)
  refine rD H0 fun H2 => ?_
  refine vP 0 p 0 H2.f2 ?_
  refine vP 1 p 0 H2.f2 ?_
  refine vP 2 p 8 H2.f2 ?_
  refine vP 3 p 29 H2.f2 ?_
  refine tL 4 _ rfl (yC fun _ hS => gQ hS.1 ((gR (aT _ _) 21).trans (show (ba r b)[21]? = some (.int .i64 b.version) from rfl))) H2.f2 ?_
  refine vP 5 p 0 H2.f2 ?_
  refine vP 6 p 0 H2.f2 ?_
  refine vP 7 p 8 H2.f2 ?_
  refine vP 8 p 30 H2.f2 ?_
  refine tL 9 _ rfl (yC fun _ hS => gQ hS.1 ((gR (aT _ _) 22).trans (show (ba r b)[22]? = some (.int .i64 b.length) from rfl))) H2.f2 ?_
  refine vP 12 w.heap.size 0 H2.f2 ?_
  refine tL 13 _ rfl (yC fun _ hS => gQ hS.2 xV) H2.f2 ?_
  refine tV 14 (.int .u8 (4 + t9)) H2.f2 ?_
  refine tV 15 (.int .u8 t9) H2.f2 ?_ (Nd (he := by intro _; go_simp; first | rfl | simp [← rh, ht9]))
  refine tV 16 (.int .u32 t9) H2.f2 ?_ (Nd (he := by intro _; go_simp; first | rfl | simp [← rh, ht9]))
  refine wI 10 (cW (RA _) ?_)
  rintro e v4 ⟨A5, rfl, kd, gC⟩
  have ue := iD (bM kd)
  clear kd
  have H3 := iD (H2.ab gC)
  clear gC
  obtain ⟨A9, c9, e9, hc9, hm9, Lm⟩ := ue
  injection e9 with e91 e92 e93
  subst e91 e93
  have mD := iD Lm
  clear Lm hc9 hm9
  refine rW H3.f2 ?_
  refine wI 11 (cW (HSU _ A5 mD) ?_)
  rintro e v8 ⟨rfl, q7, rfl⟩
  have H4 := iD (H3.ab (Below.drewN bV q7))
  generalize v4.drewN q7 = v7 at H4 ⊢
  refine rW H4.f2 ?_
  refine tV 17 (.int .u32 cc) H4.f2 ?_ (Nd (he := by intro _; go_simp; first | rfl | simp [← rh, ht9]))
  refine tV 18 (.int .u32 cc) H4.f2 ?_
  refine wD ?_
  go_upto_region 22 with (fail)
  have d1 := (cell_of_row v7 p 1 _ 50 (0, 0) H4.pw.row).trans ec
  go_wp2_with (fail)
  refine (HC _ H4.pw.bk).mono ?_
  rintro e v5 ⟨rfl, L5, S5, K5, kH, lG⟩
  have H5 := iD (H4.prog kH lG)
  have uY := iD kH.d
  have Di := iD kH.ld
  clear kH lG
  clear d1
  go_upto_region 23 with (fail)
  refine rK H5 16 fun H6 => ?_
  refine kP 0 p 0 H6.f2 ?_
  refine kP 1 p 0 H6.f2 ?_
  refine kP 2 p 0 H6.f2 ?_
  refine kP 3 p 8 H6.f2 ?_
  refine tM 4 _ rfl (zn (fun _ hS => hS.1)) H6.f2 ?_
  refine kP 5 p 0 H6.f2 ?_
  refine kP 6 p 0 H6.f2 ?_
  refine kP 7 p 2 H6.f2 ?_
  refine tM 8 _ rfl (vc (fun _ hS => hS.1)) H6.f2 ?_
  refine tK 9 (.int .u32 cc) H6.f2 ?_
  refine kI 10 (cW (HR _ _ _ _ H6.pw) ?_)
  rintro e v6 ⟨r6, rfl, kD, xy, fB⟩
  have H7 := iD (H6.ref fB kD (H6.pw.ra.below fB) xy)
  clear kD xy fB
  refine rX H7.f2 ?_
  refine tK 11 (.tuple #[.agg (ba r6 b5), .int .i64 cd]) H7.f2 ?_
  refine kA 12 (ba r6 b5) H7.f2 ?_
  refine kN 13 cd H7.f2 ?_
  refine kP 14 p 0 H7.f2 ?_
  refine kP 15 p 8 H7.f2 ?_
  refine kL (Ea H7 fun u8 H8 => ?_)
  refine vN 17 cd trivial ?_
  refine wD ?_
  exact dE (gQ H8.pw.row ec) (oB.mk' H8 Di uY HS oX)
end Go.Proofs.YtjdknddnanopaaaGreat
