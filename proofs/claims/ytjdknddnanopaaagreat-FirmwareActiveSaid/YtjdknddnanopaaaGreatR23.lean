/-
  Part 23 of the proof.
-/
import Derived.Test.YtjdknddnanopaaaGreatR22
namespace Go.Proofs.YtjdknddnanopaaaGreat
open Go.RowKit Tryz
set_option maxRecDepth 100000
set_option maxHeartbeats 16000000
set_option linter.all false
variable {B : Bk}
theorem Hu {G : Fl} {first k : Nat} {v : Int} {img : List Int} (h : GS G first k B v img) : jH G B 2 := by
 have hd := h.up.dn
 obtain ⟨bs, JS⟩ := ex B.st
 have hn := h.nb
 rw [JS] at hn
 have Ov : B.au = false := by rw [hn]; rfl
 have GD : B.erase = [] := by rw [hn]; rfl
 have YW : B.data = none := by rw [hn]; rfl
 have xO : B.bh = false := by rw [hn]; rfl
 have hJ : jJ G B 2 := ⟨h.ok, h.up.ok, fun _ _ => ⟨h.fr.sv.sH.1, by rw [xO, h.fr.bu]⟩, fun _ => hd, ⟨none, h.fr.sv.JM⟩, fun e he => (by rw [GD] at he; cases he), fun d kW => (by rw [YW] at kW; cases kW), h.sq, fun hu => (by rw [Ov] at hu; cases hu)⟩
 refine .of hJ (by rw [hn]; exact KX _ _ _ _) (fun _ => ⟨fun e => (by rw [Ov] at e; cases e), fun _ => ⟨GD, YW⟩, fun e he => (by rw [GD] at he; cases he)⟩)
section
variable {W0 w w' : World} {L : Lc} {S : Sc} {K : Kc} {f g : Fl} {B : Bk} {r : Rb} {y : Rc} {V : Array Value}
theorem Pw.first (hk : bo W0 w L S K f B) (hr : gW (ea L S) W0.heap.size w r B g.pg) (hy : ca (ea L S) w y g) (hE : r.E = none) (hW : w.alloc (.cells V 50) = w') : Pw W0 w' { L with E := fun b => L.E b ∨ b = w.heap.size } S K f B w.heap.size V r y g B := by
 subst hW
 have hb : bW w (w.alloc (.cells V 50)) := bV.alloc cV _
 have hs : (w.alloc (.cells V 50)).heap.size = w.heap.size + 1 := World.size_alloc w _
 have hN : ∀ b, b < w.heap.size → (L.E b ∨ b = w.heap.size) → L.E b := fun b aY h => h.elim id (fun e => oM)
 have hX : ∀ b, b < w.heap.size → ea { L with E := fun b => L.E b ∨ b = w.heap.size } S b → ea L S b := fun b aY h => h.elim .inl (fun e => .inr (hN b aY e))
 have hk' := hk.BA (Y := fun _ => False) (fun _ h => h.elim) (.ak hb) (hk.st.fl.below.trans (hb.mono hk.n0)) (fun b => L.E b ∨ b = w.heap.size) (fun b h => h.elim (fun h => Nat.lt_of_lt_of_le (hk.eb h) hb.size) (fun e => oM)) hN (fun _ h => .inl h)
 exact ⟨hk', (hr.dS hX).below hb, (hy.nl hX).below hb, heap_alloc_new w _, .inr rfl, fun h => Nat.lt_irrefl _ (hk.cY _ (hk.qa _ h)), hk.n0, fun k h => by rw [hE] at h; cases h⟩
def X7 (L : Lc) (m : Nat) (b : Nat) : Prop := b = L.d ∨ b = L.gi ∨ b = L.gw ∨ L.E b ∨ b = m
structure Pf (W0 w : World) (L : Lc) (f : Fl) (m : Nat) (y : Rc) (g : Fl) : Prop where
 fl : bB W0 w L f
 ra : ca (X7 L m) w y g
 row : w.heap[m]? = some (.cells (xa y g) 35 (0, 0))
 nd : m ≠ L.d ∧ m ≠ L.gi ∧ m ≠ L.gw ∧ ¬ L.E m
 w0 : W0.heap.size ≤ m
variable {m : Nat} {f' g' : Fl} {y' : Rc}
theorem Pf.lt (h : Pf W0 w L f m y g) : m < w.heap.size := (Array.getElem?_eq_some_iff.1 h.row).1
theorem Pf.ab (h : Pf W0 w L f m y g) (hb : bW w w') : Pf W0 w' L f m y g :=
 ⟨h.fl.ab hb, h.ra.below hb, (hb.block _ h.lt).trans h.row, h.nd, h.w0⟩
theorem Pf.prog (h : Pf W0 w L f m y g) (hf : bB W0 w' L f') (ho : cA L w w') : Pf W0 w' L f' m y g := by
 have hx : ah (fun b => b = L.d ∨ b = L.gi ∨ b = L.gw) w w' := .ka ho ⟨.inl rfl, .inr (.inl rfl), .inr (.inr rfl)⟩
 refine ⟨hf, h.ra.ao (hx.more (fun b hb => ?_)), (hx.block _ h.lt (fun e => ?_)).trans h.row, h.nd, h.w0⟩
 ·rcases hb with e | e | e
  ·exact .inl e
  ·exact .inr (.inl e)
  exact .inr (.inr (.inl e))
 rcases e with e | e | e
 ·exact h.nd.1 e
 ·exact h.nd.2.1 e
 exact h.nd.2.2.1 e
theorem Pf.put (h : Pf W0 w L f m y g) (hp : f.az = []) (hy : ca (X7 L m) w y' g') : Pf W0 (w.setRow m (xa y' g')) L f m y' g' := by
 have ho : ah (fun b => b = m) w (w.setRow m (xa y' g')) := ah.row w m _ rfl
 have hb : bW W0 (w.setRow m (xa y' g')) := below_setRow h.fl.below h.w0 _
 have hf := h.fl.aside hb ho (fun e => h.nd.1 e.symm) (fun e => h.nd.2.1 e.symm) (fun e => h.nd.2.2.1 e.symm) (fun j => cm (ho.block L.d h.fl.ld (fun e => h.nd.1 e.symm))) (dx h.fl.oi (ho.block L.gi h.fl.bi.2 (fun e => h.nd.2.1 e.symm))) (dx h.fl.ow (ho.block L.gw h.fl.bw.2 (fun e => h.nd.2.2.1 e.symm))) (by rw [hp]; exact fun e => absurd rfl e)
 exact ⟨hf, hy.ao (ho.more (fun b hb => .inr (.inr (.inr (.inr hb))))), setRow_heap _ _ _ _ 35 _ h.row, h.nd, h.w0⟩
theorem Pf.opened {S : Sc} {K : Kc} (h : Pf W0 w L f m y g) (hk : bo W0 w' { L with E := fun b => L.E b ∨ b = K.D } S K f B) (hb : bW w w') (h1 : w.heap.size ≤ S.D) (h2 : w.heap.size ≤ S.G) (h3 : w.heap.size ≤ K.D) :
 ca (ea { L with E := fun b => L.E b ∨ b = K.D } S) w' y g ∧ w'.heap[m]? = some (.cells (xa y g) 35 (0, 0)) := by
 refine ⟨(h.ra.nl (fun b aY hy => ?_)).below hb, (hb.block _ h.lt).trans h.row⟩
 rcases hy with (e | e | e | e | e) | e | e
 ·exact .inl e
 ·exact .inr (.inl e)
 ·exact .inr (.inr (.inl e))
 ·omega
 ·omega
 ·exact .inr (.inr (.inr (.inl e)))
 omega
end
end Go.Proofs.YtjdknddnanopaaaGreat
