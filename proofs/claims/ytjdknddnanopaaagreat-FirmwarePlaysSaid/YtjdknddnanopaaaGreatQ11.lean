/-
  Part 11 of the proof.
-/
import Derived.Test.YtjdknddnanopaaaGreatQ10
namespace Go.Proofs.YtjdknddnanopaaaGreat
open Go.RowKit Tryz
set_option maxRecDepth 100000
set_option maxHeartbeats 16000000
set_option linter.all false
variable {X : Nat → Prop} {V w w' w0 : World} {g g9 : Fl} {a : Act} {s : St} {x : Rc} {u : Value} {M N fuel i k : Nat} {oi : Oper} {ay : Array Bool} {f l : Array Value} {P : Program} {fn : Func} {p p' : Tmp} {AU : TypeId} {o : Obj} {A : Option Addr} {xs : List Value} {b : List Int}
section
variable {P : Program} {ops : Array Oper} {Q : Exit → Act → World → Prop} {md : Region.Mode} {S : World → Prop}
theorem bF {op : Oper} (hw : Region.wanted op (yielded ops a.tmps) = true) (ty : TypeId) (x : Operand) (ho : op.op = .load ty x) 
 (g : Nat) (hx : a.eval x = .pointer (some ⟨g, 0, none⟩)) (t : TypeId) (cs : Array Value) (fr : Nat × Nat) (d : TypeDesc) (hS : ∀ w, S w → w.heap[g]? = some (.cells cs t fr))
 (hu : P.underlying ty = some d) (hd : (match d with | .struct _ | .array _ _ => true | _ => false) = true) (hi : (P.info? ty).map (·.size) = some cs.size) : YieldsIf P ops S op (.agg cs) a :=
 .inl ⟨hw, fun w hw' => by
  unfold execOp
  simp only [ho, hx, Instr.loadAt, Instr.sureAddr, Sem.run_bind, Sem.run_pure, Result.andThen_ok, run_loadVar_row w g t ty cs fr d (hS w hw') hu hd hi]⟩
theorem jK {op : Oper} (hw : Region.wanted op (yielded ops a.tmps) = true) (x : Operand) (ho : op.op = .assign x) : YieldsIf P ops S op (a.eval x) a :=
 .inl ⟨hw, fun w _ => by unfold execOp; simp [ho]⟩
theorem lM {op : Oper} (hw : Region.wanted op (yielded ops a.tmps) = true) (x : Operand) (ho : op.op = .move x) : YieldsIf P ops S op (a.eval x) a :=
 .inl ⟨hw, fun w _ => by unfold execOp; simp [ho]⟩
theorem cR 
 (hr : Region.ready md ops ay = [i]) (hi : ops[i]? = some oi) (wi : Region.wanted oi (yielded ops a.tmps) = true) (di : oi.dst = none)
 (ti : TypeId) (xi yi : Operand) (hoi : oi.op = .store ti xi yi) (E : Nat) (c dX : Array Value)
 (hxi : a.eval xi = .pointer (some ⟨E, 0, none⟩)) (hyi : a.eval yi = .agg c) (tE : TypeId)
 (hE : w.heap[E]? = some (.cells dX tE (0, 0))) (Cj : (P.info? ti).map (·.size) = some c.size)
 (VR : dX.size = c.size) (h1i : c.all (·.oneCell') = true)
 (hS : S (w.setRow E c)) (h : wpAnyH P md ops Q S fuel (ay.setIfInBounds i true) a (w.setRow E c)) : wpAnyH P md ops Q S (fuel + 1) ay a w := by
 refine wpAnyH_all hr (by simp) (fun k hk => ?_)
 simp only [List.mem_cons, List.not_mem_nil, or_false] at hk
 subst hk
 refine wpOp_step hi (fun K' hK => ?_)
 rw [iP wi]
 refine wp_store_row ti xi yi hoi E c hxi hyi tE dX hE Cj VR h1i ?_
 rw [di, show a.put none undef = a from rfl]
 exact hK _ _ ⟨hS, h⟩
theorem nD 
 (hr : Region.ready md ops ay = [i]) (hi : ops[i]? = some oi) (wi : Region.wanted oi (yielded ops a.tmps) = true) (ty : TypeId) (x : Operand) (ho : oi.op = .load ty x)
 (g : Nat) (hx : a.eval x = .pointer (some ⟨g, 0, none⟩)) (t : TypeId) (cs : Array Value) (d : TypeDesc) (hg : w.heap[g]? = some (.cells cs t (0, 0)))
 (hu : P.underlying ty = some d) (hd : (match d with | .struct _ | .array _ _ => true | _ => false) = true) (hsz : (P.info? ty).map (·.size) = some cs.size)
 (hS : S w) (h : wpAnyH P md ops Q S fuel (ay.setIfInBounds i true) (a.put oi.dst (.agg cs)) w) : wpAnyH P md ops Q S (fuel + 1) ay a w := by
 refine wpAnyH_all hr (by simp) (fun k hk => ?_)
 simp only [List.mem_cons, List.not_mem_nil, or_false] at hk
 subst hk
 refine wpOp_step hi (fun K' hK => ?_)
 rw [iP wi]
 exact wp_load_row ty x ho g hx t cs (0, 0) d hg hu hd hsz (hK _ _ ⟨hS, h⟩)
theorem jw {n : Nat} {al : List Value} 
 (hr : Region.ready md ops ay = [i]) (hi : ops[i]? = some oi) (wi : Region.wanted oi (yielded ops a.tmps) = true) (xl : List Operand) (JZ : Array TypeId) (ho : oi.op = .call { callee := .value (.func n), args := xl.toArray, argTypes := JZ }) (hargs : xl.map a.eval = al) (vW : ∀ (args : Array Value) (w : World), (callFunc n args).run P w = .ok (.enter n args) w)
 (h : Calls P n al.toArray w fun e w' => ∃ v, e = .returned v ∧ S w' ∧ wpAnyH P md ops Q S fuel (ay.setIfInBounds i true) (a.put oi.dst v) w') : wpAnyH P md ops Q S (fuel + 1) ay a w := by
 refine wpAnyH_all hr (by simp) (fun k hk => ?_)
 simp only [List.mem_cons, List.not_mem_nil, or_false] at hk
 subst hk
 refine wpOp_step hi (fun K' hK => ?_)
 rw [iP wi]
 have he : (execOp a.eval oi).run P w = .ok (.enter n al.toArray) w := by
  obtain ⟨dst, op, ty, pos, after, guard⟩ := oi
  simp only at ho
  subst ho
  rw [execOp_call_go, show (#[] ++ xl.toArray.map a.eval ++ #[] : Array Value) = al.toArray by rw [← hargs]; simp]
  exact vW _ _
 unfold Oper.wp
 rw [he, Oper.upon_enter]
 refine h.mono ?_
 rintro e w' ⟨v, rfl, h1, h2⟩
 exact hK _ _ ⟨h1, h2⟩
end
theorem Ah (args : Array Value) (w : World) : (callFunc 27 args).run prog w = .ok (.enter 27 args) w := by
 go_simp
theorem zv {u v : Tmp} {ty : TypeId} (h : fn.results = #[.cell p ty, .cell p' AU, .tmp u, .tmp v]) (tmps : Array Value) (w : World) (g g' : Nat) (t t' : TypeId) (cs cs' : Array Value) (d d' : TypeDesc) 
 (hp : tmps.getD p undef = .pointer (some ⟨g, 0, none⟩)) (Nf : tmps.getD p' undef = .pointer (some ⟨g', 0, none⟩)) (hg : w.heap[g]? = some (.cells cs t (0, 0))) (dr : w.heap[g']? = some (.cells cs' t' (0, 0)))
 (hu : P.underlying ty = some d) (hd : (match d with | .struct _ | .array _ _ => true | _ => false) = true) (hi : (P.info? ty).map (·.size) = some cs.size)
 (pY : P.underlying AU = some d') (kX : (match d' with | .struct _ | .array _ _ => true | _ => false) = true) (Co : (P.info? AU).map (·.size) = some cs'.size) :
 (results fn tmps).run P w = .ok (.tuple #[.agg cs, .agg cs', tmps.getD u undef, tmps.getD v undef]) w := by
 have e1 := run_loadVar_row (P := P) w g t ty cs (0, 0) d hg hu hd hi
 have e2 := run_loadVar_row (P := P) w g' t' AU cs' (0, 0) d' dr pY kX Co
 simp only [Array.getD_eq_getD_getElem?] at hp Nf
 simp [results, h, Sem.run_bind, hp, Nf, asAddr, e1, e2]
theorem lP {u : Tmp} {ty : TypeId} (h : fn.results = #[.cell p ty, .cell p' AU, .tmp u]) (tmps : Array Value) (w : World) (g g' : Nat) (t t' : TypeId) (cs cs' : Array Value) (d d' : TypeDesc) 
 (hp : tmps.getD p undef = .pointer (some ⟨g, 0, none⟩)) (Nf : tmps.getD p' undef = .pointer (some ⟨g', 0, none⟩)) (hg : w.heap[g]? = some (.cells cs t (0, 0))) (dr : w.heap[g']? = some (.cells cs' t' (0, 0)))
 (hu : P.underlying ty = some d) (hd : (match d with | .struct _ | .array _ _ => true | _ => false) = true) (hi : (P.info? ty).map (·.size) = some cs.size)
 (pY : P.underlying AU = some d') (kX : (match d' with | .struct _ | .array _ _ => true | _ => false) = true) (Co : (P.info? AU).map (·.size) = some cs'.size) :
 (results fn tmps).run P w = .ok (.tuple #[.agg cs, .agg cs', tmps.getD u undef]) w := by
 have e1 := run_loadVar_row (P := P) w g t ty cs (0, 0) d hg hu hd hi
 have e2 := run_loadVar_row (P := P) w g' t' AU cs' (0, 0) d' dr pY kX Co
 simp only [Array.getD_eq_getD_getElem?] at hp Nf
 simp [results, h, Sem.run_bind, hp, Nf, asAddr, e1, e2]
structure Hy (w wr : World) (l f : Array Value) : Prop where
 below : bW w wr
 h : wr.heap[w.heap.size]? = some (.cells l 43 (0, 0))
 h4 : wr.heap[w.heap.size + 1]? = some (.cells f 35 (0, 0))
 h8 : ∃ dX : Array Value, dX.size = 15 ∧ wr.heap[w.heap.size + 2]? = some (.cells dX 43 (0, 0))
 h9 : ∃ dX : Array Value, dX.size = 6 ∧ wr.heap[w.heap.size + 3]? = some (.cells dX 35 (0, 0))
section
variable {w wr w' : World} {l f : Array Value}
theorem Hy.lt (h : Hy w wr l f) : w.heap.size + 3 < wr.heap.size := by
 obtain ⟨dX, _, h9⟩ := h.h9
 exact (Array.getElem?_eq_some_iff.1 h9).1
theorem Hy.ab (h : Hy w wr l f) (hb : bW wr w') : Hy w w' l f := by
 have hl := h.lt
 obtain ⟨dX, ho, h8⟩ := h.h8
 obtain ⟨uy, Gs, h9⟩ := h.h9
 exact ⟨h.below.trans (hb.mono h.below.size), (hb.block _ oM).trans h.h, (hb.block _ oM).trans h.h4, ⟨dX, ho, (hb.block _ oM).trans h8⟩, ⟨uy, Gs, (hb.block _ hl).trans h9⟩⟩
theorem Hy.row (h : Hy w wr l f) (j : Nat) (hj : l.toList[j]? = some u) : wr.cell? ⟨w.heap.size, j, none⟩ = some u := (cell_of_row wr _ j l 43 (0, 0) h.h).trans (by rw [← Array.getElem?_toList]; exact hj)
theorem Hy.fz (h : Hy w wr l f) (j : Nat) : wr.frozen? ⟨w.heap.size, j, none⟩ = false := frozen_of_row wr _ j l 43 h.h
theorem Hy.ll (h : Hy w wr l f) (j : Nat) (hj : f.toList[j]? = some u) : wr.cell? ⟨w.heap.size + 1, j, none⟩ = some u := (cell_of_row wr _ j f 35 (0, 0) h.h4).trans (by rw [← Array.getElem?_toList]; exact hj)
theorem Hy.Ux (h : Hy w wr l f) (j : Nat) : wr.frozen? ⟨w.heap.size + 1, j, none⟩ = false := frozen_of_row wr _ j f 35 h.h4
theorem Hy.set (h : Hy w wr l f) (i : Nat) (v : Value) : Hy w (wr.setCell ⟨w.heap.size, i, none⟩ v) (l.setIfInBounds i v) f := by
 obtain ⟨dX, ho, h8⟩ := h.h8
 obtain ⟨uy, Gs, h9⟩ := h.h9
 exact ⟨h.below.setCell (p := ⟨w.heap.size, i, none⟩) cV _, heap_setCell_same wr _ i l 43 v h.h, (heap_setCell_other wr ⟨w.heap.size, i, none⟩ _ v (by simp)).trans h.h4, ⟨dX, ho, (heap_setCell_other wr ⟨w.heap.size, i, none⟩ _ v (by simp)).trans h8⟩, ⟨uy, Gs, (heap_setCell_other wr ⟨w.heap.size, i, none⟩ _ v (by simp)).trans h9⟩⟩
theorem Hy.BF (h : Hy w wr l f) (i : Nat) (v : Value) : Hy w (wr.setCell ⟨w.heap.size + 1, i, none⟩ v) l (f.setIfInBounds i v) := by
 obtain ⟨dX, ho, h8⟩ := h.h8
 obtain ⟨uy, Gs, h9⟩ := h.h9
 exact ⟨h.below.setCell (p := ⟨w.heap.size + 1, i, none⟩) (Nat.le_succ _) _, (heap_setCell_other wr ⟨w.heap.size + 1, i, none⟩ _ v (by simp)).trans h.h, heap_setCell_same wr _ i f 35 v h.h4, ⟨dX, ho, (heap_setCell_other wr ⟨w.heap.size + 1, i, none⟩ _ v (by simp)).trans h8⟩, ⟨uy, Gs, (heap_setCell_other wr ⟨w.heap.size + 1, i, none⟩ _ v (by simp)).trans h9⟩⟩
theorem Hy.put (h : Hy w wr l f) (cs : Array Value) : Hy w (wr.setRow w.heap.size cs) cs f := by
 obtain ⟨dX, ho, h8⟩ := h.h8
 obtain ⟨uy, Gs, h9⟩ := h.h9
 exact ⟨below_setRow h.below cV _, setRow_heap _ _ _ _ _ _ h.h, (setRow_other _ _ _ _ oM).trans h.h4, ⟨dX, ho, (setRow_other _ _ _ _ oM).trans h8⟩, ⟨uy, Gs, (setRow_other _ _ _ _ oM).trans h9⟩⟩
theorem Hy.D3 (h : Hy w wr l f) (cs : Array Value) : Hy w (wr.setRow (w.heap.size + 1) cs) l cs := by
 obtain ⟨dX, ho, h8⟩ := h.h8
 obtain ⟨uy, Gs, h9⟩ := h.h9
 exact ⟨below_setRow h.below (Nat.le_succ _) _, (setRow_other _ _ _ _ oM).trans h.h, setRow_heap _ _ _ _ _ _ h.h4, ⟨dX, ho, (setRow_other _ _ _ _ oM).trans h8⟩, ⟨uy, Gs, (setRow_other _ _ _ _ oM).trans h9⟩⟩
theorem Hy.new {o' : Obj} (hV : V = (((w.alloc (.cells l 43)).alloc (.cells f 35)).alloc o).alloc o') (ho : ∃ dX : Array Value, dX.size = 15 ∧ o = .cells dX 43) (Gs : ∃ dX : Array Value, dX.size = 6 ∧ o' = .cells dX 35) : Hy w V l f := by
 obtain ⟨dX, h1, rfl⟩ := ho
 obtain ⟨uy, JY, rfl⟩ := Gs
 subst hV
 have s1 : ∀ (w : World) (o : Obj), (w.alloc o).heap.size = w.heap.size + 1 := fun w o => Array.size_push _
 have hA := fun (w : World) (o : Obj) (i : Nat) (hi : i < w.heap.size) => heap_alloc_old w o hi
 have hN := fun (w : World) (o : Obj) => heap_alloc_new w o
 refine ⟨?_, ?_, ?_, ⟨dX, h1, ?_⟩, ⟨uy, JY, ?_⟩⟩
 ·exact (((ck w _ _).alloc (by rw [s1, s1]; omega) _).alloc (by rw [s1, s1, s1]; omega) _)
 ·rw [hA _ _ _ (by rw [s1, s1, s1]; omega), hA _ _ _ (by rw [s1, s1]; omega), hA _ _ _ (by rw [s1]; omega)]
  exact hN _ _
 ·rw [hA _ _ _ (by rw [s1, s1, s1]; omega), hA _ _ _ (by rw [s1, s1]; omega)]
  have := hN (w.alloc (.cells l 43)) (.cells f 35)
  rw [s1] at this
  exact this
 ·rw [hA _ _ _ (by rw [s1, s1, s1]; omega)]
  have := hN ((w.alloc (.cells l 43)).alloc (.cells f 35)) (.cells dX 43)
  rw [s1, s1] at this
  exact this
 have := hN (((w.alloc (.cells l 43)).alloc (.cells f 35)).alloc (.cells dX 43)) (.cells uy 35)
 rw [s1, s1, s1] at this
 exact this
end
theorem B3 (a1 a4 : Int) (Q0 Q2 Q5 : Option Addr) (n0 c0 n2 c2 n5 c5 : Nat) (b : Bool) :
 (#[Value.slice Q0 n0 c0, .int .i64 a1, .slice Q2 n2 c2, .bool b, .int .i64 a4, .slice Q5 n5 c5].all (·.oneCell')) = true := by
 simp [Value.oneCell']
theorem ah.row (w : World) (g : Nat) (cs : Array Value) (h : X g) : ah X w (w.setRow g cs) :=
 ⟨by rw [size_setRow]; exact Nat.le_refl _, fun k _ hk => setRow_other w g k cs (fun e => hk (e ▸ h))⟩
theorem cf.ao (h : cf X w x g) (k : ah X w w') : cf X w' x g :=
 ⟨h.ok, h.a.ao k, h.a1, h.a2, h.b.ao k, h.b1, h.b2, h.p.ao k, h.p1, h.p2⟩
def XN (X : Nat → Prop) (N : Nat) (b : Nat) : Prop := X b ∨ (N ≤ b ∧ b ≤ N + 3)
theorem XN.lt (h : ∀ b, X b → b < N) (hM : N + 3 < M) : ∀ b, XN X N b → b < M := fun b hb => by
 rcases hb with h1 | h1
 ·have := h b h1
  omega
 omega
theorem cn.xn (h : cn X w A xs) (hb : bW w w') : cn (XN X w.heap.size) w' A xs := fun hx => by
 obtain ⟨b, off, e, aW, hn, hc⟩ := h hx
 refine ⟨b, off, e, Nat.lt_of_lt_of_le aW hb.size, fun hk => ?_, fun j u hu => (hb.cell (p := ⟨b, off + j, none⟩) aW).trans (hc j u hu)⟩
 rcases hk with h1 | h1
 ·exact hn h1
 omega
theorem cf.xn (h : cf X w x g) (hb : bW w w') : cf (XN X w.heap.size) w' x g :=
 ⟨h.ok, h.a.xn hb, h.a1, h.a2, h.b.xn hb, h.b1, h.b2, h.p.xn hb, h.p1, h.p2⟩
theorem cf.N3 (h : cf (XN X N) w x g) : cf X w x g := h.cX (fun _ => .inl)
theorem ve (X : Nat → Prop) (N : Nat) : XN X N N := .inr ⟨Nat.le_refl _, Nat.le_add_right _ _⟩
theorem Rm (X : Nat → Prop) (N : Nat) : XN X N (N + 1) := .inr ⟨Nat.le_add_right _ _, oM⟩
theorem Rl (X : Nat → Prop) (N : Nat) : XN X N (N + 2) := .inr ⟨Nat.le_add_right _ _, oM⟩
theorem Rk (X : Nat → Prop) (N : Nat) : XN X N (N + 3) := .inr ⟨Nat.le_add_right _ _, oM⟩
theorem Hy.My {wr : World} {a' b' c' d' e' u' : Value} (h : Hy w wr l #[a', b', c', d', e', u']) (a b c d e u : Value) :
 Hy w ((((((wr.setCell ⟨w.heap.size + 1, 0, none⟩ a).setCell ⟨w.heap.size + 1, 1, none⟩ b).setCell ⟨w.heap.size + 1, 2, none⟩ c).setCell ⟨w.heap.size + 1, 3, none⟩ d).setCell ⟨w.heap.size + 1, 4, none⟩ e).setCell ⟨w.heap.size + 1, 5, none⟩ u) l #[a, b, c, d, e, u] :=
 (((((h.BF 0 a).BF 1 b).BF 2 c).BF 3 d).BF 4 e).BF 5 u
theorem ah.My (w : World) (D : Nat) (a b c d e u : Value) (h : X D) :
 ah X w ((((((w.setCell ⟨D, 0, none⟩ a).setCell ⟨D, 1, none⟩ b).setCell ⟨D, 2, none⟩ c).setCell ⟨D, 3, none⟩ d).setCell ⟨D, 4, none⟩ e).setCell ⟨D, 5, none⟩ u) :=
 (((((ah.set _ ⟨D, 0, none⟩ _ h).trans (ah.set _ ⟨D, 1, none⟩ _ h)).trans (ah.set _ ⟨D, 2, none⟩ _ h)).trans (ah.set _ ⟨D, 3, none⟩ _ h)).trans (ah.set _ ⟨D, 4, none⟩ _ h)).trans (ah.set _ ⟨D, 5, none⟩ _ h)
theorem Hy.ret (h : Hy w0 w l f) (Y : Nat → Prop) : ∃ V, (w.drew.setRow (w0.heap.size + 2) l).setRow (w0.heap.size + 3) f = V ∧ ah (XN Y w0.heap.size) w V ∧ bW w0 V ∧
 (w.drew.heap[w0.heap.size]? = some (.cells l 43 (0, 0)) ∧ w.drew.heap[w0.heap.size + 1]? = some (.cells f 35 (0, 0))) ∧
 (∃ o : Array Value, o.size = 15 ∧ w.drew.heap[w0.heap.size + 2]? = some (.cells o 43 (0, 0))) ∧ (∃ o : Array Value, o.size = 6 ∧ (w.drew.setRow (w0.heap.size + 2) l).heap[w0.heap.size + 3]? = some (.cells o 35 (0, 0))) ∧
 ((w.drew.setRow (w0.heap.size + 2) l).heap[w0.heap.size]? = some (.cells l 43 (0, 0)) ∧ (w.drew.setRow (w0.heap.size + 2) l).heap[w0.heap.size + 1]? = some (.cells f 35 (0, 0))) ∧
 (V.heap[w0.heap.size]? = some (.cells l 43 (0, 0)) ∧ V.heap[w0.heap.size + 1]? = some (.cells f 35 (0, 0))) ∧ V.heap[w0.heap.size + 2]? = some (.cells l 43 (0, 0)) ∧ V.heap[w0.heap.size + 3]? = some (.cells f 35 (0, 0)) := by
 have HD := h.ab fT
 obtain ⟨o8, iF, jV⟩ := HD.h8
 obtain ⟨o9, kd, Nl⟩ := HD.h9
 have a0 := (setRow_other w.drew (w0.heap.size + 2) w0.heap.size l oM).trans HD.h
 have a1 := (setRow_other w.drew (w0.heap.size + 2) (w0.heap.size + 1) l oM).trans HD.h4
 have a3 := (setRow_other w.drew (w0.heap.size + 2) (w0.heap.size + 3) l oM).trans Nl
 exact ⟨_, rfl, ((ah.ak fT).trans (ah.row _ _ _ (Rl _ _))).trans (ah.row _ _ _ (Rk _ _)), below_setRow (below_setRow HD.below oM _) oM _, ⟨HD.h, HD.h4⟩, ⟨o8, iF, jV⟩, ⟨o9, kd, a3⟩, ⟨a0, a1⟩,
  ⟨(setRow_other _ _ _ _ oM).trans a0, (setRow_other _ _ _ _ oM).trans a1⟩, (setRow_other _ _ _ _ oM).trans (setRow_heap _ _ _ _ _ _ jV), setRow_heap _ _ _ _ _ _ a3⟩
theorem BH {p : Prop} {X : World → Prop} (Y : Nat → Prop) (HY : Hid (Hy w0 w l f)) (post : ∀ w', ah (XN Y w0.heap.size) w w' → bW w0 w' → X w') 
 (h : Hid (Hy w0 w l f) → (∀ w', ah (XN Y w0.heap.size) w w' → bW w0 w' → X w') → p := by
  intro HY post
  obtain ⟨V, hV, o, b, h0, ⟨o8, e8, k8⟩, ⟨o9, e9, k9⟩, h1, h2, r8, r9⟩ := Hy.ret (Hid.out HY) _
  refine wp_region_held_drew (S := fun w' => w'.heap[(_ : Nat)]? = some (Obj.cells _ 43 (0, 0)) ∧ w'.heap[(_ : Nat)]? = some (Obj.cells _ 35 (0, 0))) (by kernel_rfl) h0 (fun _ => ?_)
  refine tL 0 _ rfl (bF rfl 43 _ rfl _ rfl 43 _ (0, 0) _ (fun _ h => h.1) underlying43 rfl aP) h0 ?_
  refine tL 1 _ rfl (bF rfl 35 _ rfl _ rfl 35 _ (0, 0) _ (fun _ h => h.2) underlying35 rfl dK) h0 ?_
  refine cR (i := 2) (by kernel_rfl) rfl (by rfl) rfl 43 _ _ rfl _ _ o8 rfl rfl 43 k8 aP e8 (iv ..) h1 ?_
  refine cR (i := 3) (by kernel_rfl) rfl (by rfl) rfl 35 _ _ rfl _ _ o9 rfl rfl 35 k9 dK e9 (B3 ..) (hV ▸ h2) ?_
  rw [hV]
  refine tV 4 _ h2 ?_ (k := M9 (he := fun _ => rfl))
  refine tV 5 _ h2 ?_ (k := M9 (he := fun _ => rfl))
  refine wD ?_
  go_wp2
  (try simp only [Exit.inBlock, Exit.then])
  exact bodyPost_ret (zv rfl _ _ _ _ 43 35 _ _ _ _ rfl rfl r8 r9 underlying43 rfl aP underlying35 rfl dK) rfl (post V o b)) : p := h HY post
theorem NK (w : World) (q : Qv) (s : St) (x : Rc) (g : Fl) :
 Calls prog 84 #[.agg (Pk q s true), .agg (aX x g)] w fun e w' => e = .returned (.tuple #[.agg (Pk q s true), .agg (aX x g), .bool false, .int .i64 20]) ∧ bW w w' := by
 obtain ⟨W, hW⟩ := ex ((((w.alloc (.cells (Pk q s true) 43)).alloc (.cells (aX x g) 35)).alloc (.cells qt 43)).alloc (.cells Bh 35))
 have HY := iD (Hy.new hW.symm ⟨_, rfl, rfl⟩ ⟨_, rfl, rfl⟩)
 have tQ := HY.row 14 rfl
 go_enter func84, ntmps84
 go_upto_region 2 with (fail)
 try rw [hW]
 clear hW
 refine BH (fun _ => False) HY ?_
 exact fun _ o b => ⟨rfl, b⟩
theorem NG (w : World) (q : Qv) (s : St) (x : Rc) (g : Fl) (c5 : Nat) :
 Calls prog 84 #[.agg (ui q s (.slice q.Q5 0 c5) q.pg q.er false), .agg (aX x g)] w fun e w' => e = .returned (.tuple #[.agg (ui q s (.slice q.Q5 0 c5) q.pg q.er false), .agg (aX x g), .bool false, .int .i64 12]) ∧ bW w w' := by
 obtain ⟨W, hW⟩ := ex ((((w.alloc (.cells (ui q s (.slice q.Q5 0 c5) q.pg q.er false) 43)).alloc (.cells (aX x g) 35)).alloc (.cells qt 43)).alloc (.cells Bh 35))
 have HY := iD (Hy.new hW.symm ⟨_, rfl, rfl⟩ ⟨_, rfl, rfl⟩)
 have tQ := HY.row 14 rfl
 have r9 := HY.row 9 rfl
 go_enter func84, ntmps84
 go_upto_region 4 with (fail)
 try rw [hW]
 clear hW
 refine BH (fun _ => False) HY ?_
 exact fun _ o b => ⟨rfl, b⟩
theorem NJ (w : World) (q : Qv) (s : St) (x : Rc) (g : Fl) (hR : cf X w x g) (hX : ∀ b, X b → b < w.heap.size) (m c5 gh : Nat) (hm : 0 < m) (Si : m ≤ 8) (Wr : gh ≤ 1000) (g9 : Fl) (k9 : Int) (hE : aT g gh = (g9, k9)) :
 Calls prog 84 #[.agg (ui q s (.slice q.Q5 m c5) q.pg (gh : Int) false), .agg (aX x g)] w fun e w' => ∃ y9 : Rc, cf X w' y9 g9 ∧ bW w w' ∧
  (k9 = 0 → e = .returned (.tuple #[.agg (ui q s (.slice q.Q5 m c5) q.pg (-1) false), .agg (aX y9 g9), .bool false, .int .i64 0])) ∧
  (k9 ≠ 0 → e = .returned (.tuple #[.agg (ui q s (.slice q.Q5 m c5) q.pg (gh : Int) true), .agg (aX y9 g9), .bool false, .int .i64 20])) := by
 obtain ⟨W, hW⟩ := ex ((((w.alloc (.cells (ui q s (.slice q.Q5 m c5) q.pg (gh : Int) false) 43)).alloc (.cells (aX x g) 35)).alloc (.cells qt 43)).alloc (.cells Bh 35))
 have HY := iD (Hy.new hW.symm ⟨_, rfl, rfl⟩ ⟨_, rfl, rfl⟩)
 have tQ := HY.row 14 rfl
 have r9 := HY.row 9 rfl
 have AW := HY.row 11 rfl
 have hsz := HY.lt
 have nn := iD (ql (hR.xn HY.below) (XN.lt hX hsz) (gh : Int))
 rw [hE] at nn
 simp only at nn
 clear hR hX hE hsz
 go_enter func84, ntmps84
 go_upto_region 7 with (fail)
 try rw [hW]
 clear hW
 refine wp_region_list ?_
 refine wpList_load_row rfl 35 _ rfl (w.heap.size + 1) rfl 35 _ (0, 0) _ HY.h4 underlying35 rfl dK ?_
 go_wp2_with (fail)
 refine nn.mono ?_
 rintro e w9 ⟨y9, rfl, Gy, lS⟩
 have iG := iD (HY.ab lS)
 have mD := iD Gy
 clear lS Gy tQ r9 AW
 have f0 := iG.ll 0 rfl
 have e0 := iG.Ux 0
 have f1 := iG.ll 1 rfl
 have e1 := iG.Ux 1
 have f2 := iG.ll 2 rfl
 have e2 := iG.Ux 2
 have f3 := iG.ll 3 rfl
 have e3 := iG.Ux 3
 have f4 := iG.ll 4 rfl
 have e4 := iG.Ux 4
 have f5 := iG.ll 5 rfl
 have e5 := iG.Ux 5
 by_cases hk : k9 = 0
 ·have hk' : (k9 == 0) = true := by simpa using hk
  have HK := iD hk
  clear hk
  go_upto_region 9 with (fail)
  clear f0 f1 f2 f3 f4 f5 e0 e1 e2 e3 e4 e5
  have js := iD (iG.My (.slice y9.A g9.img.length y9.c) (.int .i64 g9.pg) (.slice y9.B g9.aq.length y9.d) (.bool g9.aF) (.int .i64 g9.be) (.slice y9.P g9.az.length y9.r))
  have mD := iD (mD.ao (ah.My w9 (w.heap.size + 1) (.slice y9.A g9.img.length y9.c) (.int .i64 g9.pg) (.slice y9.B g9.aq.length y9.d) (.bool g9.aF) (.int .i64 g9.be) (.slice y9.P g9.az.length y9.r) (Rm _ _)))
  generalize ((((((w9.setCell ⟨w.heap.size + 1, 0, none⟩ (.slice y9.A g9.img.length y9.c)).setCell ⟨w.heap.size + 1, 1, none⟩ (.int .i64 g9.pg)).setCell ⟨w.heap.size + 1, 2, none⟩ (.slice y9.B g9.aq.length y9.d)).setCell ⟨w.heap.size + 1, 3, none⟩ (.bool g9.aF)).setCell ⟨w.heap.size + 1, 4, none⟩ (.int .i64 g9.be)).setCell ⟨w.heap.size + 1, 5, none⟩ (.slice y9.P g9.az.length y9.r)) = V at js mD ⊢
  have AW := js.row 11 rfl
  have Kd := js.fz 11
  go_upto_region 10 with (fail)
  have fJ : Hid (Hy w (V.setCell ⟨w.heap.size, 11, none⟩ (.int .i64 (-1))) (ui q s (.slice q.Q5 m c5) q.pg (-1) false) (aX y9 g9)) := js.set 11 (.int .i64 (-1))
  have mD := iD (mD.ao (ah.set V ⟨w.heap.size, 11, none⟩ (.int .i64 (-1)) (ve _ _)))
  generalize V.setCell ⟨w.heap.size, 11, none⟩ (.int .i64 (-1)) = V1 at fJ mD ⊢
  clear AW Kd
  refine BH X fJ ?_
  exact fun _ o b => ⟨y9, (mD.ao o).N3, b, fun _ => rfl, fun h => absurd HK.out h⟩
 have hk' : (k9 == 0) = false := by simpa using hk
 have Uh : (k9 != 0) = true := by simpa using hk
 have HK := iD hk
 clear hk
 go_upto_region 13 with (fail)
 clear f0 f1 f2 f3 f4 f5 e0 e1 e2 e3 e4 e5
 have js := iD (iG.My (.slice y9.A g9.img.length y9.c) (.int .i64 g9.pg) (.slice y9.B g9.aq.length y9.d) (.bool g9.aF) (.int .i64 g9.be) (.slice y9.P g9.az.length y9.r))
 have mD := iD (mD.ao (ah.My w9 (w.heap.size + 1) (.slice y9.A g9.img.length y9.c) (.int .i64 g9.pg) (.slice y9.B g9.aq.length y9.d) (.bool g9.aF) (.int .i64 g9.be) (.slice y9.P g9.az.length y9.r) (Rm _ _)))
 generalize ((((((w9.setCell ⟨w.heap.size + 1, 0, none⟩ (.slice y9.A g9.img.length y9.c)).setCell ⟨w.heap.size + 1, 1, none⟩ (.int .i64 g9.pg)).setCell ⟨w.heap.size + 1, 2, none⟩ (.slice y9.B g9.aq.length y9.d)).setCell ⟨w.heap.size + 1, 3, none⟩ (.bool g9.aF)).setCell ⟨w.heap.size + 1, 4, none⟩ (.int .i64 g9.be)).setCell ⟨w.heap.size + 1, 5, none⟩ (.slice y9.P g9.az.length y9.r)) = V at js mD ⊢
 have tQ := js.row 14 rfl
 have G3 := js.fz 14
 go_upto_region 14 with (fail)
 have fJ : Hid (Hy w (V.setCell ⟨w.heap.size, 14, none⟩ (.bool true)) (ui q s (.slice q.Q5 m c5) q.pg (gh : Int) true) (aX y9 g9)) := js.set 14 (.bool true)
 have mD := iD (mD.ao (ah.set V ⟨w.heap.size, 14, none⟩ (.bool true) (ve _ _)))
 generalize V.setCell ⟨w.heap.size, 14, none⟩ (.bool true) = V1 at fJ mD ⊢
 clear tQ G3
 refine BH X fJ ?_
 exact fun _ o b => ⟨y9, (mD.ao o).N3, b, fun h => absurd h HK, fun _ => rfl⟩
theorem NH (w : World) (q : Qv) (s : St) (x : Rc) (g : Fl) (hR : cf X w x g) (hX : ∀ b, X b → b < w.heap.size) (bp op m c5 pn : Nat) (hm : 0 < m) (Si : m ≤ 8) (hmc : m ≤ c5) (Nn : c5 ≤ maxLen) (zU : pn ≤ 2000) 
 (Qp : Option Addr) (cp : Nat) (pb : List Int) (eI : w.cell? ⟨bp, op, none⟩ = some (.slice Qp 64 cp)) (JT : cn X w Qp (ag .u8 pb)) (fQ : pb.length = 64) (zY : 64 ≤ cp) (fS : cp ≤ maxLen) (qz : Bytes pb) (g9 : Fl) (k9 : Int) (hE : bz g pn pb = (g9, k9)) (hk : k9 ≠ 0) :
 Calls prog 84 #[.agg (ui q s (.slice (some ⟨bp, op, none⟩) m c5) (pn : Int) (-1) false), .agg (aX x g)] w fun e w' => ∃ y9 : Rc, cf X w' y9 g9 ∧ bW w w' ∧ e = .returned (.tuple #[.agg (ui q s (.slice (some ⟨bp, op, none⟩) m c5) (pn : Int) (-1) true), .agg (aX y9 g9), .bool false, .int .i64 20]) := by
 have Uh : (k9 != 0) = true := by simpa using hk
 clear hk
 obtain ⟨W, hW⟩ := ex ((((w.alloc (.cells (ui q s (.slice (some ⟨bp, op, none⟩) m c5) (pn : Int) (-1) false) 43)).alloc (.cells (aX x g) 35)).alloc (.cells qt 43)).alloc (.cells Bh 35))
 have HY := iD (Hy.new hW.symm ⟨_, rfl, rfl⟩ ⟨_, rfl, rfl⟩)
 have tQ := HY.row 14 rfl
 have r9 := HY.row 9 rfl
 have AW := HY.row 11 rfl
 have yw := HY.row 10 rfl
 have hsz := HY.lt
 have gj : Hid (bW w W.drew) := HY.below.trans ((Below.drew bV).mono HY.below.size)
 have mz := iD (ml (hR.xn gj) (XN.lt hX hsz) (pn : Int) Qp 64 cp pb (JT.xn gj).rd fQ zY fS qz)
 rw [hE] at mz
 simp only at mz
 have aW := World.block_lt_of_cell? w _ eI
 have DE : Hid (∀ W', bW w W' → W'.cell? ⟨bp, op, none⟩ = some (.slice Qp 64 cp)) := fun W' hb => (hb.cell (p := ⟨bp, op, none⟩) aW).trans eI
 have nQ : (0 : Int) < (m : Int) := oM
 unfold maxLen at Nn fS
 have k0 := DE _ gj
 have tP := (HY.ab fT).row 9 rfl
 have jy := (HY.ab fT).row 10 rfl
 have jh := iD (HY.ab fT)
 clear hR hX hE hsz eI JT fQ zY qz
 go_enter func84, ntmps84
 go_upto_region 11 with (fail)
 try rw [hW]
 clear hW
 refine wp_region_held (S := fun W' => W'.cell? ⟨w.heap.size, 9, none⟩ = some (.slice (some ⟨bp, op, none⟩) m c5) ∧ W'.cell? ⟨w.heap.size, 10, none⟩ = some (.int .i64 (pn : Int)) ∧ W'.cell? ⟨bp, op, none⟩ = some (.slice Qp 64 cp)) (by kernel_rfl) ?_
 change wpAnyH _ _ _ _ _ _ _ _ (World.drew _)
 refine tG 1 (.pointer (some ⟨w.heap.size, 10, none⟩)) ⟨tP, jy, k0⟩ ?_
 refine tG 3 (.pointer (some ⟨w.heap.size, 9, none⟩)) ⟨tP, jy, k0⟩ ?_
 refine tG 2 (.int .i64 (pn : Int)) ⟨tP, jy, k0⟩ ?_
 refine tG 4 (.slice (some ⟨bp, op, none⟩) m c5) ⟨tP, jy, k0⟩ ?_
 refine tG 5 (.pointer (some ⟨bp, op, none⟩)) ⟨tP, jy, k0⟩ ?_
 refine tG 6 (.slice Qp 64 cp) ⟨tP, jy, k0⟩ ?_
 refine nD (i := 0) (by kernel_rfl) rfl (by rfl) 35 _ rfl (w.heap.size + 1) rfl 35 (aX x g) _ jh.h4 underlying35 rfl dK ⟨tP, jy, k0⟩ ?_
 change wpAnyH _ _ _ _ _ _ _ (Act.put _ (some 35) _) _
 simp only [nm]
 refine jw (i := 7) (al := [.agg (aX x g), .int .i64 (pn : Int), .slice Qp 64 cp]) (by kernel_rfl) rfl (by rfl) _ _ rfl (by rfl) Ah ?_
 refine mz.mono ?_
 rintro e w9 ⟨y9, rfl, Gy, lS⟩
 have iG := iD (jh.ab lS)
 have mD := iD Gy
 have js := iD (iG.D3 (aX y9 g9))
 have jY := iD (mD.ao (ah.row w9 (w.heap.size + 1) (aX y9 g9) (Rm _ _)))
 have S9 := iD (And.intro (iG.row 9 rfl) (And.intro (iG.row 10 rfl) (DE _ iG.below)))
 have T9 := iD (And.intro (js.row 9 rfl) (And.intro (js.row 10 rfl) (DE _ js.below)))
 refine rW S9 ?_
 refine tG 8 (.tuple #[.agg (aX y9 g9), .int .i64 k9]) S9 ?_
 refine tG 9 (.agg (aX y9 g9)) S9 ?_
 refine tG 10 (.int .i64 k9) S9 ?_
 refine cR (i := 11) (by kernel_rfl) rfl (by rfl) rfl 35 _ _ rfl (w.heap.size + 1) (aX y9 g9) (aX x g) rfl rfl 35 iG.h4 dK rfl (B3 ..) T9 ?_
 refine tG 12 (.int .i64 k9) T9 ?_
 refine wD ?_
 clear r9 yw AW tQ tP jy k0 Gy lS
 generalize w9.setRow (w.heap.size + 1) (aX y9 g9) = V at js jY ⊢
 have tQ := js.row 14 rfl
 have G3 := js.fz 14
 go_upto_region 14 with (fail)
 have fJ : Hid (Hy w (V.setCell ⟨w.heap.size, 14, none⟩ (.bool true)) (ui q s (.slice (some ⟨bp, op, none⟩) m c5) (pn : Int) (-1) true) (aX y9 g9)) := js.set 14 (.bool true)
 have mD := iD (jY.ao (ah.set V ⟨w.heap.size, 14, none⟩ (.bool true) (ve _ _)))
 generalize V.setCell ⟨w.heap.size, 14, none⟩ (.bool true) = V1 at fJ mD ⊢
 clear tQ G3
 refine BH X fJ ?_
 exact fun _ o b => ⟨y9, (mD.ao o).N3, b, rfl⟩
theorem ND (w : World) (q : Qv) (s : St) (x : Rc) (g : Fl) (hR : cf X w x g) (hX : ∀ b, X b → b < w.heap.size) (bp op m c5 pn : Nat) (hm : 0 < m) (Si : m ≤ 8) (hmc : m ≤ c5) (Nn : c5 ≤ maxLen) (zU : pn ≤ 2000) 
 (Qp : Option Addr) (cp : Nat) (pb : List Int) (eI : w.cell? ⟨bp, op, none⟩ = some (.slice Qp 64 cp)) (JT : cn X w Qp (ag .u8 pb)) (fQ : pb.length = 64) (zY : 64 ≤ cp) (fS : cp ≤ maxLen) (qz : Bytes pb) (g9 : Fl) (k9 : Int) (hE : bz g pn pb = (g9, k9)) (hk : k9 = 0) (JO : 2 ≤ m) :
 Calls prog 84 #[.agg (ui q s (.slice (some ⟨bp, op, none⟩) m c5) (pn : Int) (-1) false), .agg (aX x g)] w fun e w' => ∃ y9 : Rc, cf X w' y9 g9 ∧ bW w w' ∧ e = .returned (.tuple #[.agg (ui q s (.slice (some ⟨bp, op + 1, none⟩) (m - 1) (c5 - 1)) ((pn : Int) + 1) (-1) false), .agg (aX y9 g9), .bool false, .int .i64 0]) := by
 have Uh : (k9 != 0) = false := by simpa using hk
 clear hk
 obtain ⟨W, hW⟩ := ex ((((w.alloc (.cells (ui q s (.slice (some ⟨bp, op, none⟩) m c5) (pn : Int) (-1) false) 43)).alloc (.cells (aX x g) 35)).alloc (.cells qt 43)).alloc (.cells Bh 35))
 have HY := iD (Hy.new hW.symm ⟨_, rfl, rfl⟩ ⟨_, rfl, rfl⟩)
 have tQ := HY.row 14 rfl
 have r9 := HY.row 9 rfl
 have AW := HY.row 11 rfl
 have yw := HY.row 10 rfl
 have hsz := HY.lt
 have gj : Hid (bW w W.drew) := HY.below.trans ((Below.drew bV).mono HY.below.size)
 have mz := iD (ml (hR.xn gj) (XN.lt hX hsz) (pn : Int) Qp 64 cp pb (JT.xn gj).rd fQ zY fS qz)
 rw [hE] at mz
 simp only at mz
 have aW := World.block_lt_of_cell? w _ eI
 have DE : Hid (∀ W', bW w W' → W'.cell? ⟨bp, op, none⟩ = some (.slice Qp 64 cp)) := fun W' hb => (hb.cell (p := ⟨bp, op, none⟩) aW).trans eI
 have nQ : (0 : Int) < (m : Int) := oM
 unfold maxLen at Nn fS
 have k0 := DE _ gj
 have tP := (HY.ab fT).row 9 rfl
 have jy := (HY.ab fT).row 10 rfl
 have jh := iD (HY.ab fT)
 clear hR hX hE hsz eI JT fQ zY qz
 go_enter func84, ntmps84
 go_upto_region 11 with (fail)
 try rw [hW]
 clear hW
 refine wp_region_held (S := fun W' => W'.cell? ⟨w.heap.size, 9, none⟩ = some (.slice (some ⟨bp, op, none⟩) m c5) ∧ W'.cell? ⟨w.heap.size, 10, none⟩ = some (.int .i64 (pn : Int)) ∧ W'.cell? ⟨bp, op, none⟩ = some (.slice Qp 64 cp)) (by kernel_rfl) ?_
 change wpAnyH _ _ _ _ _ _ _ _ (World.drew _)
 refine tG 1 (.pointer (some ⟨w.heap.size, 10, none⟩)) ⟨tP, jy, k0⟩ ?_
 refine tG 3 (.pointer (some ⟨w.heap.size, 9, none⟩)) ⟨tP, jy, k0⟩ ?_
 refine tG 2 (.int .i64 (pn : Int)) ⟨tP, jy, k0⟩ ?_
 refine tG 4 (.slice (some ⟨bp, op, none⟩) m c5) ⟨tP, jy, k0⟩ ?_
 refine tG 5 (.pointer (some ⟨bp, op, none⟩)) ⟨tP, jy, k0⟩ ?_
 refine tG 6 (.slice Qp 64 cp) ⟨tP, jy, k0⟩ ?_
 refine nD (i := 0) (by kernel_rfl) rfl (by rfl) 35 _ rfl (w.heap.size + 1) rfl 35 (aX x g) _ jh.h4 underlying35 rfl dK ⟨tP, jy, k0⟩ ?_
 change wpAnyH _ _ _ _ _ _ _ (Act.put _ (some 35) _) _
 simp only [nm]
 refine jw (i := 7) (al := [.agg (aX x g), .int .i64 (pn : Int), .slice Qp 64 cp]) (by kernel_rfl) rfl (by rfl) _ _ rfl (by rfl) Ah ?_
 refine mz.mono ?_
 rintro e w9 ⟨y9, rfl, Gy, lS⟩
 have iG := iD (jh.ab lS)
 have mD := iD Gy
 have js := iD (iG.D3 (aX y9 g9))
 have jY := iD (mD.ao (ah.row w9 (w.heap.size + 1) (aX y9 g9) (Rm _ _)))
 have S9 := iD (And.intro (iG.row 9 rfl) (And.intro (iG.row 10 rfl) (DE _ iG.below)))
 have T9 := iD (And.intro (js.row 9 rfl) (And.intro (js.row 10 rfl) (DE _ js.below)))
 refine rW S9 ?_
 refine tG 8 (.tuple #[.agg (aX y9 g9), .int .i64 k9]) S9 ?_
 refine tG 9 (.agg (aX y9 g9)) S9 ?_
 refine tG 10 (.int .i64 k9) S9 ?_
 refine cR (i := 11) (by kernel_rfl) rfl (by rfl) rfl 35 _ _ rfl (w.heap.size + 1) (aX y9 g9) (aX x g) rfl rfl 35 iG.h4 dK rfl (B3 ..) T9 ?_
 refine tG 12 (.int .i64 k9) T9 ?_
 refine wD ?_
 clear r9 yw AW tQ tP jy k0 Gy lS
 generalize w9.setRow (w.heap.size + 1) (aX y9 g9) = V at js jY ⊢
 have r9 := js.row 9 rfl
 have yw := js.row 10 rfl
 have z9 := js.fz 9
 have AS := js.fz 10
 have q1 : (1 : Int) ≤ (m : Int) := oM
 have q2 : (m : Int) ≤ (c5 : Int) := oM
 have q3 : ¬ c5 = 1 := oM
 have q4 : IntKind.i64.wrap ((pn : Int) + 1) = (pn : Int) + 1 := bf _ oM oM
 have q5 : 0 < m - 1 := oM
 go_upto_region 15 with (fail)
 go_region
 clear r9 yw z9 AS
 obtain ⟨V1, Dx⟩ := ex ((V.setCell ⟨w.heap.size, 9, none⟩ (.slice (some ⟨bp, op + 1, none⟩) (m - 1) (c5 - 1))).setCell ⟨w.heap.size, 10, none⟩ (.int .i64 ((pn : Int) + 1))).drew
 have fJ : Hid (Hy w V1 (ui q s (.slice (some ⟨bp, op + 1, none⟩) (m - 1) (c5 - 1)) ((pn : Int) + 1) (-1) false) (aX y9 g9)) := by
  rw [← Dx]
  exact ((js.set 9 (.slice (some ⟨bp, op + 1, none⟩) (m - 1) (c5 - 1))).set 10 (.int .i64 ((pn : Int) + 1))).ab fT
 have mD : Hid (cf (XN X w.heap.size) V1 y9 g9) := by
  rw [← Dx]
  exact jY.ao (((ah.set V ⟨w.heap.size, 9, none⟩ _ (ve _ _)).trans (ah.set _ ⟨w.heap.size, 10, none⟩ _ (ve _ _))).trans (ah.ak fT))
 try rw [Dx]
 clear Dx js jY
 have r9 := fJ.row 9 rfl
 go_upto_region 17 with (fail)
 clear r9
 refine BH X fJ ?_
 exact fun _ o b => ⟨y9, (mD.ao o).N3, b, rfl⟩
theorem NF (w : World) (q : Qv) (s : St) (x : Rc) (g : Fl) (hR : cf X w x g) (hX : ∀ b, X b → b < w.heap.size) (bp op c5 pn : Nat) (hmc : 1 ≤ c5) (Nn : c5 ≤ maxLen) (zU : pn ≤ 2000) (fp : 0 ≤ s.seq) (gC : s.seq < 1099511627776) 
 (Qp : Option Addr) (cp : Nat) (pb : List Int) (eI : w.cell? ⟨bp, op, none⟩ = some (.slice Qp 64 cp)) (JT : cn X w Qp (ag .u8 pb)) (fQ : pb.length = 64) (zY : 64 ≤ cp) (fS : cp ≤ maxLen) (qz : Bytes pb) (g9 : Fl) (k9 : Int) (hE : bz g pn pb = (g9, k9)) (hk : k9 = 0) :
 Calls prog 84 #[.agg (ui q s (.slice (some ⟨bp, op, none⟩) 1 c5) (pn : Int) (-1) false), .agg (aX x g)] w fun e w' => ∃ y9 : Rc, cf X w' y9 g9 ∧ bW w w' ∧ ∃ (Q0 : Option Addr) (c0 : Nat), e = .returned (.tuple #[.agg #[Value.int .i64 s.first, .int .i64 s.aa, .slice q.Q1 s.ax.length q.c1, .slice q.Q2 s.aj.length q.c2, .slice q.Q4 q.n4 q.c4, .int .i64 (s.seq + 1), .int .i64 q.nb, .int .i64 q.ns, .slice q.Q4 q.n4 q.c4, .slice Q0 0 c0, .int .i64 ((pn : Int) + 1), .int .i64 (-1), .int .i64 q.nb, .int .i64 q.ns, .bool false], .agg (aX y9 g9), .bool true, .int .i64 0]) ∧ c0 ≤ maxLen := by
 have Uh : (k9 != 0) = false := by simpa using hk
 clear hk
 obtain ⟨W, hW⟩ := ex ((((w.alloc (.cells (ui q s (.slice (some ⟨bp, op, none⟩) 1 c5) (pn : Int) (-1) false) 43)).alloc (.cells (aX x g) 35)).alloc (.cells qt 43)).alloc (.cells Bh 35))
 have HY := iD (Hy.new hW.symm ⟨_, rfl, rfl⟩ ⟨_, rfl, rfl⟩)
 have tQ := HY.row 14 rfl
 have r9 := HY.row 9 rfl
 have AW := HY.row 11 rfl
 have yw := HY.row 10 rfl
 have hsz := HY.lt
 have gj : Hid (bW w W.drew) := HY.below.trans ((Below.drew bV).mono HY.below.size)
 have mz := iD (ml (hR.xn gj) (XN.lt hX hsz) (pn : Int) Qp 64 cp pb (JT.xn gj).rd fQ zY fS qz)
 rw [hE] at mz
 simp only at mz
 have aW := World.block_lt_of_cell? w _ eI
 have DE : Hid (∀ W', bW w W' → W'.cell? ⟨bp, op, none⟩ = some (.slice Qp 64 cp)) := fun W' hb => (hb.cell (p := ⟨bp, op, none⟩) aW).trans eI
 unfold maxLen at Nn fS
 have k0 := DE _ gj
 have tP := (HY.ab fT).row 9 rfl
 have jy := (HY.ab fT).row 10 rfl
 have jh := iD (HY.ab fT)
 clear hR hX hE hsz eI JT fQ zY qz
 go_enter func84, ntmps84
 go_upto_region 11 with (fail)
 try rw [hW]
 clear hW
 refine wp_region_held (S := fun W' => W'.cell? ⟨w.heap.size, 9, none⟩ = some (.slice (some ⟨bp, op, none⟩) 1 c5) ∧ W'.cell? ⟨w.heap.size, 10, none⟩ = some (.int .i64 (pn : Int)) ∧ W'.cell? ⟨bp, op, none⟩ = some (.slice Qp 64 cp)) (by kernel_rfl) ?_
 change wpAnyH _ _ _ _ _ _ _ _ (World.drew _)
 refine tG 1 (.pointer (some ⟨w.heap.size, 10, none⟩)) ⟨tP, jy, k0⟩ ?_
 refine tG 3 (.pointer (some ⟨w.heap.size, 9, none⟩)) ⟨tP, jy, k0⟩ ?_
 refine tG 2 (.int .i64 (pn : Int)) ⟨tP, jy, k0⟩ ?_
 refine tG 4 (.slice (some ⟨bp, op, none⟩) 1 c5) ⟨tP, jy, k0⟩ ?_
 refine tG 5 (.pointer (some ⟨bp, op, none⟩)) ⟨tP, jy, k0⟩ ?_
 refine tG 6 (.slice Qp 64 cp) ⟨tP, jy, k0⟩ ?_
 refine nD (i := 0) (by kernel_rfl) rfl (by rfl) 35 _ rfl (w.heap.size + 1) rfl 35 (aX x g) _ jh.h4 underlying35 rfl dK ⟨tP, jy, k0⟩ ?_
 change wpAnyH _ _ _ _ _ _ _ (Act.put _ (some 35) _) _
 simp only [nm]
 refine jw (i := 7) (al := [.agg (aX x g), .int .i64 (pn : Int), .slice Qp 64 cp]) (by kernel_rfl) rfl (by rfl) _ _ rfl (by rfl) Ah ?_
 refine mz.mono ?_
 rintro e w9 ⟨y9, rfl, Gy, lS⟩
 have iG := iD (jh.ab lS)
 have mD := iD Gy
 have js := iD (iG.D3 (aX y9 g9))
 have jY := iD (mD.ao (ah.row w9 (w.heap.size + 1) (aX y9 g9) (Rm _ _)))
 have S9 := iD (And.intro (iG.row 9 rfl) (And.intro (iG.row 10 rfl) (DE _ iG.below)))
 have T9 := iD (And.intro (js.row 9 rfl) (And.intro (js.row 10 rfl) (DE _ js.below)))
 refine rW S9 ?_
 refine tG 8 (.tuple #[.agg (aX y9 g9), .int .i64 k9]) S9 ?_
 refine tG 9 (.agg (aX y9 g9)) S9 ?_
 refine tG 10 (.int .i64 k9) S9 ?_
 refine cR (i := 11) (by kernel_rfl) rfl (by rfl) rfl 35 _ _ rfl (w.heap.size + 1) (aX y9 g9) (aX x g) rfl rfl 35 iG.h4 dK rfl (B3 ..) T9 ?_
 refine tG 12 (.int .i64 k9) T9 ?_
 refine wD ?_
 clear r9 yw AW tQ tP jy k0 Gy lS
 generalize w9.setRow (w.heap.size + 1) (aX y9 g9) = V at js jY ⊢
 have q1 : (1 : Int) ≤ (c5 : Int) := oM
 have q4 : IntKind.i64.wrap ((pn : Int) + 1) = (pn : Int) + 1 := bf _ oM oM
 have q5 : IntKind.i64.wrap (s.seq + 1) = s.seq + 1 := bf _ oM oM
 by_cases hc : c5 = 1
 ·subst hc
  have r9 := js.row 9 rfl
  have yw := js.row 10 rfl
  have z9 := js.fz 9
  have AS := js.fz 10
  go_upto_region 15 with (fail)
  go_region
  clear r9 yw z9 AS
  obtain ⟨V1, Dx⟩ := ex ((V.setCell ⟨w.heap.size, 9, none⟩ (.slice (some ⟨bp, op, none⟩) 0 0)).setCell ⟨w.heap.size, 10, none⟩ (.int .i64 ((pn : Int) + 1))).drew
  have fJ : Hid (Hy w V1 (ui q s (.slice (some ⟨bp, op, none⟩) 0 0) ((pn : Int) + 1) (-1) false) (aX y9 g9)) := by
   rw [← Dx]
   exact ((js.set 9 (.slice (some ⟨bp, op, none⟩) 0 0)).set 10 (.int .i64 ((pn : Int) + 1))).ab fT
  have mD : Hid (cf (XN X w.heap.size) V1 y9 g9) := by
   rw [← Dx]
   exact jY.ao (((ah.set V ⟨w.heap.size, 9, none⟩ _ (ve _ _)).trans (ah.set _ ⟨w.heap.size, 10, none⟩ _ (ve _ _))).trans (ah.ak fT))
  try rw [Dx]
  clear Dx js jY
  have r9 := fJ.row 9 rfl
  go_upto_region 18 with (fail)
  clear r9
  have r8 := fJ.row 8 rfl
  have r5 := fJ.row 5 rfl
  have uS := fJ.row 12 rfl
  have xI := fJ.row 13 rfl
  have r4 := fJ.row 4 rfl
  have r6 := fJ.row 6 rfl
  have r7 := fJ.row 7 rfl
  have z4 := fJ.fz 4
  have z5 := fJ.fz 5
  have z6 := fJ.fz 6
  have z7 := fJ.fz 7
  go_upto_region 19 with (fail)
  clear r8 r5 uS xI r4 r6 r7 z4 z5 z6 z7
  have MD : Hid (Hy w ((((V1.setCell ⟨w.heap.size, 4, none⟩ (.slice q.Q4 q.n4 q.c4)).setCell ⟨w.heap.size, 5, none⟩ (.int .i64 (s.seq + 1))).setCell ⟨w.heap.size, 6, none⟩ (.int .i64 q.nb)).setCell ⟨w.heap.size, 7, none⟩ (.int .i64 q.ns)) #[Value.int .i64 s.first, .int .i64 s.aa, .slice q.Q1 s.ax.length q.c1, .slice q.Q2 s.aj.length q.c2, .slice q.Q4 q.n4 q.c4, .int .i64 (s.seq + 1), .int .i64 q.nb, .int .i64 q.ns, .slice q.Q4 q.n4 q.c4, .slice (some ⟨bp, op, none⟩) 0 0, .int .i64 ((pn : Int) + 1), .int .i64 (-1), .int .i64 q.nb, .int .i64 q.ns, .bool false] (aX y9 g9)) := (((fJ.set 4 (.slice q.Q4 q.n4 q.c4)).set 5 (.int .i64 (s.seq + 1))).set 6 (.int .i64 q.nb)).set 7 (.int .i64 q.ns)
  have mD := iD (mD.ao ((((ah.set V1 ⟨w.heap.size, 4, none⟩ (.slice q.Q4 q.n4 q.c4) (ve _ _)).trans (ah.set _ ⟨w.heap.size, 5, none⟩ (.int .i64 (s.seq + 1)) (ve _ _))).trans (ah.set _ ⟨w.heap.size, 6, none⟩ (.int .i64 q.nb) (ve _ _))).trans (ah.set _ ⟨w.heap.size, 7, none⟩ (.int .i64 q.ns) (ve _ _))))
  generalize (((V1.setCell ⟨w.heap.size, 4, none⟩ (.slice q.Q4 q.n4 q.c4)).setCell ⟨w.heap.size, 5, none⟩ (.int .i64 (s.seq + 1))).setCell ⟨w.heap.size, 6, none⟩ (.int .i64 q.nb)).setCell ⟨w.heap.size, 7, none⟩ (.int .i64 q.ns) = V2 at MD mD ⊢
  refine BH X MD ?_
  exact fun _ o b => ⟨y9, (mD.ao o).N3, b, ⟨(some ⟨bp, op, none⟩), 0, rfl, by unfold maxLen; omega⟩⟩
 have r9 := js.row 9 rfl
 have yw := js.row 10 rfl
 have z9 := js.fz 9
 have AS := js.fz 10
 go_upto_region 15 with (fail)
 go_region
 clear r9 yw z9 AS
 obtain ⟨V1, Dx⟩ := ex ((V.setCell ⟨w.heap.size, 9, none⟩ (.slice (some ⟨bp, op + 1, none⟩) 0 (c5 - 1))).setCell ⟨w.heap.size, 10, none⟩ (.int .i64 ((pn : Int) + 1))).drew
 have fJ : Hid (Hy w V1 (ui q s (.slice (some ⟨bp, op + 1, none⟩) 0 (c5 - 1)) ((pn : Int) + 1) (-1) false) (aX y9 g9)) := by
  rw [← Dx]
  exact ((js.set 9 (.slice (some ⟨bp, op + 1, none⟩) 0 (c5 - 1))).set 10 (.int .i64 ((pn : Int) + 1))).ab fT
 have mD : Hid (cf (XN X w.heap.size) V1 y9 g9) := by
  rw [← Dx]
  exact jY.ao (((ah.set V ⟨w.heap.size, 9, none⟩ _ (ve _ _)).trans (ah.set _ ⟨w.heap.size, 10, none⟩ _ (ve _ _))).trans (ah.ak fT))
 try rw [Dx]
 clear Dx js jY
 have r9 := fJ.row 9 rfl
 go_upto_region 18 with (fail)
 clear r9
 have r8 := fJ.row 8 rfl
 have r5 := fJ.row 5 rfl
 have uS := fJ.row 12 rfl
 have xI := fJ.row 13 rfl
 have r4 := fJ.row 4 rfl
 have r6 := fJ.row 6 rfl
 have r7 := fJ.row 7 rfl
 have z4 := fJ.fz 4
 have z5 := fJ.fz 5
 have z6 := fJ.fz 6
 have z7 := fJ.fz 7
 go_upto_region 19 with (fail)
 clear r8 r5 uS xI r4 r6 r7 z4 z5 z6 z7
 have MD : Hid (Hy w ((((V1.setCell ⟨w.heap.size, 4, none⟩ (.slice q.Q4 q.n4 q.c4)).setCell ⟨w.heap.size, 5, none⟩ (.int .i64 (s.seq + 1))).setCell ⟨w.heap.size, 6, none⟩ (.int .i64 q.nb)).setCell ⟨w.heap.size, 7, none⟩ (.int .i64 q.ns)) #[Value.int .i64 s.first, .int .i64 s.aa, .slice q.Q1 s.ax.length q.c1, .slice q.Q2 s.aj.length q.c2, .slice q.Q4 q.n4 q.c4, .int .i64 (s.seq + 1), .int .i64 q.nb, .int .i64 q.ns, .slice q.Q4 q.n4 q.c4, .slice (some ⟨bp, op + 1, none⟩) 0 (c5 - 1), .int .i64 ((pn : Int) + 1), .int .i64 (-1), .int .i64 q.nb, .int .i64 q.ns, .bool false] (aX y9 g9)) := (((fJ.set 4 (.slice q.Q4 q.n4 q.c4)).set 5 (.int .i64 (s.seq + 1))).set 6 (.int .i64 q.nb)).set 7 (.int .i64 q.ns)
 have mD := iD (mD.ao ((((ah.set V1 ⟨w.heap.size, 4, none⟩ (.slice q.Q4 q.n4 q.c4) (ve _ _)).trans (ah.set _ ⟨w.heap.size, 5, none⟩ (.int .i64 (s.seq + 1)) (ve _ _))).trans (ah.set _ ⟨w.heap.size, 6, none⟩ (.int .i64 q.nb) (ve _ _))).trans (ah.set _ ⟨w.heap.size, 7, none⟩ (.int .i64 q.ns) (ve _ _))))
 generalize (((V1.setCell ⟨w.heap.size, 4, none⟩ (.slice q.Q4 q.n4 q.c4)).setCell ⟨w.heap.size, 5, none⟩ (.int .i64 (s.seq + 1))).setCell ⟨w.heap.size, 6, none⟩ (.int .i64 q.nb)).setCell ⟨w.heap.size, 7, none⟩ (.int .i64 q.ns) = V2 at MD mD ⊢
 refine BH X MD ?_
 exact fun _ o b => ⟨y9, (mD.ao o).N3, b, ⟨(some ⟨bp, op + 1, none⟩), (c5 - 1), rfl, by unfold maxLen; omega⟩⟩
theorem lU.Ru {b o : Nat} {p : List Int} {ps : List (List Int)} (h : lU X w (some ⟨b, o, none⟩) (p :: ps)) : lU X w (some ⟨b, o + 1, none⟩) ps := by
 obtain ⟨vs, h1, h2, h3⟩ := h
 obtain ⟨v, vs, rfl⟩ : ∃ v vs', vs = v :: vs' := by
  cases vs with
  | nil => simp at h2
  | cons v vs => exact ⟨v, vs, rfl⟩
 refine ⟨vs, fun hx => ?_, by simpa using h2, fun i q hq => ?_⟩
 ·obtain ⟨b', off, e, aW, hn, hc⟩ := h1 (by simp)
  injection e with e
  injection e with e1 e2
  subst e1
  subst e2
  refine ⟨b, o + 1, rfl, aW, hn, fun j u hu => ?_⟩
  have := hc (j + 1) u (by simpa using hu)
  rw [show o + 1 + j = o + (j + 1) by omega]
  exact this
 obtain ⟨Q, m, c, a1, a2⟩ := h3 (i + 1) q (by simpa using hq)
 exact ⟨Q, m, c, by simpa using a1, a2⟩
theorem Hd (hb : s.af = true) : aI s g = (s, g, false, 20) := by unfold aI; rw [iP hb]
theorem DS (hb : s.af = false) (hu : s.bt = false) : aI s g = (s, g, false, 12) := by unfold aI; rw [iN (by rw [hb]; decide), iP hu]
theorem tI {k : Int} (hb : s.af = false) (hu : s.bt = true) (ho : eV s g = (g9, k)) (hk : k ≠ 0) : aI s g = ({ ct s with af := true }, g9, false, 20) := by
 unfold aI
 rw [iN (by rw [hb]; decide), iN (by rw [hu]; decide), ho, iP hk]
theorem Bz (hb : s.af = false) (hu : s.bt = true) (ho : eV s g = (g9, 0)) (hk : (ct s).done < (ct s).bZ.length) : aI s g = (ct s, g9, false, 0) := by
 unfold aI
 rw [iN (by rw [hb]; decide), iN (by rw [hu]; decide), ho, iN (by simp), iP hk]
theorem Hc (hb : s.af = false) (hu : s.bt = true) (ho : eV s g = (g9, 0)) (hk : ¬ (ct s).done < (ct s).bZ.length) : aI s g = (kO (ct s), g9, true, 0) := by
 unfold aI
 rw [iN (by rw [hb]; decide), iN (by rw [hu]; decide), ho, iN (by simp), iN hk]
theorem Kr {q : Qv} (h : ic X w q s g.pg) (hR : cf X w x g) (ho : bD g s) (hX : ∀ b, X b → b < w.heap.size) :
 Calls prog 84 #[q.v s, x.v g] w fun e w' => ∃ (q' : Qv) (y : Rc), e = .returned (.tuple #[q'.v (aI s g).1, y.v (aI s g).2.1, .bool (aI s g).2.2.1, .int .i64 (aI s g).2.2.2]) ∧ ic X w' q' (aI s g).1 g.pg ∧ cf X w' y (aI s g).2.1 ∧ bW w w' := by
 by_cases hb : s.af = true
 ·rw [Hd hb]
  have := NK w q s x g
  unfold Qv.v
  rw [hb]
  exact this.mono fun e w' ⟨h1, h2⟩ => ⟨q, x, h1, h.below h2, hR.below h2, h2⟩
 have cU : s.af = false := by simpa using hb
 by_cases hu : s.bt = true
 rotate_left
 ·have pY : s.bt = false := by simpa using hu
  have hn := h.no cU pY
  rw [DS cU pY]
  have := NG w q s x g q.c5
  unfold Qv.v
  rw [cU, hn]
  exact this.mono fun e w' ⟨h1, h2⟩ => ⟨q, x, by rw [h1, hn], h.below h2, hR.below h2, h2⟩
 have hw := h.wr cU hu
 have qc := ho.dn hu cU
 have fQ := ho.pl hu
 have jG := ho.k8
 have JN : q.n5 = s.k - s.done := by rw [← hw.pl, List.length_drop, fQ]
 have lG := hR.ok.b2
 have xN := hR.ok.p2
 have Dt := ho.fb
 have YI := ho.tb
 have R0 := ho.ts
 have iA := ho.oD YI R0
 have hwp : g.aq.length * g.pg ≤ 64 * 16 := Nat.mul_le_mul lG xN
 by_cases he : s.erase = true
 ·have Gw : q.er = ((s.first + s.bH : Nat) : Int) := by rw [hw.er, iP he]
  obtain ⟨⟨g9, k9⟩, hE⟩ := ex (aT g ((s.first + s.bH : Nat) : Int))
  have oG : eV s g = (g9, k9) := by
   unfold eV
   rw [iP he, show ((s.first : Int) + (s.bH : Int)) = ((s.first + s.bH : Nat) : Int) by omega]
   exact hE
  have qP : ct s = { s with erase := false } := by unfold ct; rw [iP he]
  have aae : g9.pg = g.pg := by have := (iV g ((s.first + s.bH : Nat) : Int)).p; rw [hE] at this; exact this
  have dV := NJ w q s x g hR hX q.n5 q.c5 (s.first + s.bH) oM oM oM g9 k9 hE
  unfold Qv.v
  rw [cU, Gw]
  refine dV.mono ?_
  rintro e w' ⟨y9, h1, h2, h3, h4⟩
  have hl := h.below h2
  by_cases hk : k9 = 0
  ·subst hk
   rw [Bz cU hu oG (by rw [qP]; simp only; omega), qP]
   refine ⟨{ q with er := -1 }, y9, ?_, ?_, h1, h2⟩
   ·rw [h3 rfl]
    simp only [cU]
   have lG := hl.wr cU hu
   exact ⟨hl.a, hl.a1, hl.a2, hl.b, hl.b1, hl.b2, hl.c, hl.QK, hl.QJ, hl.d1, hl.d2, hl.e1, hl.e2, fun _ _ => ⟨lG.vr, lG.vl, lG.pr, lG.pl, lG.qq, rfl, lG.nb, lG.ns⟩, fun _ e => by simp only [hu] at e; cases e⟩
  rw [tI cU hu oG hk, qP]
  refine ⟨q, y9, ?_, ?_, h1, h2⟩
  ·rw [h4 hk]
   simp only [Gw]
  exact ⟨hl.a, hl.a1, hl.a2, hl.b, hl.b1, hl.b2, hl.c, hl.QK, hl.QJ, hl.d1, hl.d2, hl.e1, hl.e2, (fun e _ => by cases e), (fun e _ => by cases e)⟩
 have he' : s.erase = false := by simpa using he
 have Gw : q.er = -1 := by rw [hw.er, iN he]
 obtain ⟨pb, qz⟩ := getElem?_of_lt (l := s.bZ) (k := s.done) oM
 have Qw : s.bZ.drop s.done = pb :: s.bZ.drop (s.done + 1) := gO s.bZ s.done pb qz
 obtain ⟨Gq, Sd⟩ := ho.pb pb (List.mem_of_getElem? qz)
 have Ew := hw.pr
 rw [Qw] at Ew
 obtain ⟨bp, op, Qp, cp, hQ5, aW, eI, zY, fS, JT⟩ := Ew.get (i := 0) (p := pb) rfl
 rw [Gq] at eI zY
 rw [Nat.add_zero] at eI
 have zU : (s.first + s.bH) * g.pg + s.bg * s.k + s.done = aG s g s.bH s.bg + s.done := rfl
 obtain ⟨pn, Sa⟩ := ex (aG s g s.bH s.bg + s.done)
 have kj : q.pg = (pn : Int) := by rw [hw.qq, zU, Sa]
 have R9 : pn ≤ 2000 := oM
 obtain ⟨⟨g9, k9⟩, hE⟩ := ex (bz g (pn : Int) pb)
 have oG : eV s g = (g9, k9) := by
  unfold eV
  rw [iN he, Sa, qz]
  exact hE
 have qP : ct s = { s with done := s.done + 1 } := by unfold ct; rw [iN he]
 have aae : g9.pg = g.pg := by have := (jz g (pn : Int) pb).p; rw [hE] at this; exact this
 have Dp := ho.q1
 have hqb := ho.qb hu cU
 unfold Qv.v
 rw [cU, Gw, kj, hQ5]
 by_cases hk : k9 = 0
 ·subst hk
  by_cases hlast : q.n5 = 1
  ·have dV := NF w q s x g hR hX bp op q.c5 pn (by have := h.e1; omega) h.e2 R9 Dp hqb Qp cp pb eI JT Gq zY fS Sd g9 0 hE rfl
   rw [hlast]
   refine dV.mono ?_
   rintro e w' ⟨y9, h1, h2, Q0, c0, h3, Cv⟩
   have hl := h.below h2
   have lG := hl.wr cU hu
   rw [Hc cU hu oG (by rw [qP]; simp only; omega), qP]
   refine ⟨{ q with Q3 := q.Q4, c3 := q.c4, Q5 := Q0, n5 := 0, c5 := c0, pg := (pn : Int) + 1 }, y9, ?_, ?_, h1, h2⟩
   ·rw [h3]
    simp only [kO, cU, hw.vl, hw.nb, hw.ns, Gw]
   exact ⟨hl.a, hl.a1, hl.a2, hl.b, hl.b1, hl.b2, lG.vr, by have := hw.vl; have := h.d1; simp only [kO]; omega, hl.d2, hl.d1, hl.d2, Nat.zero_le _, Cv, (fun _ e => by cases e), fun _ _ => rfl⟩
  have dV := ND w q s x g hR hX bp op q.n5 q.c5 pn oM oM h.e1 h.e2 R9 Qp cp pb eI JT Gq zY fS Sd g9 0 hE rfl oM
  refine dV.mono ?_
  rintro e w' ⟨y9, h1, h2, h3⟩
  have hl := h.below h2
  have lG := hl.wr cU hu
  have hpr' := lG.pr
  rw [Qw, hQ5] at hpr'
  rw [Bz cU hu oG (by rw [qP]; simp only; omega), qP]
  refine ⟨{ q with Q5 := some ⟨bp, op + 1, none⟩, n5 := q.n5 - 1, c5 := q.c5 - 1, pg := (pn : Int) + 1 }, y9, ?_, ?_, h1, h2⟩
  ·rw [h3]
   simp only [cU, Gw]
  refine ⟨hl.a, hl.a1, hl.a2, hl.b, hl.b1, hl.b2, hl.c, hl.QK, hl.QJ, hl.d1, hl.d2, by have := h.e1; simp only; omega, by have := h.e2; simp only; omega, fun _ _ => ⟨lG.vr, lG.vl, hpr'.Ru, ?_, ?_, ?_, lG.nb, lG.ns⟩, fun _ e => by simp only [hu] at e; cases e⟩
  ·simp only
   rw [List.length_drop, fQ]
   omega
  ·have : ((s.first + s.bH) * g.pg + s.bg * s.k + (s.done + 1) : Nat) = pn + 1 := by rw [← Sa, ← zU]; omega
   have e2 : ({ s with done := s.done + 1 } : St).k = s.k := rfl
   simp only [e2]
   rw [this]
   push_cast
   rfl
  simp only [he', Gw]
  rfl
 have dV := NH w q s x g hR hX bp op q.n5 q.c5 pn oM oM h.e1 h.e2 R9 Qp cp pb eI JT Gq zY fS Sd g9 k9 hE hk
 refine dV.mono ?_
 rintro e w' ⟨y9, h1, h2, h3⟩
 have hl := h.below h2
 rw [tI cU hu oG hk, qP]
 refine ⟨q, y9, ?_, ?_, h1, h2⟩
 ·rw [h3]
  simp only [Gw, kj, hQ5]
 exact ⟨hl.a, hl.a1, hl.a2, hl.b, hl.b1, hl.b2, hl.c, hl.QK, hl.QJ, hl.d1, hl.d2, hl.e1, hl.e2, (fun e _ => by cases e), (fun e _ => by cases e)⟩
theorem L3 (args : Array Value) (w : World) : (callFunc 81 args).run prog w = .ok (.enter 81 args) w := by
 go_simp
theorem LZ (args : Array Value) (w : World) : (callFunc 112 args).run prog w = .ok (.enter 112 args) w := by
 go_simp
def X3 (X : Nat → Prop) (N : Nat) (b : Nat) : Prop := X b ∨ (N ≤ b ∧ b ≤ N + 2)
theorem X3.lt (h : ∀ b, X b → b < N) (hM : N + 2 < M) : ∀ b, X3 X N b → b < M := fun b hb => by
 rcases hb with h1 | h1
 ·have := h b h1
  omega
 omega
theorem ZM (X : Nat → Prop) (N : Nat) : X3 X N N := .inr ⟨Nat.le_refl _, Nat.le_add_right _ _⟩
theorem x32 (X : Nat → Prop) (N : Nat) : X3 X N (N + 2) := .inr ⟨Nat.le_add_right _ _, oM⟩
structure Hz (w wr : World) (l f : Array Value) : Prop where
 below : bW w wr
 h : wr.heap[w.heap.size]? = some (.cells l 43 (0, 0))
 h4 : wr.heap[w.heap.size + 1]? = some (.cells f 35 (0, 0))
 h8 : ∃ dX : Array Value, dX.size = 15 ∧ wr.heap[w.heap.size + 2]? = some (.cells dX 43 (0, 0))
section
variable {w wr w' : World} {l f : Array Value}
theorem Hz.lt (h : Hz w wr l f) : w.heap.size + 2 < wr.heap.size := by
 obtain ⟨dX, _, h8⟩ := h.h8
 exact (Array.getElem?_eq_some_iff.1 h8).1
theorem Hz.ab (h : Hz w wr l f) (hb : bW wr w') : Hz w w' l f := by
 have hl := h.lt
 obtain ⟨dX, ho, h8⟩ := h.h8
 exact ⟨h.below.trans (hb.mono h.below.size), (hb.block _ oM).trans h.h, (hb.block _ oM).trans h.h4, ⟨dX, ho, (hb.block _ hl).trans h8⟩⟩
theorem Hz.row (h : Hz w wr l f) (j : Nat) (hj : l.toList[j]? = some u) : wr.cell? ⟨w.heap.size, j, none⟩ = some u := (cell_of_row wr _ j l 43 (0, 0) h.h).trans (by rw [← Array.getElem?_toList]; exact hj)
theorem Hz.fz (h : Hz w wr l f) (j : Nat) : wr.frozen? ⟨w.heap.size, j, none⟩ = false := frozen_of_row wr _ j l 43 h.h
theorem Hz.ll (h : Hz w wr l f) (j : Nat) (hj : f.toList[j]? = some u) : wr.cell? ⟨w.heap.size + 1, j, none⟩ = some u := (cell_of_row wr _ j f 35 (0, 0) h.h4).trans (by rw [← Array.getElem?_toList]; exact hj)
theorem Hz.set (h : Hz w wr l f) (i : Nat) (v : Value) : Hz w (wr.setCell ⟨w.heap.size, i, none⟩ v) (l.setIfInBounds i v) f := by
 obtain ⟨dX, ho, h8⟩ := h.h8
 exact ⟨h.below.setCell (p := ⟨w.heap.size, i, none⟩) cV _, heap_setCell_same wr _ i l 43 v h.h, (heap_setCell_other wr ⟨w.heap.size, i, none⟩ _ v (by simp)).trans h.h4, ⟨dX, ho, (heap_setCell_other wr ⟨w.heap.size, i, none⟩ _ v (by simp)).trans h8⟩⟩
theorem Hz.grown (h : Hz w wr l f) {row : Option Nat} (hg : wr.grownBy w' row) (hr : ∀ k, row = some k → w.heap.size + 2 < k) : Hz w w' l f := by
 have hl := h.lt
 obtain ⟨dX, ho, h8⟩ := h.h8
 exact ⟨h.below.grown hg h.below.size (fun k hk => by have := hr k hk; omega), (hg.block _ oM (fun e => by have := hr _ e.symm; omega)).trans h.h, (hg.block _ oM (fun e => by have := hr _ e.symm; omega)).trans h.h4, ⟨dX, ho, (hg.block _ hl (fun e => by have := hr _ e.symm; omega)).trans h8⟩⟩
theorem Hz.new (hV : V = ((w.alloc (.cells l 43)).alloc (.cells f 35)).alloc o) (ho : ∃ dX : Array Value, dX.size = 15 ∧ o = .cells dX 43) : Hz w V l f := by
 obtain ⟨dX, h1, rfl⟩ := ho
 subst hV
 have s1 : ∀ (w : World) (o : Obj), (w.alloc o).heap.size = w.heap.size + 1 := fun w o => Array.size_push _
 have hA := fun (w : World) (o : Obj) (i : Nat) (hi : i < w.heap.size) => heap_alloc_old w o hi
 have hN := fun (w : World) (o : Obj) => heap_alloc_new w o
 refine ⟨?_, ?_, ?_, ⟨dX, h1, ?_⟩⟩
 ·exact ((ck w _ _).alloc (by rw [s1, s1]; omega) _)
 ·rw [hA _ _ _ (by rw [s1, s1]; omega), hA _ _ _ (by rw [s1]; omega)]
  exact hN _ _
 ·rw [hA _ _ _ (by rw [s1, s1]; omega)]
  have := hN (w.alloc (.cells l 43)) (.cells f 35)
  rw [s1] at this
  exact this
 have := hN ((w.alloc (.cells l 43)).alloc (.cells f 35)) (.cells dX 43)
 rw [s1, s1] at this
 exact this
end
theorem cn.x3 (h : cn X w A xs) (hb : bW w w') : cn (X3 X w.heap.size) w' A xs := fun hx => by
 obtain ⟨b, off, e, aW, hn, hc⟩ := h hx
 refine ⟨b, off, e, Nat.lt_of_lt_of_le aW hb.size, fun hk => ?_, fun j u hu => (hb.cell (p := ⟨b, off + j, none⟩) aW).trans (hc j u hu)⟩
 rcases hk with h1 | h1
 ·exact hn h1
 omega
theorem cf.x3 (h : cf X w x g) (hb : bW w w') : cf (X3 X w.heap.size) w' x g :=
 ⟨h.ok, h.a.x3 hb, h.a1, h.a2, h.b.x3 hb, h.b1, h.b2, h.p.x3 hb, h.p1, h.p2⟩
def px (a b : List Int) (k : Nat) : Bool := decide (a.take k = b.take k)
theorem vu {a : List Int} {x y : Int} (hx : a[k]? = some x) (hy : b[k]? = some y) : px a b (k + 1) = (px a b k && (x == y)) := by
 unfold px
 rw [bA a k x hx, bA b k y hy]
 by_cases h1 : a.take k = b.take k
 ·by_cases h2 : x = y
  ·subst h2; simp [h1]
  simp [h1, h2]
 have : ¬ (a.take k ++ [x] = b.take k ++ [y]) := fun e => h1 (List.append_inj_left' e rfl)
 simp [h1, this]
theorem yq {a : List Int} (ha : a.length = k) (hb : b.length = k) : px a b k = decide (a = b) := by
 unfold px
 rw [List.take_of_length_le oM, List.take_of_length_le oM]
theorem Mq (w : World) (q : Qv) (s : St) (x : Rc) (g : Fl) :
 Calls prog 83 #[.agg (Pk q s true), .agg (aX x g)] w fun e w' => e = .returned (.tuple #[.agg (Pk q s true), .int .i64 20]) ∧ bW w w' := by
 obtain ⟨W, hW⟩ := ex (((w.alloc (.cells (Pk q s true) 43)).alloc (.cells (aX x g) 35)).alloc (.cells qt 43))
 have HZ := iD (Hz.new hW.symm ⟨_, rfl, rfl⟩)
 have tQ := HZ.row 14 rfl
 have G3 := HZ.fz 14
 go_enter func83, ntmps83
 go_upto_region 3 with (fail)
 try rw [hW]
 clear hW
 have DA : Hid (Hz w (W.setCell ⟨w.heap.size, 14, none⟩ (.bool true)) (Pk q s true) (aX x g)) := HZ.set 14 (.bool true)
 generalize W.setCell ⟨w.heap.size, 14, none⟩ (.bool true) = V at DA ⊢
 clear tQ G3
 refine wp_region_list ?_
 refine wpList_load_row rfl 43 _ rfl w.heap.size rfl 43 (Pk q s true) (0, 0) _ DA.h underlying43 rfl aP ?_
 obtain ⟨gY, iF, jV⟩ := DA.h8
 refine wpList_store_row rfl 43 _ _ rfl (w.heap.size + 2) (Pk q s true) rfl rfl 43 gY jV aP iF (iv ..) ?_
 go_wp2
 (try simp only [Exit.inBlock, Exit.then])
 refine rI rfl (setRow_heap _ _ _ _ _ _ jV) aP ⟨rfl, below_setRow DA.below oM _⟩
theorem Mn (w : World) (q : Qv) (s : St) (x : Rc) (g : Fl) (m c5 : Nat) (hm : 0 < m) (Si : m ≤ 8) :
 Calls prog 83 #[.agg (ui q s (.slice q.Q5 m c5) q.pg q.er false), .agg (o0 x g false)] w fun e w' => e = .returned (.tuple #[.agg (ui q s (.slice q.Q5 m c5) q.pg q.er false), .int .i64 14]) ∧ bW w w' := by
 obtain ⟨W, hW⟩ := ex (((w.alloc (.cells (ui q s (.slice q.Q5 m c5) q.pg q.er false) 43)).alloc (.cells (o0 x g false) 35)).alloc (.cells qt 43))
 have HZ := iD (Hz.new hW.symm ⟨_, rfl, rfl⟩)
 have tQ := HZ.row 14 rfl
 have r9 := HZ.row 9 rfl
 have f3 := HZ.ll 3 rfl
 have nQ : (0 : Int) < (m : Int) := oM
 go_enter func83, ntmps83
 go_upto_region 5 with (fail)
 try rw [hW]
 clear hW
 refine wp_region_list ?_
 refine wpList_load_row rfl 43 _ rfl w.heap.size rfl 43 (ui q s (.slice q.Q5 m c5) q.pg q.er false) (0, 0) _ HZ.h underlying43 rfl aP ?_
 obtain ⟨gY, iF, jV⟩ := HZ.h8
 refine wpList_store_row rfl 43 _ _ rfl (w.heap.size + 2) (ui q s (.slice q.Q5 m c5) q.pg q.er false) rfl rfl 43 gY jV aP iF (iv ..) ?_
 go_wp2
 (try simp only [Exit.inBlock, Exit.then])
 refine rI rfl (setRow_heap _ _ _ _ _ _ jV) aP ⟨rfl, below_setRow HZ.below oM _⟩
theorem Mo (w : World) (q : Qv) (s : St) (x : Rc) (g : Fl) (n c5 : Nat) (uC : n ≤ 48) (hA : cn X w q.Q2 (aw s.aj)) (hB : cn X w q.Q3 (aw s.an)) (xL : s.aj.length = n) (lQ : s.an.length = n) (nO : s.aj = s.an) :
 Calls prog 83 #[.agg (my q s n (.slice q.Q4 q.n4 q.c4) (.slice q.Q5 0 c5) q.pg q.er q.nb q.ns false), .agg (o0 x g false)] w fun e w' => e = .returned (.tuple #[.agg (my q s n (.slice q.Q4 q.n4 q.c4) (.slice q.Q5 0 c5) q.pg q.er q.nb q.ns false), .int .i64 12]) ∧ bW w w' := by
 have lV := iD nO
 clear nO
 obtain ⟨W, hW⟩ := ex (((w.alloc (.cells (my q s n (.slice q.Q4 q.n4 q.c4) (.slice q.Q5 0 c5) q.pg q.er q.nb q.ns false) 43)).alloc (.cells (o0 x g false) 35)).alloc (.cells qt 43))
 have HZ := iD (Hz.new hW.symm ⟨_, rfl, rfl⟩)
 have HA := iD hA
 have HB := iD hB
 have AG := iD xL
 have nh := iD lQ
 have tQ := HZ.row 14 rfl
 have r9 := HZ.row 9 rfl
 have f3 := HZ.ll 3 rfl
 have r3 := HZ.row 3 rfl
 clear hA hB xL lQ
 go_enter func83, ntmps83
 go_upto_region 8 with (fail)
 try rw [hW]
 clear hW tQ r9 f3 r3
 go_loopw [6, 7, 26] (fun b i7 i wr => ∃ k : Nat, k ≤ n ∧ i = .int .i64 k ∧ b = .bool (px s.aj s.an k) ∧ Hz w wr (my q s n (.slice q.Q4 q.n4 q.c4) (.slice q.Q5 0 c5) q.pg q.er q.nb q.ns false) (o0 x g false)) (fun _ _ i _ => n - (intOf i).toNat)
 case atStart => exact ⟨0, Nat.zero_le _, rfl, rfl, HZ⟩
 case round =>
  obtain ⟨k, hk, rfl, rfl, hz⟩ := hrel
  have xy := iD hz
  clear hz
  by_cases aW : k < n
  ·obtain ⟨a, ha⟩ := getElem?_of_lt (l := s.aj) (k := k) (by rw [AG]; exact aW)
   obtain ⟨b, hb⟩ := getElem?_of_lt (l := s.an) (k := k) (by rw [nh]; exact aW)
   have eW := iD (vu ha hb)
   obtain ⟨ba, oa, e1, _, c0⟩ := ((HA.below xy.below).rd).int ha
   obtain ⟨bb, ob, e2, _, c1⟩ := ((HB.below xy.below).rd).int hb
   have r3 := xy.row 3 rfl
   have r4 := xy.row 4 rfl
   rw [e1] at r3
   rw [e2] at r4
   clear ha hb e1 e2
   have kg : decide (n ≤ k) = false := by simpa using aW
   cases Io : px s.aj s.an k
   ·have pF := iD Io
    clear Io
    go_upto_region 10 with (fail)
    go_quiet (fail)
    go_wp2
    go_roundw
    case rel => exact ⟨k + 1, oM, by go_num, by rw [eW, pF]; rfl, xy.ab (Below.drewN bV _)⟩
    case measure => simp [intOf]; omega
   have pF := iD Io
   clear Io
   go_upto_region 10 with (fail)
   go_quiet (fail)
   go_wp2
   go_roundw
   case rel => exact ⟨k + 1, oM, by go_num, by rw [eW, pF]; rfl, xy.ab (Below.drewN bV _)⟩
   case measure => simp [intOf]; omega
  have kg : k = n := oM
  subst kg
  have xA := iD (yq AG nh)
  rw [lV, decide_eq_true rfl] at xA
  have VH : px s.aj s.an k = true := by rw [lV]; exact xA
  rw [VH]
  clear VH
  go_upto_region 13 with (fail)
  refine wp_region_list ?_
  refine wpList_load_row rfl 43 _ rfl w.heap.size rfl 43 (my q s k (.slice q.Q4 q.n4 q.c4) (.slice q.Q5 0 c5) q.pg q.er q.nb q.ns false) (0, 0) _ xy.h underlying43 rfl aP ?_
  obtain ⟨gY, iF, jV⟩ := xy.h8
  refine wpList_store_row rfl 43 _ _ rfl (w.heap.size + 2) (my q s k (.slice q.Q4 q.n4 q.c4) (.slice q.Q5 0 c5) q.pg q.er q.nb q.ns false) rfl rfl 43 gY jV aP iF (iv ..) ?_
  go_wp2
  (try simp only [Exit.inBlock, Exit.then])
  refine rI rfl (setRow_heap _ _ _ _ _ _ jV) aP ⟨rfl, below_setRow xy.below oM _⟩
def PlO (s : St) (g : Fl) (nb ns : Nat) (er : Int) : Prop :=
 (jW s g = some ns ∧ nb = s.block ∧ er = -1) ∨ (jW s g = none ∧ nb = (s.block + 1) % s.aa ∧ ns = 0 ∧ er = if cG g (aG s g nb 0) g.pg = true then -1 else ((s.first + nb : Nat) : Int))
structure Bg (X : Nat → Prop) (w wr : World) (l f : Array Value) (Q8 : Option Addr) (vs : List Int) (Q9 : Option Addr) (ps : List (List Int)) : Prop where
 z : Hz w wr l f
 v : cn (X3 X w.heap.size) wr Q8 (aw vs)
 p : lU (X3 X w.heap.size) wr Q9 ps
section
variable {X : Nat → Prop} {w wr w' : World} {l f : Array Value} {Q8 Q9 : Option Addr} {vs : List Int} {ps : List (List Int)}
theorem Bg.ab (h : Bg X w wr l f Q8 vs Q9 ps) (hb : bW wr w') : Bg X w w' l f Q8 vs Q9 ps := ⟨h.z.ab hb, h.v.below hb, h.p.below hb⟩
theorem Bg.set (h : Bg X w wr l f Q8 vs Q9 ps) (i : Nat) (v : Value) : Bg X w (wr.setCell ⟨w.heap.size, i, none⟩ v) (l.setIfInBounds i v) f Q8 vs Q9 ps :=
 ⟨h.z.set i v, h.v.ao (ah.set wr ⟨w.heap.size, i, none⟩ v (ZM _ _)), h.p.ao (ah.set wr ⟨w.heap.size, i, none⟩ v (ZM _ _))⟩
theorem Bg.ON (h : Bg X w wr l f Q8 vs Q9 ps) (cs : Array Value) : cn X (wr.setRow (w.heap.size + 2) cs) Q8 (aw vs) := (h.v.ao (ah.row wr (w.heap.size + 2) cs (x32 _ _))).cX (fun _ => .inl)
theorem Bg.OM (h : Bg X w wr l f Q8 vs Q9 ps) (cs : Array Value) : lU X (wr.setRow (w.heap.size + 2) cs) Q9 ps := (h.p.ao (ah.row wr (w.heap.size + 2) cs (x32 _ _))).dQ (fun _ _ => .inl)
end
theorem Mp (w : World) (q : Qv) (s : St) (x : Rc) (g : Fl) (n c5 : Nat) (hA : cn X w q.Q2 (aw s.aj)) (hB : cn X w q.Q3 (aw s.an)) (xL : s.aj.length = n) (lQ : s.an.length = n) (hR : cf X w x g) (hX : ∀ b, X b → b < w.heap.size) (hd : g.aF = false) (ho : bD g s) (gT : s.ax.length = n) (fR : s.aj ≠ s.an) (mX : fX (s.seq + 1) n = 0) (qa : n ≤ q.c2) (fS : q.c2 ≤ maxLen) :
 Calls prog 83 #[.agg (my q s n (.slice q.Q4 q.n4 q.c4) (.slice q.Q5 0 c5) q.pg q.er q.nb q.ns false), .agg (o0 x g false)] w fun e w' => ∃ (Q8 : Option Addr) (c8 : Nat) (Q9 : Option Addr) (c9 nb ns : Nat) (er : Int), e = .returned (.tuple #[.agg (my q s n (.slice Q8 n c8) (.slice Q9 (cO n) c9) (((s.first + nb) * g.pg + ns * cO n : Nat) : Int) er (nb : Int) (ns : Int) false), .int .i64 0]) ∧ bW w w' ∧ cn X w' Q8 (aw s.aj) ∧ lU X w' Q9 (dS (s.seq + 1) s.aj) ∧ n ≤ c8 ∧ c8 ≤ maxLen ∧ cO n ≤ c9 ∧ c9 ≤ maxLen ∧ PlO s g nb ns er := by
 have yQ := ho.n1
 have uC := ho.n2
 rw [gT] at yQ uC
 have xN := hR.ok.p2
 have abM := hR.ok.b2
 have Ir := hR.ok.p1
 have Dt := ho.fb
 have cB := ho.bl
 have dZ := ho.b1
 have zZ := ho.b2
 have gC := ho.s1
 have je := ho.s2
 have vS := ho.kp
 have Dp := ho.q1
 obtain ⟨_, AY, _, _⟩ := ks mX
 obtain ⟨K, hK⟩ := ex (cO n)
 have Ug : s.k = K := by unfold St.k; rw [gT]; exact hK
 have hK1 : 1 ≤ K := by rw [← hK]; exact jZ yQ
 have hK8 : K ≤ 8 := by rw [← hK]; exact jL uC
 obtain ⟨T, hT⟩ := ex (g.pg / K)
 have Y0 : bm s g = T := by unfold bm; rw [Ug]; exact hT
 rw [Y0] at je
 rw [Ug] at vS
 have Wz : T ≤ 16 := by rw [← hT]; exact Nat.le_trans (Nat.div_le_self _ _) xN
 have tq : (g.pg : Int).tdiv (K : Int) = (T : Int) := by rw [Int.tdiv_eq_ediv_of_nonneg oM, ← hT]; push_cast; rfl
 have tq2 : (g.pg : Int) / (K : Int) = (T : Int) := by rw [← hT]; push_cast; rfl
 have hPS : ∀ b t, aG s g b t = (s.first + b) * g.pg + t * K := fun b t => by unfold aG; rw [Ug]
 have QZ := iD hPS
 have HPI : Hid (∀ t, t < T → (s.first + s.block) * g.pg + t * K + K ≤ g.aq.length * g.pg) := fun t ht => by
  have := ho.oD (b := s.block) (j := t) ho.bl (by rw [Y0]; exact ht)
  rw [hPS, Ug] at this
  exact this
 have Zx : Hid (∀ (w' : World) (b t : Nat), b ≤ 64 → t ≤ 64 → ∀ (c1 : Nat) (u1 u3 u4 u5 u6 u7 u8 u9 JI JH JG JF : Value), Calls prog 81 #[.agg #[.int .i64 (s.first : Int), u1, .slice q.Q1 n c1, u3, u4, u5, u6, u7, u8, u9, JI, JH, JG, JF, .bool false], .agg (o0 x g false), .int .i64 (b : Int), .int .i64 (t : Int)] w' fun e G6 => e = .returned (.int .i64 (((s.first + b) * g.pg + t * K : Nat) : Int)) ∧ bW w' G6) := by
  intro w' b t hb ht c1 u1 u3 u4 u5 u6 u7 u8 u9 JI JH JG JF
  have h := OK x g s.first q.Q1 n c1 u1 u3 u4 u5 u6 u7 u8 u9 JI JH JG JF (.bool false) b t w' oM hb ht uC xN
  unfold Rc.v at h
  rw [hd, hK] at h
  exact h
 have Jx : Hid (∀ (w' : World) (b : Nat), b ≤ 64 → ∀ (c1 : Nat) (u1 u3 u4 u5 u6 u7 u8 u9 JI JH JG JF : Value), Calls prog 81 #[.agg #[.int .i64 (s.first : Int), u1, .slice q.Q1 n c1, u3, u4, u5, u6, u7, u8, u9, JI, JH, JG, JF, .bool false], .agg (o0 x g false), .int .i64 (b : Int), .int .i64 0] w' fun e G6 => e = .returned (.int .i64 (((s.first + b) * g.pg + 0 * K : Nat) : Int)) ∧ bW w' G6) :=
  fun w' b hb c1 u1 u3 u4 u5 u6 u7 u8 u9 JI JH JG JF => Zx w' b 0 hb oM c1 u1 u3 u4 u5 u6 u7 u8 u9 JI JH JG JF
 have uM : Hid (∀ (w' : World), bW w w' → ∀ a m : Nat, 1 ≤ m → a + m ≤ g.aq.length * g.pg → Calls prog 112 #[.agg (o0 x g false), .int .i64 (a : Int), .int .i64 (m : Int)] w' fun e G6 => e = .returned (.bool (cG g a m)) ∧ bW w' G6) := by
  intro w' hb a m h1 h2
  have h := Pb (hR.below hb) a m h1 h2
  unfold Rc.v at h
  rw [hd] at h
  exact h
 have gV := iD ho
 have MG := iD hX
 have tr := iD fR
 have abr := iD mX
 have zk := iD hK
 have HkK := iD Ug
 have HTs := iD Y0
 have zj : Hid ((aw s.aj).length = n * 1) := by rw [Hid, cj, xL]; omega
 obtain ⟨i3, vU, kE, jN, lh⟩ := info_parts mq
 have nQ : 0 ≤ maxLen := Nat.zero_le _
 have hcm' := fS
 unfold maxLen at hcm'
 clear hR hX hd ho gT fR mX hPS hK Ug Y0 hT fS
 rw [zk]
 obtain ⟨W, hW⟩ := ex (((w.alloc (.cells (my q s n (.slice q.Q4 q.n4 q.c4) (.slice q.Q5 0 c5) q.pg q.er q.nb q.ns false) 43)).alloc (.cells (o0 x g false) 35)).alloc (.cells qt 43))
 have HZ := iD (Hz.new hW.symm ⟨_, rfl, rfl⟩)
 have HA := iD hA
 have HB := iD hB
 have AG := iD xL
 have nh := iD lQ
 have tQ := HZ.row 14 rfl
 have r9 := HZ.row 9 rfl
 have f3 := HZ.ll 3 rfl
 have r3 := HZ.row 3 rfl
 clear hA hB xL lQ
 go_enter func83, ntmps83
 go_upto_region 8 with (fail)
 try rw [hW]
 clear hW tQ r9 f3 r3
 go_loopw [6, 7, 26] (fun b i7 i wr => ∃ k : Nat, k ≤ n ∧ i = .int .i64 k ∧ b = .bool (px s.aj s.an k) ∧ Hz w wr (my q s n (.slice q.Q4 q.n4 q.c4) (.slice q.Q5 0 c5) q.pg q.er q.nb q.ns false) (o0 x g false)) (fun _ _ i _ => n - (intOf i).toNat)
 case atStart => exact ⟨0, Nat.zero_le _, rfl, rfl, HZ⟩
 case round =>
  obtain ⟨k, hk, rfl, rfl, hz⟩ := hrel
  have xy := iD hz
  clear hz
  by_cases aW : k < n
  ·obtain ⟨a, ha⟩ := getElem?_of_lt (l := s.aj) (k := k) (by rw [AG]; exact aW)
   obtain ⟨b, hb⟩ := getElem?_of_lt (l := s.an) (k := k) (by rw [nh]; exact aW)
   have eW := iD (vu ha hb)
   obtain ⟨ba, oa, e1, _, c0⟩ := ((HA.below xy.below).rd).int ha
   obtain ⟨bb, ob, e2, _, c1⟩ := ((HB.below xy.below).rd).int hb
   have r3 := xy.row 3 rfl
   have r4 := xy.row 4 rfl
   rw [e1] at r3
   rw [e2] at r4
   clear ha hb e1 e2
   have kg : decide (n ≤ k) = false := by simpa using aW
   cases Io : px s.aj s.an k
   ·have pF := iD Io
    clear Io
    go_upto_region 10 with (fail)
    go_quiet (fail)
    go_wp2
    go_roundw
    case rel => exact ⟨k + 1, oM, by go_num, by rw [eW, pF]; rfl, xy.ab (Below.drewN bV _)⟩
    case measure => simp [intOf]; omega
   have pF := iD Io
   clear Io
   go_upto_region 10 with (fail)
   go_quiet (fail)
   go_wp2
   go_roundw
   case rel => exact ⟨k + 1, oM, by go_num, by rw [eW, pF]; rfl, xy.ab (Below.drewN bV _)⟩
   case measure => simp [intOf]; omega
  have kg : k = n := oM
  subst kg
  have xA := iD (yq AG nh)
  rw [decide_eq_false tr.out] at xA
  have VH := xA.out
  rw [VH]
  clear VH
  go_upto_region 14 with (fail)
  have r2 := xy.row 2 rfl
  go_wp2_with (fail)
  refine (oC k oM wr).mono ?_
  rintro e w1 ⟨rfl, rfl⟩
  rw [zk]
  have r3 := xy.row 3 rfl
  have ZS : (wr.alloc (.cells #[] 3)).cell? ⟨w.heap.size, 3, none⟩ = some (.slice q.Q2 k q.c2) := ((bI wr _).cell (p := ⟨w.heap.size, 3, none⟩) (World.block_lt_of_cell? wr _ r3)).trans r3
  have aan := xy.lt
  clear r2
  go_wp2_with (at_builtin; refine aM _ rfl _ _ 33 rfl (w.heap.size + 3) 3 i3 (.int .i64 0) 1 8 underlying33 vU kE jN lh rfl oM _ 0 [] rfl (World.ownsRow_lit wr #[] 0 oM nQ rfl) w.heap.size _ k q.c2 (aw s.aj) rfl ((HA.rd.below xy.below cV).below (bI wr _) xy.below.size) zj (mW _) (by unfold maxLen; omega) oM (by simp; omega) ?_)
  intro v5 w5 hown5 hgrow5 _
  have ke : w5.ownsRow (w.heap.size + 3) 3 1 v5 k (aw s.aj) := by simpa using hown5
  have AE := iD ((xy.ab (bI wr _)).grown hgrow5 (fun m e => by have hk' : some wr.heap.size = some m := e; injection hk' with hk'; omega))
  obtain ⟨Q8, c8, rfl, EA, Ez, _⟩ := a9 ke
  have FF := iD (And.intro EA Ez)
  have o7 : Hid (cn (X3 X w.heap.size) w5 Q8 (aw s.aj)) := cn.own (by rw [cj]; exact AG) ke (fun m hm hx => by
   have h1 := (ke.lt m hm).1
   rcases hx with hx | hx
   ·have := MG m hx
    omega
   omega)
  have hp5 : lU (X3 X w.heap.size) w5 none [] := lU.nil
  have r8 := AE.row 8 rfl
  have z8 := AE.fz 8
  clear r3 ZS hown5 hgrow5 ke EA Ez aan
  go_upto_region 16 with (fail)
  have Xo : Hid (Hz w (w5.setCell ⟨w.heap.size, 8, none⟩ (.slice Q8 k c8)) (my q s k (.slice Q8 k c8) (.slice q.Q5 0 c5) q.pg q.er q.nb q.ns false) (o0 x g false)) := AE.set 8 (.slice Q8 k c8)
  have Ps := iD (o7.ao (ah.set w5 ⟨w.heap.size, 8, none⟩ (.slice Q8 k c8) (ZM _ _)))
  generalize w5.setCell ⟨w.heap.size, 8, none⟩ (.slice Q8 k c8) = V5 at Xo Ps ⊢
  clear r8 z8 hp5
  have r5 := Xo.row 5 rfl
  have r8 := Xo.row 8 rfl
  have e1 : IntKind.i64.wrap (s.seq + 1) = s.seq + 1 := bf _ oM oM
  have HEN := iD (CI (X3 X w.heap.size) (s.seq + 1) Q8 k c8 s.aj V5 (X3.lt MG Xo.lt) Ps.rd AG abr)
  rw [zk] at HEN
  go_wp2_with (fail)
  clear r5 r8 e1
  refine HEN.mono ?_
  rintro e w6 ⟨Q9, c9, rfl, OB, OA, hp6, fx⟩
  have Di := iD (And.intro OB OA)
  have Rh : Hid (Bg X w w6 (my q s k (.slice Q8 k c8) (.slice q.Q5 0 c5) q.pg q.er q.nb q.ns false) (o0 x g false) Q8 s.aj Q9 (dS (s.seq + 1) s.aj)) := ⟨Xo.ab fx, Ps.below fx, hp6⟩
  have r9 := Rh.z.row 9 rfl
  have z9 := Rh.z.fz 9
  clear OB OA hp6 fx
  go_upto_region 17 with (fail)
  have jS : Hid (Bg X w (w6.setCell ⟨w.heap.size, 9, none⟩ (.slice Q9 K c9)) (my q s k (.slice Q8 k c8) (.slice Q9 K c9) q.pg q.er q.nb q.ns false) (o0 x g false) Q8 s.aj Q9 (dS (s.seq + 1) s.aj)) := (Rh.set 9 (.slice Q9 K c9))
  generalize (w6.setCell ⟨w.heap.size, 9, none⟩ (.slice Q9 K c9)) = QM at jS ⊢
  clear r9 z9
  have r6 := jS.z.row 6 rfl
  have AW := jS.z.row 11 rfl
  have uS := jS.z.row 12 rfl
  have xI := jS.z.row 13 rfl
  have Kd := jS.z.fz 11
  have NB := jS.z.fz 12
  have Kb := jS.z.fz 13
  go_upto_region 18 with (fail)
  have GY : Hid (Bg X w (((QM.setCell ⟨w.heap.size, 11, none⟩ (.int .i64 (-1))).setCell ⟨w.heap.size, 12, none⟩ (.int .i64 (s.block : Int))).setCell ⟨w.heap.size, 13, none⟩ (.int .i64 (-1))) (my q s k (.slice Q8 k c8) (.slice Q9 K c9) q.pg (-1) (s.block : Int) (-1) false) (o0 x g false) Q8 s.aj Q9 (dS (s.seq + 1) s.aj)) := (((jS.set 11 (.int .i64 (-1))).set 12 (.int .i64 (s.block : Int))).set 13 (.int .i64 (-1)))
  generalize (((QM.setCell ⟨w.heap.size, 11, none⟩ (.int .i64 (-1))).setCell ⟨w.heap.size, 12, none⟩ (.int .i64 (s.block : Int))).setCell ⟨w.heap.size, 13, none⟩ (.int .i64 (-1))) = abH at GY ⊢
  clear r6 AW uS xI Kd NB Kb
  have r7 := GY.z.row 7 rfl
  obtain ⟨t0, ht0⟩ : ∃ t0 : Nat, s.av + 1 = t0 := ⟨(s.av + 1).toNat, oM⟩
  have e1 : IntKind.i64.wrap (s.av + 1) = (t0 : Int) := by rw [ht0]; exact bf _ oM oM
  have HT0 := iD ht0
  have hkz : ¬ K = 0 := oM
  clear ht0
  go_upto_region 19 with (fail)
  clear r7 e1
  go_loopw [9] (fun i wr => ∃ t : Nat, i = .int .i64 (t : Int) ∧ s.av < t ∧ t ≤ T ∧ (((∀ j < t, s.av < j → cG g (aG s g s.block j) s.k = false) ∧ Bg X w wr (my q s k (.slice Q8 k c8) (.slice Q9 K c9) q.pg (-1) (s.block : Int) (-1) false) (o0 x g false) Q8 s.aj Q9 (dS (s.seq + 1) s.aj)) ∨ (∃ j0 : Nat, jW s g = some j0 ∧ j0 ≤ 64 ∧ Bg X w wr (my q s k (.slice Q8 k c8) (.slice Q9 K c9) q.pg (-1) (s.block : Int) (j0 : Int) false) (o0 x g false) Q8 s.aj Q9 (dS (s.seq + 1) s.aj)))) (fun i _ => T - (intOf i).toNat)
  case atStart => exact ⟨t0, rfl, by have := HT0.out; omega, by have := HT0.out; omega, .inl ⟨fun j h1 h2 => by have := HT0.out; omega, GY.out⟩⟩
  case round =>
   obtain ⟨t, rfl, dV, htT, vY⟩ := hrel
   rcases vY with ⟨Ni, Dw⟩ | ⟨j0, hj0, Cn, Dw⟩
   ·have tz := iD Dw
    have Fz := iD Ni
    clear Dw Ni
    have f1 := tz.z.ll 1 rfl
    have xI := tz.z.row 13 rfl
    by_cases aW : t < T
    ·go_upto_region 21 with (fail)
     clear f1 xI
     have GX := iD (tz.z.ab fT)
     refine wp_region_held (S := fun w' => w'.heap[w.heap.size]? = some (.cells (my q s k (.slice Q8 k c8) (.slice Q9 K c9) q.pg (-1) (s.block : Int) (-1) false) 43 (0, 0)) ∧ w'.heap[w.heap.size + 1]? = some (.cells (o0 x g false) 35 (0, 0))) (by kernel_rfl) ?_
     change wpAnyH _ _ _ _ _ _ _ _ (World.drew _)
     refine wpAnyH_take (i := 0) (v := .agg (o0 x g false)) rfl (by kernel_rfl) (by kernel_rfl) (by kernel_rfl) (fun _ _ _ h => h) ?_ ⟨GX.h, GX.h4⟩ ?_
     ·refine bF ?_ 35 _ rfl (w.heap.size + 1) rfl 35 _ (0, 0) _ (fun _ h => h.2) underlying35 rfl dK
      rfl
     change wpAnyH _ _ _ _ _ _ _ (Act.put _ (some 86) _) _
     simp only [nm]
     refine wpAnyH_take (i := 1) (v := .agg (my q s k (.slice Q8 k c8) (.slice Q9 K c9) q.pg (-1) (s.block : Int) (-1) false)) rfl (by kernel_rfl) (by kernel_rfl) (by kernel_rfl) (fun _ _ _ h => h) ?_ ⟨GX.h, GX.h4⟩ ?_
     ·refine bF ?_ 43 _ rfl w.heap.size rfl 43 _ (0, 0) _ (fun _ h => h.1) underlying43 rfl aP
      rfl
     change wpAnyH _ _ _ _ _ _ _ (Act.put _ (some 87) _) _
     simp only [nm]
     refine wpAnyH_take (i := 2) (v := .agg (o0 x g false)) rfl (by kernel_rfl) (by kernel_rfl) (by kernel_rfl) (fun _ _ _ h => h) ?_ ⟨GX.h, GX.h4⟩ ?_
     ·refine bF ?_ 35 _ rfl (w.heap.size + 1) rfl 35 _ (0, 0) _ (fun _ h => h.2) underlying35 rfl dK
      rfl
     change wpAnyH _ _ _ _ _ _ _ (Act.put _ (some 88) _) _
     simp only [nm]
     refine wpAnyH_take (i := 3) (v := .pointer (some ⟨w.heap.size, 6, none⟩)) rfl (by kernel_rfl) (by kernel_rfl) (by kernel_rfl) (fun _ _ _ h => h) (.inl ⟨?_, ?_⟩) ⟨GX.h, GX.h4⟩ ?_
     ·rfl
     ·rintro w' ⟨h1, h2⟩
      have h3 : w'.cell? ⟨w.heap.size, 6, none⟩ = some (.int .i64 (s.block : Int)) := cell_of_row w' w.heap.size 6 (my q s k (.slice Q8 k c8) (.slice Q9 K c9) q.pg (-1) (s.block : Int) (-1) false) 43 (0, 0) h1
      clear h1 h2
      go_simp
     change wpAnyH _ _ _ _ _ _ _ (Act.put _ (some 89) _) _
     simp only [nm]
     refine wpAnyH_take (i := 4) (v := .int .i64 (s.block : Int)) rfl (by kernel_rfl) (by kernel_rfl) (by kernel_rfl) (fun _ _ _ h => h) (.inl ⟨?_, ?_⟩) ⟨GX.h, GX.h4⟩ ?_
     ·rfl
     ·rintro w' ⟨h1, h2⟩
      have h3 : w'.cell? ⟨w.heap.size, 6, none⟩ = some (.int .i64 (s.block : Int)) := cell_of_row w' w.heap.size 6 (my q s k (.slice Q8 k c8) (.slice Q9 K c9) q.pg (-1) (s.block : Int) (-1) false) 43 (0, 0) h1
      clear h1 h2
      go_simp
     change wpAnyH _ _ _ _ _ _ _ (Act.put _ (some 90) _) _
     simp only [nm]
     refine wpAnyH_take (i := 5) (v := .int .i64 (t : Int)) rfl (by kernel_rfl) (by kernel_rfl) (by kernel_rfl) (fun _ _ _ h => h) (.inl ⟨?_, ?_⟩) ⟨GX.h, GX.h4⟩ ?_
     ·rfl
     ·rintro w' ⟨h1, h2⟩
      have h3 : w'.cell? ⟨w.heap.size, 6, none⟩ = some (.int .i64 (s.block : Int)) := cell_of_row w' w.heap.size 6 (my q s k (.slice Q8 k c8) (.slice Q9 K c9) q.pg (-1) (s.block : Int) (-1) false) 43 (0, 0) h1
      clear h1 h2
      go_simp
     change wpAnyH _ _ _ _ _ _ _ (Act.put _ (some 91) _) _
     simp only [nm]
     refine wpAnyH_take (i := 7) (v := .int .i64 (K : Int)) rfl (by kernel_rfl) (by kernel_rfl) (by kernel_rfl) (fun _ _ _ h => h) (.inl ⟨?_, ?_⟩) ⟨GX.h, GX.h4⟩ ?_
     ·rfl
     ·rintro w' ⟨h1, h2⟩
      have h3 : w'.cell? ⟨w.heap.size, 6, none⟩ = some (.int .i64 (s.block : Int)) := cell_of_row w' w.heap.size 6 (my q s k (.slice Q8 k c8) (.slice Q9 K c9) q.pg (-1) (s.block : Int) (-1) false) 43 (0, 0) h1
      clear h1 h2
      go_simp
     change wpAnyH _ _ _ _ _ _ _ (Act.put _ (some 93) _) _
     simp only [nm]
     refine jw (i := 6) (al := [.agg (my q s k (.slice Q8 k c8) (.slice Q9 K c9) q.pg (-1) (s.block : Int) (-1) false), .agg (o0 x g false), .int .i64 (s.block : Int), .int .i64 (t : Int)]) (by kernel_rfl) rfl (by rfl) _ _ rfl (by rfl) L3 ?_
     refine (Zx _ s.block t oM oM _ _ _ _ _ _ _ _ _ _ _ _ _).mono ?_
     rintro e w9 ⟨rfl, lS⟩
     have J8 := iD (tz.ab ((Below.drew bV).trans lS))
     refine rW ⟨J8.z.h, J8.z.h4⟩ ?_
     refine jw (i := 8) (al := [.agg (o0 x g false), .int .i64 (((s.first + s.block) * g.pg + t * K : Nat) : Int), .int .i64 (K : Int)]) (by kernel_rfl) rfl (by rfl) _ _ rfl (by rfl) LZ ?_
     refine (uM w9 J8.z.below ((s.first + s.block) * g.pg + t * K) K hK1 (HPI t oM)).mono ?_
     rintro e w8 ⟨rfl, kH⟩
     have UW := iD (J8.ab kH)
     refine rW ⟨UW.z.h, UW.z.h4⟩ ?_
     refine wD ?_
     clear lS kH
     have ZE := iD (QZ s.block t)
     obtain ⟨bl, EB⟩ := ex (cG g ((s.first + s.block) * g.pg + t * K) K)
     have DF : Hid (cG g (aG s g s.block t) s.k = bl) := by rw [Hid, ZE, HkK]; exact EB
     rw [EB]
     clear EB
     have xI := UW.z.row 13 rfl
     have Kb := UW.z.fz 13
     cases bl
     ·go_wp2
      go_roundw
      case rel =>
       refine ⟨t + 1, by go_num, oM, oM, .inl ⟨fun j h1 h2 => ?_, UW⟩⟩
       by_cases e : j = t
       ·subst e; exact DF
       exact Fz j oM h2
      case measure => simp [intOf]; omega
     go_wp2
     go_roundw
     case rel => exact ⟨t + 1, by go_num, oM, oM, .inr ⟨t, yT (by rw [HTs]; exact aW) dV DF Fz, oM, UW.set 13 (.int .i64 (t : Int))⟩⟩
     case measure => simp [intOf]; omega
    have UR : Hid (jW s g = none) := yU (fun j h1 h2 => Fz.out j (by have := HTs.out; omega) h2)
    have r6 := tz.z.row 6 rfl
    have r1 := tz.z.row 1 rfl
    have uS := tz.z.row 12 rfl
    have NB := tz.z.fz 12
    have Kb := tz.z.fz 13
    obtain ⟨nb, zV⟩ := ex ((s.block + 1) % s.aa)
    have aak : nb < s.aa := by rw [← zV]; exact Nat.mod_lt _ oM
    have e1 : IntKind.i64.wrap ((s.block : Int) + 1) = (s.block : Int) + 1 := bf _ oM oM
    have e2 : ((s.block : Int) + 1) % (s.aa : Int) = (nb : Int) := by rw [← zV]; push_cast; rfl
    have e3 : ((s.block : Int) + 1).tmod (s.aa : Int) = (nb : Int) := by rw [Int.tmod_eq_emod_of_nonneg oM]; exact e2
    have e4 : ¬ s.aa = 0 := oM
    have Bj := iD zV
    have sR : decide (t < T) = false := by simpa using aW
    clear zV
    go_upto_region 25 with (fail)
    clear e1 e2 e3 r6 r1 f1 sR
    have yc : Hid (Bg X w ((wr.setCell ⟨w.heap.size, 12, none⟩ (.int .i64 (nb : Int))).setCell ⟨w.heap.size, 13, none⟩ (.int .i64 0)) (my q s k (.slice Q8 k c8) (.slice Q9 K c9) q.pg (-1) (nb : Int) 0 false) (o0 x g false) Q8 s.aj Q9 (dS (s.seq + 1) s.aj)) := ((tz.set 12 (.int .i64 (nb : Int))).set 13 (.int .i64 0))
    generalize ((wr.setCell ⟨w.heap.size, 12, none⟩ (.int .i64 (nb : Int))).setCell ⟨w.heap.size, 13, none⟩ (.int .i64 0)) = Xk at yc ⊢
    clear uS xI NB Kb
    have r0 := yc.z.row 0 rfl
    have uS := yc.z.row 12 rfl
    have f1 := yc.z.ll 1 rfl
    obtain ⟨fb, Oy⟩ := ex (s.first + nb)
    obtain ⟨M1, Ad⟩ := ex (fb * g.pg)
    have WG : M1 ≤ 128 * 16 := by rw [← Ad]; exact Nat.mul_le_mul oM xN
    have e1 : IntKind.i64.wrap ((s.first : Int) + (nb : Int)) = (fb : Int) := by rw [show (s.first : Int) + (nb : Int) = (fb : Int) by omega]; exact bf _ oM oM
    have e2 : IntKind.i64.wrap ((fb : Int) * (g.pg : Int)) = (M1 : Int) := by
     have e : (fb : Int) * (g.pg : Int) = (M1 : Int) := by rw [← Ad]; push_cast; rfl
     rw [e]
     exact bf _ oM oM
    have ur : Hid (M1 + g.pg ≤ g.aq.length * g.pg) := by
     have := gV.wT (b := nb) aak
     rw [QZ nb 0] at this
     rw [Hid, ← Ad, ← Oy]
     omega
    have Bn : Hid (aG s g nb 0 = M1) := by rw [Hid, QZ nb 0, Oy, Ad]; omega
    have HFB := iD Oy
    have HW := iD (uM Xk yc.z.below M1 g.pg Ir ur)
    clear Oy Ad
    refine wp_region_list ?_
    refine wpList_load_row rfl 35 _ rfl (w.heap.size + 1) rfl 35 (o0 x g false) (0, 0) _ yc.z.h4 underlying35 rfl dK ?_
    go_wp2_with (fail)
    clear r0 uS f1 e2
    refine HW.mono ?_
    rintro e w4 ⟨rfl, iT⟩
    have xE := iD (yc.ab iT)
    clear iT
    obtain ⟨bl, EB⟩ := ex (cG g M1 g.pg)
    have DF : Hid (cG g (aG s g nb 0) g.pg = bl) := by rw [Hid, Bn]; exact EB
    rw [EB]
    clear EB
    cases bl
    ·have r0 := xE.z.row 0 rfl
     have uS := xE.z.row 12 rfl
     have AW := xE.z.row 11 rfl
     have Kd := xE.z.fz 11
     go_upto_region 27 with (fail)
     clear r0 uS e1
     have UY : Hid (Bg X w (w4.setCell ⟨w.heap.size, 11, none⟩ (.int .i64 (fb : Int))) (my q s k (.slice Q8 k c8) (.slice Q9 K c9) q.pg (fb : Int) (nb : Int) 0 false) (o0 x g false) Q8 s.aj Q9 (dS (s.seq + 1) s.aj)) := (xE.set 11 (.int .i64 (fb : Int)))
     generalize (w4.setCell ⟨w.heap.size, 11, none⟩ (.int .i64 (fb : Int))) = Xl at UY ⊢
     clear AW Kd
     go_upto_region 27 with (fail)
     obtain ⟨tj, qi⟩ := ex ((s.first + nb) * g.pg + 0 * K)
     have GZ := iD qi
     have fU := iD (Jx Xl nb oM)
     rw [qi] at fU
     clear qi
     refine wp_region_list ?_
     refine wpList_load_row rfl 43 _ rfl w.heap.size rfl 43 (my q s k (.slice Q8 k c8) (.slice Q9 K c9) q.pg (fb : Int) (nb : Int) 0 false) (0, 0) _ UY.z.h underlying43 rfl aP ?_
     refine wpList_load_row rfl 35 _ rfl (w.heap.size + 1) rfl 35 (o0 x g false) (0, 0) _ UY.z.h4 underlying35 rfl dK ?_
     have uS := UY.z.row 12 rfl
     have xI := UY.z.row 13 rfl
     go_wp2_with (fail)
     clear uS xI
     refine (fU _ _ _ _ _ _ _ _ _ _ _ _ _).mono ?_
     rintro e w7 ⟨rfl, jf⟩
     have Fh := iD (UY.ab jf)
     have yw := Fh.z.row 10 rfl
     have AS := Fh.z.fz 10
     clear jf
     go_upto_region 28 with (fail)
     clear yw AS
     have tw : Hid (Bg X w (w7.setCell ⟨w.heap.size, 10, none⟩ (.int .i64 (tj : Int))) (my q s k (.slice Q8 k c8) (.slice Q9 K c9) (tj : Int) (fb : Int) (nb : Int) 0 false) (o0 x g false) Q8 s.aj Q9 (dS (s.seq + 1) s.aj)) := Fh.set 10 (.int .i64 (tj : Int))
     generalize w7.setCell ⟨w.heap.size, 10, none⟩ (.int .i64 (tj : Int)) = V7 at tw ⊢
     refine wp_region_list ?_
     refine wpList_load_row rfl 43 _ rfl w.heap.size rfl 43 (my q s k (.slice Q8 k c8) (.slice Q9 K c9) (tj : Int) (fb : Int) (nb : Int) 0 false) (0, 0) _ tw.z.h underlying43 rfl aP ?_
     obtain ⟨gY, iF, jV⟩ := tw.z.h8
     refine wpList_store_row rfl 43 _ _ rfl (w.heap.size + 2) (my q s k (.slice Q8 k c8) (.slice Q9 K c9) (tj : Int) (fb : Int) (nb : Int) 0 false) rfl rfl 43 gY jV aP iF (iv ..) ?_
     go_wp2
     (try simp only [Exit.inBlock, Exit.then])
     refine rI rfl (setRow_heap _ _ _ _ _ _ jV) aP ⟨Q8, c8, Q9, c9, nb, 0, (fb : Int), by rw [GZ] <;> rfl, below_setRow tw.z.below oM _, tw.ON _, tw.OM _, FF.1, FF.2, Di.1, Di.2, .inr ⟨UR, Bj.symm, rfl, by rw [iN (by rw [DF]; decide), HFB]⟩⟩
    clear e1
    go_upto_region 27 with (fail)
    obtain ⟨tj, qi⟩ := ex ((s.first + nb) * g.pg + 0 * K)
    have GZ := iD qi
    have fU := iD (Jx w4 nb oM)
    rw [qi] at fU
    clear qi
    refine wp_region_list ?_
    refine wpList_load_row rfl 43 _ rfl w.heap.size rfl 43 (my q s k (.slice Q8 k c8) (.slice Q9 K c9) q.pg (-1) (nb : Int) 0 false) (0, 0) _ xE.z.h underlying43 rfl aP ?_
    refine wpList_load_row rfl 35 _ rfl (w.heap.size + 1) rfl 35 (o0 x g false) (0, 0) _ xE.z.h4 underlying35 rfl dK ?_
    have uS := xE.z.row 12 rfl
    have xI := xE.z.row 13 rfl
    go_wp2_with (fail)
    clear uS xI
    refine (fU _ _ _ _ _ _ _ _ _ _ _ _ _).mono ?_
    rintro e w7 ⟨rfl, jf⟩
    have Fh := iD (xE.ab jf)
    have yw := Fh.z.row 10 rfl
    have AS := Fh.z.fz 10
    clear jf
    go_upto_region 28 with (fail)
    clear yw AS
    have tw : Hid (Bg X w (w7.setCell ⟨w.heap.size, 10, none⟩ (.int .i64 (tj : Int))) (my q s k (.slice Q8 k c8) (.slice Q9 K c9) (tj : Int) (-1) (nb : Int) 0 false) (o0 x g false) Q8 s.aj Q9 (dS (s.seq + 1) s.aj)) := Fh.set 10 (.int .i64 (tj : Int))
    generalize w7.setCell ⟨w.heap.size, 10, none⟩ (.int .i64 (tj : Int)) = V7 at tw ⊢
    refine wp_region_list ?_
    refine wpList_load_row rfl 43 _ rfl w.heap.size rfl 43 (my q s k (.slice Q8 k c8) (.slice Q9 K c9) (tj : Int) (-1) (nb : Int) 0 false) (0, 0) _ tw.z.h underlying43 rfl aP ?_
    obtain ⟨gY, iF, jV⟩ := tw.z.h8
    refine wpList_store_row rfl 43 _ _ rfl (w.heap.size + 2) (my q s k (.slice Q8 k c8) (.slice Q9 K c9) (tj : Int) (-1) (nb : Int) 0 false) rfl rfl 43 gY jV aP iF (iv ..) ?_
    go_wp2
    (try simp only [Exit.inBlock, Exit.then])
    refine rI rfl (setRow_heap _ _ _ _ _ _ jV) aP ⟨Q8, c8, Q9, c9, nb, 0, (-1), by rw [GZ] <;> rfl, below_setRow tw.z.below oM _, tw.ON _, tw.OM _, FF.1, FF.2, Di.1, Di.2, .inr ⟨UR, Bj.symm, rfl, by rw [iP DF.out]⟩⟩
   have tz := iD Dw
   have HJ0 := iD hj0
   clear Dw hj0
   have f1 := tz.z.ll 1 rfl
   have xI := tz.z.row 13 rfl
   have hj1 : decide ((j0 : Int) < 0) = false := by simp
   by_cases aW : t < T
   ·go_upto_region 27 with (fail)
    clear f1 xI
    go_upto_region 27 with (fail)
    obtain ⟨tj, qi⟩ := ex ((s.first + s.block) * g.pg + j0 * K)
    have GZ := iD qi
    have fU := iD (Zx wr s.block j0 oM oM)
    rw [qi] at fU
    clear qi
    refine wp_region_list ?_
    refine wpList_load_row rfl 43 _ rfl w.heap.size rfl 43 (my q s k (.slice Q8 k c8) (.slice Q9 K c9) q.pg (-1) (s.block : Int) (j0 : Int) false) (0, 0) _ tz.z.h underlying43 rfl aP ?_
    refine wpList_load_row rfl 35 _ rfl (w.heap.size + 1) rfl 35 (o0 x g false) (0, 0) _ tz.z.h4 underlying35 rfl dK ?_
    have uS := tz.z.row 12 rfl
    have xI := tz.z.row 13 rfl
    go_wp2_with (fail)
    clear uS xI
    refine (fU _ _ _ _ _ _ _ _ _ _ _ _ _).mono ?_
    rintro e w7 ⟨rfl, jf⟩
    have Fh := iD (tz.ab jf)
    have yw := Fh.z.row 10 rfl
    have AS := Fh.z.fz 10
    clear jf
    go_upto_region 28 with (fail)
    clear yw AS
    have tw : Hid (Bg X w (w7.setCell ⟨w.heap.size, 10, none⟩ (.int .i64 (tj : Int))) (my q s k (.slice Q8 k c8) (.slice Q9 K c9) (tj : Int) (-1) (s.block : Int) (j0 : Int) false) (o0 x g false) Q8 s.aj Q9 (dS (s.seq + 1) s.aj)) := Fh.set 10 (.int .i64 (tj : Int))
    generalize w7.setCell ⟨w.heap.size, 10, none⟩ (.int .i64 (tj : Int)) = V7 at tw ⊢
    refine wp_region_list ?_
    refine wpList_load_row rfl 43 _ rfl w.heap.size rfl 43 (my q s k (.slice Q8 k c8) (.slice Q9 K c9) (tj : Int) (-1) (s.block : Int) (j0 : Int) false) (0, 0) _ tw.z.h underlying43 rfl aP ?_
    obtain ⟨gY, iF, jV⟩ := tw.z.h8
    refine wpList_store_row rfl 43 _ _ rfl (w.heap.size + 2) (my q s k (.slice Q8 k c8) (.slice Q9 K c9) (tj : Int) (-1) (s.block : Int) (j0 : Int) false) rfl rfl 43 gY jV aP iF (iv ..) ?_
    go_wp2
    (try simp only [Exit.inBlock, Exit.then])
    refine rI rfl (setRow_heap _ _ _ _ _ _ jV) aP ⟨Q8, c8, Q9, c9, s.block, j0, (-1), by rw [GZ] <;> rfl, below_setRow tw.z.below oM _, tw.ON _, tw.OM _, FF.1, FF.2, Di.1, Di.2, .inl ⟨HJ0, rfl, rfl⟩⟩
   have sR : decide (t < T) = false := by simpa using aW
   go_upto_region 27 with (fail)
   clear f1 xI sR
   go_upto_region 27 with (fail)
   obtain ⟨tj, qi⟩ := ex ((s.first + s.block) * g.pg + j0 * K)
   have GZ := iD qi
   have fU := iD (Zx wr s.block j0 oM oM)
   rw [qi] at fU
   clear qi
   refine wp_region_list ?_
   refine wpList_load_row rfl 43 _ rfl w.heap.size rfl 43 (my q s k (.slice Q8 k c8) (.slice Q9 K c9) q.pg (-1) (s.block : Int) (j0 : Int) false) (0, 0) _ tz.z.h underlying43 rfl aP ?_
   refine wpList_load_row rfl 35 _ rfl (w.heap.size + 1) rfl 35 (o0 x g false) (0, 0) _ tz.z.h4 underlying35 rfl dK ?_
   have uS := tz.z.row 12 rfl
   have xI := tz.z.row 13 rfl
   go_wp2_with (fail)
   clear uS xI
   refine (fU _ _ _ _ _ _ _ _ _ _ _ _ _).mono ?_
   rintro e w7 ⟨rfl, jf⟩
   have Fh := iD (tz.ab jf)
   have yw := Fh.z.row 10 rfl
   have AS := Fh.z.fz 10
   clear jf
   go_upto_region 28 with (fail)
   clear yw AS
   have tw : Hid (Bg X w (w7.setCell ⟨w.heap.size, 10, none⟩ (.int .i64 (tj : Int))) (my q s k (.slice Q8 k c8) (.slice Q9 K c9) (tj : Int) (-1) (s.block : Int) (j0 : Int) false) (o0 x g false) Q8 s.aj Q9 (dS (s.seq + 1) s.aj)) := Fh.set 10 (.int .i64 (tj : Int))
   generalize w7.setCell ⟨w.heap.size, 10, none⟩ (.int .i64 (tj : Int)) = V7 at tw ⊢
   refine wp_region_list ?_
   refine wpList_load_row rfl 43 _ rfl w.heap.size rfl 43 (my q s k (.slice Q8 k c8) (.slice Q9 K c9) (tj : Int) (-1) (s.block : Int) (j0 : Int) false) (0, 0) _ tw.z.h underlying43 rfl aP ?_
   obtain ⟨gY, iF, jV⟩ := tw.z.h8
   refine wpList_store_row rfl 43 _ _ rfl (w.heap.size + 2) (my q s k (.slice Q8 k c8) (.slice Q9 K c9) (tj : Int) (-1) (s.block : Int) (j0 : Int) false) rfl rfl 43 gY jV aP iF (iv ..) ?_
   go_wp2
   (try simp only [Exit.inBlock, Exit.then])
   refine rI rfl (setRow_heap _ _ _ _ _ _ jV) aP ⟨Q8, c8, Q9, c9, s.block, j0, (-1), by rw [GZ] <;> rfl, below_setRow tw.z.below oM _, tw.ON _, tw.OM _, FF.1, FF.2, Di.1, Di.2, .inl ⟨HJ0, rfl, rfl⟩⟩
end Go.Proofs.YtjdknddnanopaaaGreat
