/-
  Part 11 of the proof.
-/
import Derived.Test.YtjdknddnanopaaaGreatR10
namespace Go.Proofs.YtjdknddnanopaaaGreat
open Go.RowKit Tryz
set_option maxRecDepth 100000
set_option maxHeartbeats 16000000
set_option linter.all false
variable {X : Nat → Prop} {V w w' w0 : World} {g g9 : Fl} {a : Act} {s : St} {x : Rc} {u : Value} {M N fuel i k : Nat} {oi : Oper} {ax : Array Bool} {f l : Array Value} {P : Program} {fn : Func} {p p' : Tmp} {AW : TypeId} {o : Obj} {A : Option Addr} {xs : List Value} {b : List Int}
section
variable {P : Program} {ops : Array Oper} {Q : Exit → Act → World → Prop} {md : Region.Mode} {S : World → Prop}
theorem bE {op : Oper} (hw : Region.wanted op (yielded ops a.tmps) = true) (ty : TypeId) (x : Operand) (ho : op.op = .load ty x) 
 (g : Nat) (hx : a.eval x = .pointer (some ⟨g, 0, none⟩)) (t : TypeId) (cs : Array Value) (fr : Nat × Nat) (d : TypeDesc) (hS : ∀ w, S w → w.heap[g]? = some (.cells cs t fr))
 (hu : P.underlying ty = some d) (hd : (match d with | .struct _ | .array _ _ => true | _ => false) = true) (hi : (P.info? ty).map (·.size) = some cs.size) : YieldsIf P ops S op (.agg cs) a :=
 .inl ⟨hw, fun w hw' => by
  unfold execOp
  simp only [ho, hx, Instr.loadAt, Instr.sureAddr, Sem.run_bind, Sem.run_pure, Result.andThen_ok, run_loadVar_row w g t ty cs fr d (hS w hw') hu hd hi]⟩
theorem jK {op : Oper} (hw : Region.wanted op (yielded ops a.tmps) = true) (x : Operand) (ho : op.op = .assign x) : YieldsIf P ops S op (a.eval x) a :=
 .inl ⟨hw, fun w _ => by unfold execOp; simp [ho]⟩
theorem lN {op : Oper} (hw : Region.wanted op (yielded ops a.tmps) = true) (x : Operand) (ho : op.op = .move x) : YieldsIf P ops S op (a.eval x) a :=
 .inl ⟨hw, fun w _ => by unfold execOp; simp [ho]⟩
theorem cQ 
 (hr : Region.ready md ops ax = [i]) (hi : ops[i]? = some oi) (wi : Region.wanted oi (yielded ops a.tmps) = true) (di : oi.dst = none)
 (ti : TypeId) (xi yi : Operand) (hoi : oi.op = .store ti xi yi) (E : Nat) (c dZ : Array Value)
 (hxi : a.eval xi = .pointer (some ⟨E, 0, none⟩)) (hyi : a.eval yi = .agg c) (tE : TypeId)
 (hE : w.heap[E]? = some (.cells dZ tE (0, 0))) (Co : (P.info? ti).map (·.size) = some c.size)
 (VZ : dZ.size = c.size) (h1i : c.all (·.oneCell') = true)
 (hS : S (w.setRow E c)) (h : wpAnyH P md ops Q S fuel (ax.setIfInBounds i true) a (w.setRow E c)) : wpAnyH P md ops Q S (fuel + 1) ax a w := by
 refine wpAnyH_all hr (by simp) (fun k hk => ?_)
 simp only [List.mem_cons, List.not_mem_nil, or_false] at hk
 subst hk
 refine wpOp_step hi (fun K' hK => ?_)
 rw [iP wi]
 refine wp_store_row ti xi yi hoi E c hxi hyi tE dZ hE Co VZ h1i ?_
 rw [di, show a.put none undef = a from rfl]
 exact hK _ _ ⟨hS, h⟩
theorem nE 
 (hr : Region.ready md ops ax = [i]) (hi : ops[i]? = some oi) (wi : Region.wanted oi (yielded ops a.tmps) = true) (ty : TypeId) (x : Operand) (ho : oi.op = .load ty x)
 (g : Nat) (hx : a.eval x = .pointer (some ⟨g, 0, none⟩)) (t : TypeId) (cs : Array Value) (d : TypeDesc) (hg : w.heap[g]? = some (.cells cs t (0, 0)))
 (hu : P.underlying ty = some d) (hd : (match d with | .struct _ | .array _ _ => true | _ => false) = true) (hsz : (P.info? ty).map (·.size) = some cs.size)
 (hS : S w) (h : wpAnyH P md ops Q S fuel (ax.setIfInBounds i true) (a.put oi.dst (.agg cs)) w) : wpAnyH P md ops Q S (fuel + 1) ax a w := by
 refine wpAnyH_all hr (by simp) (fun k hk => ?_)
 simp only [List.mem_cons, List.not_mem_nil, or_false] at hk
 subst hk
 refine wpOp_step hi (fun K' hK => ?_)
 rw [iP wi]
 exact wp_load_row ty x ho g hx t cs (0, 0) d hg hu hd hsz (hK _ _ ⟨hS, h⟩)
theorem jv {n : Nat} {al : List Value} 
 (hr : Region.ready md ops ax = [i]) (hi : ops[i]? = some oi) (wi : Region.wanted oi (yielded ops a.tmps) = true) (xl : List Operand) (JZ : Array TypeId) (ho : oi.op = .call { callee := .value (.func n), args := xl.toArray, argTypes := JZ }) (hargs : xl.map a.eval = al) (vU : ∀ (args : Array Value) (w : World), (callFunc n args).run P w = .ok (.enter n args) w)
 (h : Calls P n al.toArray w fun e w' => ∃ v, e = .returned v ∧ S w' ∧ wpAnyH P md ops Q S fuel (ax.setIfInBounds i true) (a.put oi.dst v) w') : wpAnyH P md ops Q S (fuel + 1) ax a w := by
 refine wpAnyH_all hr (by simp) (fun k hk => ?_)
 simp only [List.mem_cons, List.not_mem_nil, or_false] at hk
 subst hk
 refine wpOp_step hi (fun K' hK => ?_)
 rw [iP wi]
 have he : (execOp a.eval oi).run P w = .ok (.enter n al.toArray) w := by
  obtain ⟨dst, op, ty, pos, after, guard⟩ := oi
  simp only at ho
  subst ho
  rw [execOp_call_go, show (#[] ++ xl.toArray.map a.eval ++ #[] : Array Value) = al.toArray by rw [← hargs]; simp]
  exact vU _ _
 unfold Oper.wp
 rw [he, Oper.upon_enter]
 refine h.mono ?_
 rintro e w' ⟨v, rfl, h1, h2⟩
 exact hK _ _ ⟨h1, h2⟩
end
theorem Ah (args : Array Value) (w : World) : (callFunc 27 args).run prog w = .ok (.enter 27 args) w := by
 go_simp
theorem zv {u v : Tmp} {ty : TypeId} (h : fn.results = #[.cell p ty, .cell p' AW, .tmp u, .tmp v]) (tmps : Array Value) (w : World) (g g' : Nat) (t t' : TypeId) (cs cs' : Array Value) (d d' : TypeDesc) 
 (hp : tmps.getD p undef = .pointer (some ⟨g, 0, none⟩)) (Nj : tmps.getD p' undef = .pointer (some ⟨g', 0, none⟩)) (hg : w.heap[g]? = some (.cells cs t (0, 0))) (du : w.heap[g']? = some (.cells cs' t' (0, 0)))
 (hu : P.underlying ty = some d) (hd : (match d with | .struct _ | .array _ _ => true | _ => false) = true) (hi : (P.info? ty).map (·.size) = some cs.size)
 (ql : P.underlying AW = some d') (kW : (match d' with | .struct _ | .array _ _ => true | _ => false) = true) (Cu : (P.info? AW).map (·.size) = some cs'.size) :
 (results fn tmps).run P w = .ok (.tuple #[.agg cs, .agg cs', tmps.getD u undef, tmps.getD v undef]) w := by
 have e1 := run_loadVar_row (P := P) w g t ty cs (0, 0) d hg hu hd hi
 have e2 := run_loadVar_row (P := P) w g' t' AW cs' (0, 0) d' du ql kW Cu
 simp only [Array.getD_eq_getD_getElem?] at hp Nj
 simp [results, h, Sem.run_bind, hp, Nj, asAddr, e1, e2]
theorem lQ {u : Tmp} {ty : TypeId} (h : fn.results = #[.cell p ty, .cell p' AW, .tmp u]) (tmps : Array Value) (w : World) (g g' : Nat) (t t' : TypeId) (cs cs' : Array Value) (d d' : TypeDesc) 
 (hp : tmps.getD p undef = .pointer (some ⟨g, 0, none⟩)) (Nj : tmps.getD p' undef = .pointer (some ⟨g', 0, none⟩)) (hg : w.heap[g]? = some (.cells cs t (0, 0))) (du : w.heap[g']? = some (.cells cs' t' (0, 0)))
 (hu : P.underlying ty = some d) (hd : (match d with | .struct _ | .array _ _ => true | _ => false) = true) (hi : (P.info? ty).map (·.size) = some cs.size)
 (ql : P.underlying AW = some d') (kW : (match d' with | .struct _ | .array _ _ => true | _ => false) = true) (Cu : (P.info? AW).map (·.size) = some cs'.size) :
 (results fn tmps).run P w = .ok (.tuple #[.agg cs, .agg cs', tmps.getD u undef]) w := by
 have e1 := run_loadVar_row (P := P) w g t ty cs (0, 0) d hg hu hd hi
 have e2 := run_loadVar_row (P := P) w g' t' AW cs' (0, 0) d' du ql kW Cu
 simp only [Array.getD_eq_getD_getElem?] at hp Nj
 simp [results, h, Sem.run_bind, hp, Nj, asAddr, e1, e2]
structure Hy (w wr : World) (l f : Array Value) : Prop where
 below : bW w wr
 h : wr.heap[w.heap.size]? = some (.cells l 43 (0, 0))
 h4 : wr.heap[w.heap.size + 1]? = some (.cells f 35 (0, 0))
 h8 : ∃ dZ : Array Value, dZ.size = 15 ∧ wr.heap[w.heap.size + 2]? = some (.cells dZ 43 (0, 0))
 h9 : ∃ dZ : Array Value, dZ.size = 6 ∧ wr.heap[w.heap.size + 3]? = some (.cells dZ 35 (0, 0))
section
variable {w wr w' : World} {l f : Array Value}
theorem Hy.lt (h : Hy w wr l f) : w.heap.size + 3 < wr.heap.size := by
 obtain ⟨dZ, _, h9⟩ := h.h9
 exact (Array.getElem?_eq_some_iff.1 h9).1
theorem Hy.ab (h : Hy w wr l f) (hb : bW wr w') : Hy w w' l f := by
 have hl := h.lt
 obtain ⟨dZ, ho, h8⟩ := h.h8
 obtain ⟨uo, Gz, h9⟩ := h.h9
 exact ⟨h.below.trans (hb.mono h.below.size), (hb.block _ oM).trans h.h, (hb.block _ oM).trans h.h4, ⟨dZ, ho, (hb.block _ oM).trans h8⟩, ⟨uo, Gz, (hb.block _ hl).trans h9⟩⟩
theorem Hy.row (h : Hy w wr l f) (j : Nat) (hj : l.toList[j]? = some u) : wr.cell? ⟨w.heap.size, j, none⟩ = some u := (cell_of_row wr _ j l 43 (0, 0) h.h).trans (by rw [← Array.getElem?_toList]; exact hj)
theorem Hy.fz (h : Hy w wr l f) (j : Nat) : wr.frozen? ⟨w.heap.size, j, none⟩ = false := frozen_of_row wr _ j l 43 h.h
theorem Hy.ll (h : Hy w wr l f) (j : Nat) (hj : f.toList[j]? = some u) : wr.cell? ⟨w.heap.size + 1, j, none⟩ = some u := (cell_of_row wr _ j f 35 (0, 0) h.h4).trans (by rw [← Array.getElem?_toList]; exact hj)
theorem Hy.UN (h : Hy w wr l f) (j : Nat) : wr.frozen? ⟨w.heap.size + 1, j, none⟩ = false := frozen_of_row wr _ j f 35 h.h4
theorem Hy.set (h : Hy w wr l f) (i : Nat) (v : Value) : Hy w (wr.setCell ⟨w.heap.size, i, none⟩ v) (l.setIfInBounds i v) f := by
 obtain ⟨dZ, ho, h8⟩ := h.h8
 obtain ⟨uo, Gz, h9⟩ := h.h9
 exact ⟨h.below.setCell (p := ⟨w.heap.size, i, none⟩) cV _, heap_setCell_same wr _ i l 43 v h.h, (heap_setCell_other wr ⟨w.heap.size, i, none⟩ _ v (by simp)).trans h.h4, ⟨dZ, ho, (heap_setCell_other wr ⟨w.heap.size, i, none⟩ _ v (by simp)).trans h8⟩, ⟨uo, Gz, (heap_setCell_other wr ⟨w.heap.size, i, none⟩ _ v (by simp)).trans h9⟩⟩
theorem Hy.BJ (h : Hy w wr l f) (i : Nat) (v : Value) : Hy w (wr.setCell ⟨w.heap.size + 1, i, none⟩ v) l (f.setIfInBounds i v) := by
 obtain ⟨dZ, ho, h8⟩ := h.h8
 obtain ⟨uo, Gz, h9⟩ := h.h9
 exact ⟨h.below.setCell (p := ⟨w.heap.size + 1, i, none⟩) (Nat.le_succ _) _, (heap_setCell_other wr ⟨w.heap.size + 1, i, none⟩ _ v (by simp)).trans h.h, heap_setCell_same wr _ i f 35 v h.h4, ⟨dZ, ho, (heap_setCell_other wr ⟨w.heap.size + 1, i, none⟩ _ v (by simp)).trans h8⟩, ⟨uo, Gz, (heap_setCell_other wr ⟨w.heap.size + 1, i, none⟩ _ v (by simp)).trans h9⟩⟩
theorem Hy.put (h : Hy w wr l f) (cs : Array Value) : Hy w (wr.setRow w.heap.size cs) cs f := by
 obtain ⟨dZ, ho, h8⟩ := h.h8
 obtain ⟨uo, Gz, h9⟩ := h.h9
 exact ⟨below_setRow h.below cV _, setRow_heap _ _ _ _ _ _ h.h, (setRow_other _ _ _ _ oM).trans h.h4, ⟨dZ, ho, (setRow_other _ _ _ _ oM).trans h8⟩, ⟨uo, Gz, (setRow_other _ _ _ _ oM).trans h9⟩⟩
theorem Hy.Ef (h : Hy w wr l f) (cs : Array Value) : Hy w (wr.setRow (w.heap.size + 1) cs) l cs := by
 obtain ⟨dZ, ho, h8⟩ := h.h8
 obtain ⟨uo, Gz, h9⟩ := h.h9
 exact ⟨below_setRow h.below (Nat.le_succ _) _, (setRow_other _ _ _ _ oM).trans h.h, setRow_heap _ _ _ _ _ _ h.h4, ⟨dZ, ho, (setRow_other _ _ _ _ oM).trans h8⟩, ⟨uo, Gz, (setRow_other _ _ _ _ oM).trans h9⟩⟩
theorem Hy.new {o' : Obj} (hV : V = (((w.alloc (.cells l 43)).alloc (.cells f 35)).alloc o).alloc o') (ho : ∃ dZ : Array Value, dZ.size = 15 ∧ o = .cells dZ 43) (Gz : ∃ dZ : Array Value, dZ.size = 6 ∧ o' = .cells dZ 35) : Hy w V l f := by
 obtain ⟨dZ, h1, rfl⟩ := ho
 obtain ⟨uo, JY, rfl⟩ := Gz
 subst hV
 have s1 : ∀ (w : World) (o : Obj), (w.alloc o).heap.size = w.heap.size + 1 := fun w o => Array.size_push _
 have hA := fun (w : World) (o : Obj) (i : Nat) (hi : i < w.heap.size) => heap_alloc_old w o hi
 have hN := fun (w : World) (o : Obj) => heap_alloc_new w o
 refine ⟨?_, ?_, ?_, ⟨dZ, h1, ?_⟩, ⟨uo, JY, ?_⟩⟩
 ·exact (((ck w _ _).alloc (by rw [s1, s1]; omega) _).alloc (by rw [s1, s1, s1]; omega) _)
 ·rw [hA _ _ _ (by rw [s1, s1, s1]; omega), hA _ _ _ (by rw [s1, s1]; omega), hA _ _ _ (by rw [s1]; omega)]
  exact hN _ _
 ·rw [hA _ _ _ (by rw [s1, s1, s1]; omega), hA _ _ _ (by rw [s1, s1]; omega)]
  have := hN (w.alloc (.cells l 43)) (.cells f 35)
  rw [s1] at this
  exact this
 ·rw [hA _ _ _ (by rw [s1, s1, s1]; omega)]
  have := hN ((w.alloc (.cells l 43)).alloc (.cells f 35)) (.cells dZ 43)
  rw [s1, s1] at this
  exact this
 have := hN (((w.alloc (.cells l 43)).alloc (.cells f 35)).alloc (.cells dZ 43)) (.cells uo 35)
 rw [s1, s1, s1] at this
 exact this
end
theorem Cb (a1 a4 : Int) (Q0 Q2 Q5 : Option Addr) (n0 c0 n2 c2 n5 c5 : Nat) (b : Bool) :
 (#[Value.slice Q0 n0 c0, .int .i64 a1, .slice Q2 n2 c2, .bool b, .int .i64 a4, .slice Q5 n5 c5].all (·.oneCell')) = true := by
 simp [Value.oneCell']
theorem ah.row (w : World) (g : Nat) (cs : Array Value) (h : X g) : ah X w (w.setRow g cs) :=
 ⟨by rw [size_setRow]; exact Nat.le_refl _, fun k _ hk => setRow_other w g k cs (fun e => hk (e ▸ h))⟩
theorem ca.ao (h : ca X w x g) (k : ah X w w') : ca X w' x g :=
 ⟨h.ok, h.a.ao k, h.a1, h.a2, h.b.ao k, h.b1, h.b2, h.p.ao k, h.p1, h.p2⟩
def XN (X : Nat → Prop) (N : Nat) (b : Nat) : Prop := X b ∨ (N ≤ b ∧ b ≤ N + 3)
theorem XN.lt (h : ∀ b, X b → b < N) (hM : N + 3 < M) : ∀ b, XN X N b → b < M := fun b hb => by
 rcases hb with h1 | h1
 ·have := h b h1
  omega
 omega
theorem cn.xn (h : cn X w A xs) (hb : bW w w') : cn (XN X w.heap.size) w' A xs := fun hx => by
 obtain ⟨b, off, e, aY, hn, hc⟩ := h hx
 refine ⟨b, off, e, Nat.lt_of_lt_of_le aY hb.size, fun hk => ?_, fun j u hu => (hb.cell (p := ⟨b, off + j, none⟩) aY).trans (hc j u hu)⟩
 rcases hk with h1 | h1
 ·exact hn h1
 omega
theorem ca.xn (h : ca X w x g) (hb : bW w w') : ca (XN X w.heap.size) w' x g :=
 ⟨h.ok, h.a.xn hb, h.a1, h.a2, h.b.xn hb, h.b1, h.b2, h.p.xn hb, h.p1, h.p2⟩
theorem ca.Od (h : ca (XN X N) w x g) : ca X w x g := h.cU (fun _ => .inl)
theorem vd (X : Nat → Prop) (N : Nat) : XN X N N := .inr ⟨Nat.le_refl _, Nat.le_add_right _ _⟩
theorem RG (X : Nat → Prop) (N : Nat) : XN X N (N + 1) := .inr ⟨Nat.le_add_right _ _, oM⟩
theorem RF (X : Nat → Prop) (N : Nat) : XN X N (N + 2) := .inr ⟨Nat.le_add_right _ _, oM⟩
theorem RE (X : Nat → Prop) (N : Nat) : XN X N (N + 3) := .inr ⟨Nat.le_add_right _ _, oM⟩
theorem Hy.MA {wr : World} {a' b' c' d' e' u' : Value} (h : Hy w wr l #[a', b', c', d', e', u']) (a b c d e u : Value) :
 Hy w ((((((wr.setCell ⟨w.heap.size + 1, 0, none⟩ a).setCell ⟨w.heap.size + 1, 1, none⟩ b).setCell ⟨w.heap.size + 1, 2, none⟩ c).setCell ⟨w.heap.size + 1, 3, none⟩ d).setCell ⟨w.heap.size + 1, 4, none⟩ e).setCell ⟨w.heap.size + 1, 5, none⟩ u) l #[a, b, c, d, e, u] :=
 (((((h.BJ 0 a).BJ 1 b).BJ 2 c).BJ 3 d).BJ 4 e).BJ 5 u
theorem ah.MA (w : World) (D : Nat) (a b c d e u : Value) (h : X D) :
 ah X w ((((((w.setCell ⟨D, 0, none⟩ a).setCell ⟨D, 1, none⟩ b).setCell ⟨D, 2, none⟩ c).setCell ⟨D, 3, none⟩ d).setCell ⟨D, 4, none⟩ e).setCell ⟨D, 5, none⟩ u) :=
 (((((ah.set _ ⟨D, 0, none⟩ _ h).trans (ah.set _ ⟨D, 1, none⟩ _ h)).trans (ah.set _ ⟨D, 2, none⟩ _ h)).trans (ah.set _ ⟨D, 3, none⟩ _ h)).trans (ah.set _ ⟨D, 4, none⟩ _ h)).trans (ah.set _ ⟨D, 5, none⟩ _ h)
theorem Hy.ret (h : Hy w0 w l f) (Y : Nat → Prop) : ∃ V, (w.drew.setRow (w0.heap.size + 2) l).setRow (w0.heap.size + 3) f = V ∧ ah (XN Y w0.heap.size) w V ∧ bW w0 V ∧
 (w.drew.heap[w0.heap.size]? = some (.cells l 43 (0, 0)) ∧ w.drew.heap[w0.heap.size + 1]? = some (.cells f 35 (0, 0))) ∧
 (∃ o : Array Value, o.size = 15 ∧ w.drew.heap[w0.heap.size + 2]? = some (.cells o 43 (0, 0))) ∧ (∃ o : Array Value, o.size = 6 ∧ (w.drew.setRow (w0.heap.size + 2) l).heap[w0.heap.size + 3]? = some (.cells o 35 (0, 0))) ∧
 ((w.drew.setRow (w0.heap.size + 2) l).heap[w0.heap.size]? = some (.cells l 43 (0, 0)) ∧ (w.drew.setRow (w0.heap.size + 2) l).heap[w0.heap.size + 1]? = some (.cells f 35 (0, 0))) ∧
 (V.heap[w0.heap.size]? = some (.cells l 43 (0, 0)) ∧ V.heap[w0.heap.size + 1]? = some (.cells f 35 (0, 0))) ∧ V.heap[w0.heap.size + 2]? = some (.cells l 43 (0, 0)) ∧ V.heap[w0.heap.size + 3]? = some (.cells f 35 (0, 0)) := by
 have HD := h.ab fY
 obtain ⟨o8, iH, jV⟩ := HD.h8
 obtain ⟨o9, kU, Nq⟩ := HD.h9
 have a0 := (setRow_other w.drew (w0.heap.size + 2) w0.heap.size l oM).trans HD.h
 have a1 := (setRow_other w.drew (w0.heap.size + 2) (w0.heap.size + 1) l oM).trans HD.h4
 have a3 := (setRow_other w.drew (w0.heap.size + 2) (w0.heap.size + 3) l oM).trans Nq
 exact ⟨_, rfl, ((ah.ak fY).trans (ah.row _ _ _ (RF _ _))).trans (ah.row _ _ _ (RE _ _)), below_setRow (below_setRow HD.below oM _) oM _, ⟨HD.h, HD.h4⟩, ⟨o8, iH, jV⟩, ⟨o9, kU, a3⟩, ⟨a0, a1⟩,
  ⟨(setRow_other _ _ _ _ oM).trans a0, (setRow_other _ _ _ _ oM).trans a1⟩, (setRow_other _ _ _ _ oM).trans (setRow_heap _ _ _ _ _ _ jV), setRow_heap _ _ _ _ _ _ a3⟩
theorem BM {p : Prop} {X : World → Prop} (Y : Nat → Prop) (HY : Hid (Hy w0 w l f)) (post : ∀ w', ah (XN Y w0.heap.size) w w' → bW w0 w' → X w') 
 (h : Hid (Hy w0 w l f) → (∀ w', ah (XN Y w0.heap.size) w w' → bW w0 w' → X w') → p := by
  intro HY post
  obtain ⟨V, hV, o, b, h0, ⟨o8, e8, k8⟩, ⟨o9, e9, k9⟩, h1, h2, r8, r9⟩ := Hy.ret (Hid.out HY) _
  refine wp_region_held_drew (S := fun w' => w'.heap[(_ : Nat)]? = some (Obj.cells _ 43 (0, 0)) ∧ w'.heap[(_ : Nat)]? = some (Obj.cells _ 35 (0, 0))) (by kernel_rfl) h0 (fun _ => ?_)
  refine tL 0 _ rfl (bE rfl 43 _ rfl _ rfl 43 _ (0, 0) _ (fun _ h => h.1) underlying43 rfl aP) h0 ?_
  refine tL 1 _ rfl (bE rfl 35 _ rfl _ rfl 35 _ (0, 0) _ (fun _ h => h.2) underlying35 rfl dK) h0 ?_
  refine cQ (i := 2) (by kernel_rfl) rfl (by rfl) rfl 43 _ _ rfl _ _ o8 rfl rfl 43 k8 aP e8 (ix ..) h1 ?_
  refine cQ (i := 3) (by kernel_rfl) rfl (by rfl) rfl 35 _ _ rfl _ _ o9 rfl rfl 35 k9 dK e9 (Cb ..) (hV ▸ h2) ?_
  rw [hV]
  refine tV 4 _ h2 ?_ (k := Nd (he := fun _ => rfl))
  refine tV 5 _ h2 ?_ (k := Nd (he := fun _ => rfl))
  refine wD ?_
  go_wp2
  (try simp only [Exit.inBlock, Exit.then])
  exact bodyPost_ret (zv rfl _ _ _ _ 43 35 _ _ _ _ rfl rfl r8 r9 underlying43 rfl aP underlying35 rfl dK) rfl (post V o b)) : p := h HY post
theorem NS (w : World) (q : Qv) (s : St) (x : Rc) (g : Fl) :
 Calls prog 84 #[.agg (Px q s true), .agg (aX x g)] w fun e w' => e = .returned (.tuple #[.agg (Px q s true), .agg (aX x g), .bool false, .int .i64 20]) ∧ bW w w' := by
 obtain ⟨W, hW⟩ := ex ((((w.alloc (.cells (Px q s true) 43)).alloc (.cells (aX x g) 35)).alloc (.cells qB 43)).alloc (.cells Bi 35))
 have HY := iD (Hy.new hW.symm ⟨_, rfl, rfl⟩ ⟨_, rfl, rfl⟩)
 have tN := HY.row 14 rfl
 go_enter func84, ntmps84
 go_upto_region 2 with (fail)
 try rw [hW]
 clear hW
 refine BM (fun _ => False) HY ?_
 exact fun _ o b => ⟨rfl, b⟩
theorem NO (w : World) (q : Qv) (s : St) (x : Rc) (g : Fl) (c5 : Nat) :
 Calls prog 84 #[.agg (ud q s (.slice q.Q5 0 c5) q.pg q.er false), .agg (aX x g)] w fun e w' => e = .returned (.tuple #[.agg (ud q s (.slice q.Q5 0 c5) q.pg q.er false), .agg (aX x g), .bool false, .int .i64 12]) ∧ bW w w' := by
 obtain ⟨W, hW⟩ := ex ((((w.alloc (.cells (ud q s (.slice q.Q5 0 c5) q.pg q.er false) 43)).alloc (.cells (aX x g) 35)).alloc (.cells qB 43)).alloc (.cells Bi 35))
 have HY := iD (Hy.new hW.symm ⟨_, rfl, rfl⟩ ⟨_, rfl, rfl⟩)
 have tN := HY.row 14 rfl
 have r9 := HY.row 9 rfl
 go_enter func84, ntmps84
 go_upto_region 4 with (fail)
 try rw [hW]
 clear hW
 refine BM (fun _ => False) HY ?_
 exact fun _ o b => ⟨rfl, b⟩
theorem NR (w : World) (q : Qv) (s : St) (x : Rc) (g : Fl) (hR : ca X w x g) (hX : ∀ b, X b → b < w.heap.size) (m c5 gf : Nat) (hm : 0 < m) (SC : m ≤ 8) (Ww : gf ≤ 1000) (g9 : Fl) (k9 : Int) (hE : aR g gf = (g9, k9)) :
 Calls prog 84 #[.agg (ud q s (.slice q.Q5 m c5) q.pg (gf : Int) false), .agg (aX x g)] w fun e w' => ∃ y9 : Rc, ca X w' y9 g9 ∧ bW w w' ∧
  (k9 = 0 → e = .returned (.tuple #[.agg (ud q s (.slice q.Q5 m c5) q.pg (-1) false), .agg (aX y9 g9), .bool false, .int .i64 0])) ∧
  (k9 ≠ 0 → e = .returned (.tuple #[.agg (ud q s (.slice q.Q5 m c5) q.pg (gf : Int) true), .agg (aX y9 g9), .bool false, .int .i64 20])) := by
 obtain ⟨W, hW⟩ := ex ((((w.alloc (.cells (ud q s (.slice q.Q5 m c5) q.pg (gf : Int) false) 43)).alloc (.cells (aX x g) 35)).alloc (.cells qB 43)).alloc (.cells Bi 35))
 have HY := iD (Hy.new hW.symm ⟨_, rfl, rfl⟩ ⟨_, rfl, rfl⟩)
 have tN := HY.row 14 rfl
 have r9 := HY.row 9 rfl
 have AY := HY.row 11 rfl
 have hsz := HY.lt
 have ny := iD (qv (hR.xn HY.below) (XN.lt hX hsz) (gf : Int))
 rw [hE] at ny
 simp only at ny
 clear hR hX hE hsz
 go_enter func84, ntmps84
 go_upto_region 7 with (fail)
 try rw [hW]
 clear hW
 refine wp_region_list ?_
 refine wpList_load_row rfl 35 _ rfl (w.heap.size + 1) rfl 35 _ (0, 0) _ HY.h4 underlying35 rfl dK ?_
 go_wp2_with (fail)
 refine ny.mono ?_
 rintro e w9 ⟨y9, rfl, GG, oL⟩
 have iK := iD (HY.ab oL)
 have mD := iD GG
 clear oL GG tN r9 AY
 have f0 := iK.ll 0 rfl
 have e0 := iK.UN 0
 have f1 := iK.ll 1 rfl
 have e1 := iK.UN 1
 have f2 := iK.ll 2 rfl
 have e2 := iK.UN 2
 have f3 := iK.ll 3 rfl
 have e3 := iK.UN 3
 have f4 := iK.ll 4 rfl
 have e4 := iK.UN 4
 have f5 := iK.ll 5 rfl
 have e5 := iK.UN 5
 by_cases hk : k9 = 0
 ·have hk' : (k9 == 0) = true := by simpa using hk
  have HK := iD hk
  clear hk
  go_upto_region 9 with (fail)
  clear f0 f1 f2 f3 f4 f5 e0 e1 e2 e3 e4 e5
  have jq := iD (iK.MA (.slice y9.A g9.img.length y9.c) (.int .i64 g9.pg) (.slice y9.B g9.ar.length y9.d) (.bool g9.aF) (.int .i64 g9.be) (.slice y9.P g9.az.length y9.r))
  have mD := iD (mD.ao (ah.MA w9 (w.heap.size + 1) (.slice y9.A g9.img.length y9.c) (.int .i64 g9.pg) (.slice y9.B g9.ar.length y9.d) (.bool g9.aF) (.int .i64 g9.be) (.slice y9.P g9.az.length y9.r) (RG _ _)))
  generalize ((((((w9.setCell ⟨w.heap.size + 1, 0, none⟩ (.slice y9.A g9.img.length y9.c)).setCell ⟨w.heap.size + 1, 1, none⟩ (.int .i64 g9.pg)).setCell ⟨w.heap.size + 1, 2, none⟩ (.slice y9.B g9.ar.length y9.d)).setCell ⟨w.heap.size + 1, 3, none⟩ (.bool g9.aF)).setCell ⟨w.heap.size + 1, 4, none⟩ (.int .i64 g9.be)).setCell ⟨w.heap.size + 1, 5, none⟩ (.slice y9.P g9.az.length y9.r)) = V at jq mD ⊢
  have AY := jq.row 11 rfl
  have Kb := jq.fz 11
  go_upto_region 10 with (fail)
  have fJ : Hid (Hy w (V.setCell ⟨w.heap.size, 11, none⟩ (.int .i64 (-1))) (ud q s (.slice q.Q5 m c5) q.pg (-1) false) (aX y9 g9)) := jq.set 11 (.int .i64 (-1))
  have mD := iD (mD.ao (ah.set V ⟨w.heap.size, 11, none⟩ (.int .i64 (-1)) (vd _ _)))
  generalize V.setCell ⟨w.heap.size, 11, none⟩ (.int .i64 (-1)) = V1 at fJ mD ⊢
  clear AY Kb
  refine BM X fJ ?_
  exact fun _ o b => ⟨y9, (mD.ao o).Od, b, fun _ => rfl, fun h => absurd HK.out h⟩
 have hk' : (k9 == 0) = false := by simpa using hk
 have QK : (k9 != 0) = true := by simpa using hk
 have HK := iD hk
 clear hk
 go_upto_region 13 with (fail)
 clear f0 f1 f2 f3 f4 f5 e0 e1 e2 e3 e4 e5
 have jq := iD (iK.MA (.slice y9.A g9.img.length y9.c) (.int .i64 g9.pg) (.slice y9.B g9.ar.length y9.d) (.bool g9.aF) (.int .i64 g9.be) (.slice y9.P g9.az.length y9.r))
 have mD := iD (mD.ao (ah.MA w9 (w.heap.size + 1) (.slice y9.A g9.img.length y9.c) (.int .i64 g9.pg) (.slice y9.B g9.ar.length y9.d) (.bool g9.aF) (.int .i64 g9.be) (.slice y9.P g9.az.length y9.r) (RG _ _)))
 generalize ((((((w9.setCell ⟨w.heap.size + 1, 0, none⟩ (.slice y9.A g9.img.length y9.c)).setCell ⟨w.heap.size + 1, 1, none⟩ (.int .i64 g9.pg)).setCell ⟨w.heap.size + 1, 2, none⟩ (.slice y9.B g9.ar.length y9.d)).setCell ⟨w.heap.size + 1, 3, none⟩ (.bool g9.aF)).setCell ⟨w.heap.size + 1, 4, none⟩ (.int .i64 g9.be)).setCell ⟨w.heap.size + 1, 5, none⟩ (.slice y9.P g9.az.length y9.r)) = V at jq mD ⊢
 have tN := jq.row 14 rfl
 have Ha := jq.fz 14
 go_upto_region 14 with (fail)
 have fJ : Hid (Hy w (V.setCell ⟨w.heap.size, 14, none⟩ (.bool true)) (ud q s (.slice q.Q5 m c5) q.pg (gf : Int) true) (aX y9 g9)) := jq.set 14 (.bool true)
 have mD := iD (mD.ao (ah.set V ⟨w.heap.size, 14, none⟩ (.bool true) (vd _ _)))
 generalize V.setCell ⟨w.heap.size, 14, none⟩ (.bool true) = V1 at fJ mD ⊢
 clear tN Ha
 refine BM X fJ ?_
 exact fun _ o b => ⟨y9, (mD.ao o).Od, b, fun h => absurd h HK, fun _ => rfl⟩
theorem NQ (w : World) (q : Qv) (s : St) (x : Rc) (g : Fl) (hR : ca X w x g) (hX : ∀ b, X b → b < w.heap.size) (bp op m c5 pn : Nat) (hm : 0 < m) (SC : m ≤ 8) (hmc : m ≤ c5) (Ns : c5 ≤ maxLen) (zV : pn ≤ 2000) 
 (Qp : Option Addr) (cp : Nat) (pb : List Int) (eI : w.cell? ⟨bp, op, none⟩ = some (.slice Qp 64 cp)) (JT : cn X w Qp (ag .u8 pb)) (fA : pb.length = 64) (zZ : 64 ≤ cp) (fQ : cp ≤ maxLen) (qI : Bytes pb) (g9 : Fl) (k9 : Int) (hE : bz g pn pb = (g9, k9)) (hk : k9 ≠ 0) :
 Calls prog 84 #[.agg (ud q s (.slice (some ⟨bp, op, none⟩) m c5) (pn : Int) (-1) false), .agg (aX x g)] w fun e w' => ∃ y9 : Rc, ca X w' y9 g9 ∧ bW w w' ∧ e = .returned (.tuple #[.agg (ud q s (.slice (some ⟨bp, op, none⟩) m c5) (pn : Int) (-1) true), .agg (aX y9 g9), .bool false, .int .i64 20]) := by
 have QK : (k9 != 0) = true := by simpa using hk
 clear hk
 obtain ⟨W, hW⟩ := ex ((((w.alloc (.cells (ud q s (.slice (some ⟨bp, op, none⟩) m c5) (pn : Int) (-1) false) 43)).alloc (.cells (aX x g) 35)).alloc (.cells qB 43)).alloc (.cells Bi 35))
 have HY := iD (Hy.new hW.symm ⟨_, rfl, rfl⟩ ⟨_, rfl, rfl⟩)
 have tN := HY.row 14 rfl
 have r9 := HY.row 9 rfl
 have AY := HY.row 11 rfl
 have yy := HY.row 10 rfl
 have hsz := HY.lt
 have gg : Hid (bW w W.drew) := HY.below.trans ((Below.drew bV).mono HY.below.size)
 have mA := iD (mm (hR.xn gg) (XN.lt hX hsz) (pn : Int) Qp 64 cp pb (JT.xn gg).rd fA zZ fQ qI)
 rw [hE] at mA
 simp only at mA
 have aY := World.block_lt_of_cell? w _ eI
 have DO : Hid (∀ W', bW w W' → W'.cell? ⟨bp, op, none⟩ = some (.slice Qp 64 cp)) := fun W' hb => (hb.cell (p := ⟨bp, op, none⟩) aY).trans eI
 have nR : (0 : Int) < (m : Int) := oM
 unfold maxLen at Ns fQ
 have k0 := DO _ gg
 have tJ := (HY.ab fY).row 9 rfl
 have jx := (HY.ab fY).row 10 rfl
 have jg := iD (HY.ab fY)
 clear hR hX hE hsz eI JT fA zZ qI
 go_enter func84, ntmps84
 go_upto_region 11 with (fail)
 try rw [hW]
 clear hW
 refine wp_region_held (S := fun W' => W'.cell? ⟨w.heap.size, 9, none⟩ = some (.slice (some ⟨bp, op, none⟩) m c5) ∧ W'.cell? ⟨w.heap.size, 10, none⟩ = some (.int .i64 (pn : Int)) ∧ W'.cell? ⟨bp, op, none⟩ = some (.slice Qp 64 cp)) (by kernel_rfl) ?_
 change wpAnyH _ _ _ _ _ _ _ _ (World.drew _)
 refine tG 1 (.pointer (some ⟨w.heap.size, 10, none⟩)) ⟨tJ, jx, k0⟩ ?_
 refine tG 3 (.pointer (some ⟨w.heap.size, 9, none⟩)) ⟨tJ, jx, k0⟩ ?_
 refine tG 2 (.int .i64 (pn : Int)) ⟨tJ, jx, k0⟩ ?_
 refine tG 4 (.slice (some ⟨bp, op, none⟩) m c5) ⟨tJ, jx, k0⟩ ?_
 refine tG 5 (.pointer (some ⟨bp, op, none⟩)) ⟨tJ, jx, k0⟩ ?_
 refine tG 6 (.slice Qp 64 cp) ⟨tJ, jx, k0⟩ ?_
 refine nE (i := 0) (by kernel_rfl) rfl (by rfl) 35 _ rfl (w.heap.size + 1) rfl 35 (aX x g) _ jg.h4 underlying35 rfl dK ⟨tJ, jx, k0⟩ ?_
 change wpAnyH _ _ _ _ _ _ _ (Act.put _ (some 35) _) _
 simp only [nm]
 refine jv (i := 7) (al := [.agg (aX x g), .int .i64 (pn : Int), .slice Qp 64 cp]) (by kernel_rfl) rfl (by rfl) _ _ rfl (by rfl) Ah ?_
 refine mA.mono ?_
 rintro e w9 ⟨y9, rfl, GG, oL⟩
 have iK := iD (jg.ab oL)
 have mD := iD GG
 have jq := iD (iK.Ef (aX y9 g9))
 have jY := iD (mD.ao (ah.row w9 (w.heap.size + 1) (aX y9 g9) (RG _ _)))
 have S9 := iD (And.intro (iK.row 9 rfl) (And.intro (iK.row 10 rfl) (DO _ iK.below)))
 have T9 := iD (And.intro (jq.row 9 rfl) (And.intro (jq.row 10 rfl) (DO _ jq.below)))
 refine rW S9 ?_
 refine tG 8 (.tuple #[.agg (aX y9 g9), .int .i64 k9]) S9 ?_
 refine tG 9 (.agg (aX y9 g9)) S9 ?_
 refine tG 10 (.int .i64 k9) S9 ?_
 refine cQ (i := 11) (by kernel_rfl) rfl (by rfl) rfl 35 _ _ rfl (w.heap.size + 1) (aX y9 g9) (aX x g) rfl rfl 35 iK.h4 dK rfl (Cb ..) T9 ?_
 refine tG 12 (.int .i64 k9) T9 ?_
 refine wD ?_
 clear r9 yy AY tN tJ jx k0 GG oL
 generalize w9.setRow (w.heap.size + 1) (aX y9 g9) = V at jq jY ⊢
 have tN := jq.row 14 rfl
 have Ha := jq.fz 14
 go_upto_region 14 with (fail)
 have fJ : Hid (Hy w (V.setCell ⟨w.heap.size, 14, none⟩ (.bool true)) (ud q s (.slice (some ⟨bp, op, none⟩) m c5) (pn : Int) (-1) true) (aX y9 g9)) := jq.set 14 (.bool true)
 have mD := iD (jY.ao (ah.set V ⟨w.heap.size, 14, none⟩ (.bool true) (vd _ _)))
 generalize V.setCell ⟨w.heap.size, 14, none⟩ (.bool true) = V1 at fJ mD ⊢
 clear tN Ha
 refine BM X fJ ?_
 exact fun _ o b => ⟨y9, (mD.ao o).Od, b, rfl⟩
theorem NM (w : World) (q : Qv) (s : St) (x : Rc) (g : Fl) (hR : ca X w x g) (hX : ∀ b, X b → b < w.heap.size) (bp op m c5 pn : Nat) (hm : 0 < m) (SC : m ≤ 8) (hmc : m ≤ c5) (Ns : c5 ≤ maxLen) (zV : pn ≤ 2000) 
 (Qp : Option Addr) (cp : Nat) (pb : List Int) (eI : w.cell? ⟨bp, op, none⟩ = some (.slice Qp 64 cp)) (JT : cn X w Qp (ag .u8 pb)) (fA : pb.length = 64) (zZ : 64 ≤ cp) (fQ : cp ≤ maxLen) (qI : Bytes pb) (g9 : Fl) (k9 : Int) (hE : bz g pn pb = (g9, k9)) (hk : k9 = 0) (JP : 2 ≤ m) :
 Calls prog 84 #[.agg (ud q s (.slice (some ⟨bp, op, none⟩) m c5) (pn : Int) (-1) false), .agg (aX x g)] w fun e w' => ∃ y9 : Rc, ca X w' y9 g9 ∧ bW w w' ∧ e = .returned (.tuple #[.agg (ud q s (.slice (some ⟨bp, op + 1, none⟩) (m - 1) (c5 - 1)) ((pn : Int) + 1) (-1) false), .agg (aX y9 g9), .bool false, .int .i64 0]) := by
 have QK : (k9 != 0) = false := by simpa using hk
 clear hk
 obtain ⟨W, hW⟩ := ex ((((w.alloc (.cells (ud q s (.slice (some ⟨bp, op, none⟩) m c5) (pn : Int) (-1) false) 43)).alloc (.cells (aX x g) 35)).alloc (.cells qB 43)).alloc (.cells Bi 35))
 have HY := iD (Hy.new hW.symm ⟨_, rfl, rfl⟩ ⟨_, rfl, rfl⟩)
 have tN := HY.row 14 rfl
 have r9 := HY.row 9 rfl
 have AY := HY.row 11 rfl
 have yy := HY.row 10 rfl
 have hsz := HY.lt
 have gg : Hid (bW w W.drew) := HY.below.trans ((Below.drew bV).mono HY.below.size)
 have mA := iD (mm (hR.xn gg) (XN.lt hX hsz) (pn : Int) Qp 64 cp pb (JT.xn gg).rd fA zZ fQ qI)
 rw [hE] at mA
 simp only at mA
 have aY := World.block_lt_of_cell? w _ eI
 have DO : Hid (∀ W', bW w W' → W'.cell? ⟨bp, op, none⟩ = some (.slice Qp 64 cp)) := fun W' hb => (hb.cell (p := ⟨bp, op, none⟩) aY).trans eI
 have nR : (0 : Int) < (m : Int) := oM
 unfold maxLen at Ns fQ
 have k0 := DO _ gg
 have tJ := (HY.ab fY).row 9 rfl
 have jx := (HY.ab fY).row 10 rfl
 have jg := iD (HY.ab fY)
 clear hR hX hE hsz eI JT fA zZ qI
 go_enter func84, ntmps84
 go_upto_region 11 with (fail)
 try rw [hW]
 clear hW
 refine wp_region_held (S := fun W' => W'.cell? ⟨w.heap.size, 9, none⟩ = some (.slice (some ⟨bp, op, none⟩) m c5) ∧ W'.cell? ⟨w.heap.size, 10, none⟩ = some (.int .i64 (pn : Int)) ∧ W'.cell? ⟨bp, op, none⟩ = some (.slice Qp 64 cp)) (by kernel_rfl) ?_
 change wpAnyH _ _ _ _ _ _ _ _ (World.drew _)
 refine tG 1 (.pointer (some ⟨w.heap.size, 10, none⟩)) ⟨tJ, jx, k0⟩ ?_
 refine tG 3 (.pointer (some ⟨w.heap.size, 9, none⟩)) ⟨tJ, jx, k0⟩ ?_
 refine tG 2 (.int .i64 (pn : Int)) ⟨tJ, jx, k0⟩ ?_
 refine tG 4 (.slice (some ⟨bp, op, none⟩) m c5) ⟨tJ, jx, k0⟩ ?_
 refine tG 5 (.pointer (some ⟨bp, op, none⟩)) ⟨tJ, jx, k0⟩ ?_
 refine tG 6 (.slice Qp 64 cp) ⟨tJ, jx, k0⟩ ?_
 refine nE (i := 0) (by kernel_rfl) rfl (by rfl) 35 _ rfl (w.heap.size + 1) rfl 35 (aX x g) _ jg.h4 underlying35 rfl dK ⟨tJ, jx, k0⟩ ?_
 change wpAnyH _ _ _ _ _ _ _ (Act.put _ (some 35) _) _
 simp only [nm]
 refine jv (i := 7) (al := [.agg (aX x g), .int .i64 (pn : Int), .slice Qp 64 cp]) (by kernel_rfl) rfl (by rfl) _ _ rfl (by rfl) Ah ?_
 refine mA.mono ?_
 rintro e w9 ⟨y9, rfl, GG, oL⟩
 have iK := iD (jg.ab oL)
 have mD := iD GG
 have jq := iD (iK.Ef (aX y9 g9))
 have jY := iD (mD.ao (ah.row w9 (w.heap.size + 1) (aX y9 g9) (RG _ _)))
 have S9 := iD (And.intro (iK.row 9 rfl) (And.intro (iK.row 10 rfl) (DO _ iK.below)))
 have T9 := iD (And.intro (jq.row 9 rfl) (And.intro (jq.row 10 rfl) (DO _ jq.below)))
 refine rW S9 ?_
 refine tG 8 (.tuple #[.agg (aX y9 g9), .int .i64 k9]) S9 ?_
 refine tG 9 (.agg (aX y9 g9)) S9 ?_
 refine tG 10 (.int .i64 k9) S9 ?_
 refine cQ (i := 11) (by kernel_rfl) rfl (by rfl) rfl 35 _ _ rfl (w.heap.size + 1) (aX y9 g9) (aX x g) rfl rfl 35 iK.h4 dK rfl (Cb ..) T9 ?_
 refine tG 12 (.int .i64 k9) T9 ?_
 refine wD ?_
 clear r9 yy AY tN tJ jx k0 GG oL
 generalize w9.setRow (w.heap.size + 1) (aX y9 g9) = V at jq jY ⊢
 have r9 := jq.row 9 rfl
 have yy := jq.row 10 rfl
 have z9 := jq.fz 9
 have AV := jq.fz 10
 have q1 : (1 : Int) ≤ (m : Int) := oM
 have q2 : (m : Int) ≤ (c5 : Int) := oM
 have q3 : ¬ c5 = 1 := oM
 have q4 : IntKind.i64.wrap ((pn : Int) + 1) = (pn : Int) + 1 := bf _ oM oM
 have q5 : 0 < m - 1 := oM
 go_upto_region 15 with (fail)
 go_region
 clear r9 yy z9 AV
 obtain ⟨V1, DG⟩ := ex ((V.setCell ⟨w.heap.size, 9, none⟩ (.slice (some ⟨bp, op + 1, none⟩) (m - 1) (c5 - 1))).setCell ⟨w.heap.size, 10, none⟩ (.int .i64 ((pn : Int) + 1))).drew
 have fJ : Hid (Hy w V1 (ud q s (.slice (some ⟨bp, op + 1, none⟩) (m - 1) (c5 - 1)) ((pn : Int) + 1) (-1) false) (aX y9 g9)) := by
  rw [← DG]
  exact ((jq.set 9 (.slice (some ⟨bp, op + 1, none⟩) (m - 1) (c5 - 1))).set 10 (.int .i64 ((pn : Int) + 1))).ab fY
 have mD : Hid (ca (XN X w.heap.size) V1 y9 g9) := by
  rw [← DG]
  exact jY.ao (((ah.set V ⟨w.heap.size, 9, none⟩ _ (vd _ _)).trans (ah.set _ ⟨w.heap.size, 10, none⟩ _ (vd _ _))).trans (ah.ak fY))
 try rw [DG]
 clear DG jq jY
 have r9 := fJ.row 9 rfl
 go_upto_region 17 with (fail)
 clear r9
 refine BM X fJ ?_
 exact fun _ o b => ⟨y9, (mD.ao o).Od, b, rfl⟩
theorem NN (w : World) (q : Qv) (s : St) (x : Rc) (g : Fl) (hR : ca X w x g) (hX : ∀ b, X b → b < w.heap.size) (bp op c5 pn : Nat) (hmc : 1 ≤ c5) (Ns : c5 ≤ maxLen) (zV : pn ≤ 2000) (fp : 0 ≤ s.seq) (gF : s.seq < 1099511627776) 
 (Qp : Option Addr) (cp : Nat) (pb : List Int) (eI : w.cell? ⟨bp, op, none⟩ = some (.slice Qp 64 cp)) (JT : cn X w Qp (ag .u8 pb)) (fA : pb.length = 64) (zZ : 64 ≤ cp) (fQ : cp ≤ maxLen) (qI : Bytes pb) (g9 : Fl) (k9 : Int) (hE : bz g pn pb = (g9, k9)) (hk : k9 = 0) :
 Calls prog 84 #[.agg (ud q s (.slice (some ⟨bp, op, none⟩) 1 c5) (pn : Int) (-1) false), .agg (aX x g)] w fun e w' => ∃ y9 : Rc, ca X w' y9 g9 ∧ bW w w' ∧ ∃ (Q0 : Option Addr) (c0 : Nat), e = .returned (.tuple #[.agg #[Value.int .i64 s.first, .int .i64 s.aa, .slice q.Q1 s.aw.length q.c1, .slice q.Q2 s.aj.length q.c2, .slice q.Q4 q.n4 q.c4, .int .i64 (s.seq + 1), .int .i64 q.nb, .int .i64 q.ns, .slice q.Q4 q.n4 q.c4, .slice Q0 0 c0, .int .i64 ((pn : Int) + 1), .int .i64 (-1), .int .i64 q.nb, .int .i64 q.ns, .bool false], .agg (aX y9 g9), .bool true, .int .i64 0]) ∧ c0 ≤ maxLen := by
 have QK : (k9 != 0) = false := by simpa using hk
 clear hk
 obtain ⟨W, hW⟩ := ex ((((w.alloc (.cells (ud q s (.slice (some ⟨bp, op, none⟩) 1 c5) (pn : Int) (-1) false) 43)).alloc (.cells (aX x g) 35)).alloc (.cells qB 43)).alloc (.cells Bi 35))
 have HY := iD (Hy.new hW.symm ⟨_, rfl, rfl⟩ ⟨_, rfl, rfl⟩)
 have tN := HY.row 14 rfl
 have r9 := HY.row 9 rfl
 have AY := HY.row 11 rfl
 have yy := HY.row 10 rfl
 have hsz := HY.lt
 have gg : Hid (bW w W.drew) := HY.below.trans ((Below.drew bV).mono HY.below.size)
 have mA := iD (mm (hR.xn gg) (XN.lt hX hsz) (pn : Int) Qp 64 cp pb (JT.xn gg).rd fA zZ fQ qI)
 rw [hE] at mA
 simp only at mA
 have aY := World.block_lt_of_cell? w _ eI
 have DO : Hid (∀ W', bW w W' → W'.cell? ⟨bp, op, none⟩ = some (.slice Qp 64 cp)) := fun W' hb => (hb.cell (p := ⟨bp, op, none⟩) aY).trans eI
 unfold maxLen at Ns fQ
 have k0 := DO _ gg
 have tJ := (HY.ab fY).row 9 rfl
 have jx := (HY.ab fY).row 10 rfl
 have jg := iD (HY.ab fY)
 clear hR hX hE hsz eI JT fA zZ qI
 go_enter func84, ntmps84
 go_upto_region 11 with (fail)
 try rw [hW]
 clear hW
 refine wp_region_held (S := fun W' => W'.cell? ⟨w.heap.size, 9, none⟩ = some (.slice (some ⟨bp, op, none⟩) 1 c5) ∧ W'.cell? ⟨w.heap.size, 10, none⟩ = some (.int .i64 (pn : Int)) ∧ W'.cell? ⟨bp, op, none⟩ = some (.slice Qp 64 cp)) (by kernel_rfl) ?_
 change wpAnyH _ _ _ _ _ _ _ _ (World.drew _)
 refine tG 1 (.pointer (some ⟨w.heap.size, 10, none⟩)) ⟨tJ, jx, k0⟩ ?_
 refine tG 3 (.pointer (some ⟨w.heap.size, 9, none⟩)) ⟨tJ, jx, k0⟩ ?_
 refine tG 2 (.int .i64 (pn : Int)) ⟨tJ, jx, k0⟩ ?_
 refine tG 4 (.slice (some ⟨bp, op, none⟩) 1 c5) ⟨tJ, jx, k0⟩ ?_
 refine tG 5 (.pointer (some ⟨bp, op, none⟩)) ⟨tJ, jx, k0⟩ ?_
 refine tG 6 (.slice Qp 64 cp) ⟨tJ, jx, k0⟩ ?_
 refine nE (i := 0) (by kernel_rfl) rfl (by rfl) 35 _ rfl (w.heap.size + 1) rfl 35 (aX x g) _ jg.h4 underlying35 rfl dK ⟨tJ, jx, k0⟩ ?_
 change wpAnyH _ _ _ _ _ _ _ (Act.put _ (some 35) _) _
 simp only [nm]
 refine jv (i := 7) (al := [.agg (aX x g), .int .i64 (pn : Int), .slice Qp 64 cp]) (by kernel_rfl) rfl (by rfl) _ _ rfl (by rfl) Ah ?_
 refine mA.mono ?_
 rintro e w9 ⟨y9, rfl, GG, oL⟩
 have iK := iD (jg.ab oL)
 have mD := iD GG
 have jq := iD (iK.Ef (aX y9 g9))
 have jY := iD (mD.ao (ah.row w9 (w.heap.size + 1) (aX y9 g9) (RG _ _)))
 have S9 := iD (And.intro (iK.row 9 rfl) (And.intro (iK.row 10 rfl) (DO _ iK.below)))
 have T9 := iD (And.intro (jq.row 9 rfl) (And.intro (jq.row 10 rfl) (DO _ jq.below)))
 refine rW S9 ?_
 refine tG 8 (.tuple #[.agg (aX y9 g9), .int .i64 k9]) S9 ?_
 refine tG 9 (.agg (aX y9 g9)) S9 ?_
 refine tG 10 (.int .i64 k9) S9 ?_
 refine cQ (i := 11) (by kernel_rfl) rfl (by rfl) rfl 35 _ _ rfl (w.heap.size + 1) (aX y9 g9) (aX x g) rfl rfl 35 iK.h4 dK rfl (Cb ..) T9 ?_
 refine tG 12 (.int .i64 k9) T9 ?_
 refine wD ?_
 clear r9 yy AY tN tJ jx k0 GG oL
 generalize w9.setRow (w.heap.size + 1) (aX y9 g9) = V at jq jY ⊢
 have q1 : (1 : Int) ≤ (c5 : Int) := oM
 have q4 : IntKind.i64.wrap ((pn : Int) + 1) = (pn : Int) + 1 := bf _ oM oM
 have q5 : IntKind.i64.wrap (s.seq + 1) = s.seq + 1 := bf _ oM oM
 by_cases hc : c5 = 1
 ·subst hc
  have r9 := jq.row 9 rfl
  have yy := jq.row 10 rfl
  have z9 := jq.fz 9
  have AV := jq.fz 10
  go_upto_region 15 with (fail)
  go_region
  clear r9 yy z9 AV
  obtain ⟨V1, DG⟩ := ex ((V.setCell ⟨w.heap.size, 9, none⟩ (.slice (some ⟨bp, op, none⟩) 0 0)).setCell ⟨w.heap.size, 10, none⟩ (.int .i64 ((pn : Int) + 1))).drew
  have fJ : Hid (Hy w V1 (ud q s (.slice (some ⟨bp, op, none⟩) 0 0) ((pn : Int) + 1) (-1) false) (aX y9 g9)) := by
   rw [← DG]
   exact ((jq.set 9 (.slice (some ⟨bp, op, none⟩) 0 0)).set 10 (.int .i64 ((pn : Int) + 1))).ab fY
  have mD : Hid (ca (XN X w.heap.size) V1 y9 g9) := by
   rw [← DG]
   exact jY.ao (((ah.set V ⟨w.heap.size, 9, none⟩ _ (vd _ _)).trans (ah.set _ ⟨w.heap.size, 10, none⟩ _ (vd _ _))).trans (ah.ak fY))
  try rw [DG]
  clear DG jq jY
  have r9 := fJ.row 9 rfl
  go_upto_region 18 with (fail)
  clear r9
  have r8 := fJ.row 8 rfl
  have r5 := fJ.row 5 rfl
  have uP := fJ.row 12 rfl
  have xK := fJ.row 13 rfl
  have r4 := fJ.row 4 rfl
  have r6 := fJ.row 6 rfl
  have r7 := fJ.row 7 rfl
  have z4 := fJ.fz 4
  have z5 := fJ.fz 5
  have z6 := fJ.fz 6
  have z7 := fJ.fz 7
  go_upto_region 19 with (fail)
  clear r8 r5 uP xK r4 r6 r7 z4 z5 z6 z7
  have MF : Hid (Hy w ((((V1.setCell ⟨w.heap.size, 4, none⟩ (.slice q.Q4 q.n4 q.c4)).setCell ⟨w.heap.size, 5, none⟩ (.int .i64 (s.seq + 1))).setCell ⟨w.heap.size, 6, none⟩ (.int .i64 q.nb)).setCell ⟨w.heap.size, 7, none⟩ (.int .i64 q.ns)) #[Value.int .i64 s.first, .int .i64 s.aa, .slice q.Q1 s.aw.length q.c1, .slice q.Q2 s.aj.length q.c2, .slice q.Q4 q.n4 q.c4, .int .i64 (s.seq + 1), .int .i64 q.nb, .int .i64 q.ns, .slice q.Q4 q.n4 q.c4, .slice (some ⟨bp, op, none⟩) 0 0, .int .i64 ((pn : Int) + 1), .int .i64 (-1), .int .i64 q.nb, .int .i64 q.ns, .bool false] (aX y9 g9)) := (((fJ.set 4 (.slice q.Q4 q.n4 q.c4)).set 5 (.int .i64 (s.seq + 1))).set 6 (.int .i64 q.nb)).set 7 (.int .i64 q.ns)
  have mD := iD (mD.ao ((((ah.set V1 ⟨w.heap.size, 4, none⟩ (.slice q.Q4 q.n4 q.c4) (vd _ _)).trans (ah.set _ ⟨w.heap.size, 5, none⟩ (.int .i64 (s.seq + 1)) (vd _ _))).trans (ah.set _ ⟨w.heap.size, 6, none⟩ (.int .i64 q.nb) (vd _ _))).trans (ah.set _ ⟨w.heap.size, 7, none⟩ (.int .i64 q.ns) (vd _ _))))
  generalize (((V1.setCell ⟨w.heap.size, 4, none⟩ (.slice q.Q4 q.n4 q.c4)).setCell ⟨w.heap.size, 5, none⟩ (.int .i64 (s.seq + 1))).setCell ⟨w.heap.size, 6, none⟩ (.int .i64 q.nb)).setCell ⟨w.heap.size, 7, none⟩ (.int .i64 q.ns) = V2 at MF mD ⊢
  refine BM X MF ?_
  exact fun _ o b => ⟨y9, (mD.ao o).Od, b, ⟨(some ⟨bp, op, none⟩), 0, rfl, by unfold maxLen; omega⟩⟩
 have r9 := jq.row 9 rfl
 have yy := jq.row 10 rfl
 have z9 := jq.fz 9
 have AV := jq.fz 10
 go_upto_region 15 with (fail)
 go_region
 clear r9 yy z9 AV
 obtain ⟨V1, DG⟩ := ex ((V.setCell ⟨w.heap.size, 9, none⟩ (.slice (some ⟨bp, op + 1, none⟩) 0 (c5 - 1))).setCell ⟨w.heap.size, 10, none⟩ (.int .i64 ((pn : Int) + 1))).drew
 have fJ : Hid (Hy w V1 (ud q s (.slice (some ⟨bp, op + 1, none⟩) 0 (c5 - 1)) ((pn : Int) + 1) (-1) false) (aX y9 g9)) := by
  rw [← DG]
  exact ((jq.set 9 (.slice (some ⟨bp, op + 1, none⟩) 0 (c5 - 1))).set 10 (.int .i64 ((pn : Int) + 1))).ab fY
 have mD : Hid (ca (XN X w.heap.size) V1 y9 g9) := by
  rw [← DG]
  exact jY.ao (((ah.set V ⟨w.heap.size, 9, none⟩ _ (vd _ _)).trans (ah.set _ ⟨w.heap.size, 10, none⟩ _ (vd _ _))).trans (ah.ak fY))
 try rw [DG]
 clear DG jq jY
 have r9 := fJ.row 9 rfl
 go_upto_region 18 with (fail)
 clear r9
 have r8 := fJ.row 8 rfl
 have r5 := fJ.row 5 rfl
 have uP := fJ.row 12 rfl
 have xK := fJ.row 13 rfl
 have r4 := fJ.row 4 rfl
 have r6 := fJ.row 6 rfl
 have r7 := fJ.row 7 rfl
 have z4 := fJ.fz 4
 have z5 := fJ.fz 5
 have z6 := fJ.fz 6
 have z7 := fJ.fz 7
 go_upto_region 19 with (fail)
 clear r8 r5 uP xK r4 r6 r7 z4 z5 z6 z7
 have MF : Hid (Hy w ((((V1.setCell ⟨w.heap.size, 4, none⟩ (.slice q.Q4 q.n4 q.c4)).setCell ⟨w.heap.size, 5, none⟩ (.int .i64 (s.seq + 1))).setCell ⟨w.heap.size, 6, none⟩ (.int .i64 q.nb)).setCell ⟨w.heap.size, 7, none⟩ (.int .i64 q.ns)) #[Value.int .i64 s.first, .int .i64 s.aa, .slice q.Q1 s.aw.length q.c1, .slice q.Q2 s.aj.length q.c2, .slice q.Q4 q.n4 q.c4, .int .i64 (s.seq + 1), .int .i64 q.nb, .int .i64 q.ns, .slice q.Q4 q.n4 q.c4, .slice (some ⟨bp, op + 1, none⟩) 0 (c5 - 1), .int .i64 ((pn : Int) + 1), .int .i64 (-1), .int .i64 q.nb, .int .i64 q.ns, .bool false] (aX y9 g9)) := (((fJ.set 4 (.slice q.Q4 q.n4 q.c4)).set 5 (.int .i64 (s.seq + 1))).set 6 (.int .i64 q.nb)).set 7 (.int .i64 q.ns)
 have mD := iD (mD.ao ((((ah.set V1 ⟨w.heap.size, 4, none⟩ (.slice q.Q4 q.n4 q.c4) (vd _ _)).trans (ah.set _ ⟨w.heap.size, 5, none⟩ (.int .i64 (s.seq + 1)) (vd _ _))).trans (ah.set _ ⟨w.heap.size, 6, none⟩ (.int .i64 q.nb) (vd _ _))).trans (ah.set _ ⟨w.heap.size, 7, none⟩ (.int .i64 q.ns) (vd _ _))))
 generalize (((V1.setCell ⟨w.heap.size, 4, none⟩ (.slice q.Q4 q.n4 q.c4)).setCell ⟨w.heap.size, 5, none⟩ (.int .i64 (s.seq + 1))).setCell ⟨w.heap.size, 6, none⟩ (.int .i64 q.nb)).setCell ⟨w.heap.size, 7, none⟩ (.int .i64 q.ns) = V2 at MF mD ⊢
 refine BM X MF ?_
 exact fun _ o b => ⟨y9, (mD.ao o).Od, b, ⟨(some ⟨bp, op + 1, none⟩), (c5 - 1), rfl, by unfold maxLen; omega⟩⟩
theorem lT.RN {b o : Nat} {p : List Int} {ps : List (List Int)} (h : lT X w (some ⟨b, o, none⟩) (p :: ps)) : lT X w (some ⟨b, o + 1, none⟩) ps := by
 obtain ⟨vs, h1, h2, h3⟩ := h
 obtain ⟨v, vs, rfl⟩ : ∃ v vs', vs = v :: vs' := by
  cases vs with
  | nil => simp at h2
  | cons v vs => exact ⟨v, vs, rfl⟩
 refine ⟨vs, fun hx => ?_, by simpa using h2, fun i q hq => ?_⟩
 ·obtain ⟨b', off, e, aY, hn, hc⟩ := h1 (by simp)
  injection e with e
  injection e with e1 e2
  subst e1
  subst e2
  refine ⟨b, o + 1, rfl, aY, hn, fun j u hu => ?_⟩
  have := hc (j + 1) u (by simpa using hu)
  rw [show o + 1 + j = o + (j + 1) by omega]
  exact this
 obtain ⟨Q, m, c, a1, a2⟩ := h3 (i + 1) q (by simpa using hq)
 exact ⟨Q, m, c, by simpa using a1, a2⟩
theorem Hj (hb : s.af = true) : aI s g = (s, g, false, 20) := by unfold aI; rw [iP hb]
theorem D2 (hb : s.af = false) (hu : s.bt = false) : aI s g = (s, g, false, 12) := by unfold aI; rw [iN (by rw [hb]; decide), iP hu]
theorem tD {k : Int} (hb : s.af = false) (hu : s.bt = true) (ho : eW s g = (g9, k)) (hk : k ≠ 0) : aI s g = ({ ct s with af := true }, g9, false, 20) := by
 unfold aI
 rw [iN (by rw [hb]; decide), iN (by rw [hu]; decide), ho, iP hk]
theorem BD (hb : s.af = false) (hu : s.bt = true) (ho : eW s g = (g9, 0)) (hk : (ct s).done < (ct s).cf.length) : aI s g = (ct s, g9, false, 0) := by
 unfold aI
 rw [iN (by rw [hb]; decide), iN (by rw [hu]; decide), ho, iN (by simp), iP hk]
theorem Hi (hb : s.af = false) (hu : s.bt = true) (ho : eW s g = (g9, 0)) (hk : ¬ (ct s).done < (ct s).cf.length) : aI s g = (kM (ct s), g9, true, 0) := by
 unfold aI
 rw [iN (by rw [hb]; decide), iN (by rw [hu]; decide), ho, iN (by simp), iN hk]
theorem Ko {q : Qv} (h : iE X w q s g.pg) (hR : ca X w x g) (ho : bC g s) (hX : ∀ b, X b → b < w.heap.size) :
 Calls prog 84 #[q.v s, x.v g] w fun e w' => ∃ (q' : Qv) (y : Rc), e = .returned (.tuple #[q'.v (aI s g).1, y.v (aI s g).2.1, .bool (aI s g).2.2.1, .int .i64 (aI s g).2.2.2]) ∧ iE X w' q' (aI s g).1 g.pg ∧ ca X w' y (aI s g).2.1 ∧ bW w w' := by
 by_cases hb : s.af = true
 ·rw [Hj hb]
  have := NS w q s x g
  unfold Qv.v
  rw [hb]
  exact this.mono fun e w' ⟨h1, h2⟩ => ⟨q, x, h1, h.below h2, hR.below h2, h2⟩
 have dO : s.af = false := by simpa using hb
 by_cases hu : s.bt = true
 rotate_left
 ·have ql : s.bt = false := by simpa using hu
  have hn := h.no dO ql
  rw [D2 dO ql]
  have := NO w q s x g q.c5
  unfold Qv.v
  rw [dO, hn]
  exact this.mono fun e w' ⟨h1, h2⟩ => ⟨q, x, by rw [h1, hn], h.below h2, hR.below h2, h2⟩
 have hw := h.wr dO hu
 have qo := ho.dn hu dO
 have fA := ho.pl hu
 have jE := ho.k8
 have JO : q.n5 = s.k - s.done := by rw [← hw.pl, List.length_drop, fA]
 have kC := hR.ok.b2
 have xP := hR.ok.p2
 have DB := ho.fb
 have YK := ho.tb
 have Sj := ho.ts
 have iA := ho.oG YK Sj
 have hwp : g.ar.length * g.pg ≤ 64 * 16 := Nat.mul_le_mul kC xP
 by_cases he : s.erase = true
 ·have GD : q.er = ((s.first + s.bH : Nat) : Int) := by rw [hw.er, iP he]
  obtain ⟨⟨g9, k9⟩, hE⟩ := ex (aR g ((s.first + s.bH : Nat) : Int))
  have oI : eW s g = (g9, k9) := by
   unfold eW
   rw [iP he, show ((s.first : Int) + (s.bH : Int)) = ((s.first + s.bH : Nat) : Int) by omega]
   exact hE
  have qW : ct s = { s with erase := false } := by unfold ct; rw [iP he]
  have aaf : g9.pg = g.pg := by have := (iW g ((s.first + s.bH : Nat) : Int)).p; rw [hE] at this; exact this
  have dX := NR w q s x g hR hX q.n5 q.c5 (s.first + s.bH) oM oM oM g9 k9 hE
  unfold Qv.v
  rw [dO, GD]
  refine dX.mono ?_
  rintro e w' ⟨y9, h1, h2, h3, h4⟩
  have hl := h.below h2
  by_cases hk : k9 = 0
  ·subst hk
   rw [BD dO hu oI (by rw [qW]; simp only; omega), qW]
   refine ⟨{ q with er := -1 }, y9, ?_, ?_, h1, h2⟩
   ·rw [h3 rfl]
    simp only [dO]
   have kC := hl.wr dO hu
   exact ⟨hl.a, hl.a1, hl.a2, hl.b, hl.b1, hl.b2, hl.c, hl.Rf, hl.Re, hl.d1, hl.d2, hl.e1, hl.e2, fun _ _ => ⟨kC.vr, kC.vl, kC.pr, kC.pl, kC.qA, rfl, kC.nb, kC.ns⟩, fun _ e => by simp only [hu] at e; cases e⟩
  rw [tD dO hu oI hk, qW]
  refine ⟨q, y9, ?_, ?_, h1, h2⟩
  ·rw [h4 hk]
   simp only [GD]
  exact ⟨hl.a, hl.a1, hl.a2, hl.b, hl.b1, hl.b2, hl.c, hl.Rf, hl.Re, hl.d1, hl.d2, hl.e1, hl.e2, (fun e _ => by cases e), (fun e _ => by cases e)⟩
 have he' : s.erase = false := by simpa using he
 have GD : q.er = -1 := by rw [hw.er, iN he]
 obtain ⟨pb, qI⟩ := getElem?_of_lt (l := s.cf) (k := s.done) oM
 have QO : s.cf.drop s.done = pb :: s.cf.drop (s.done + 1) := gP s.cf s.done pb qI
 obtain ⟨Gy, Sx⟩ := ho.pb pb (List.mem_of_getElem? qI)
 have EF := hw.pr
 rw [QO] at EF
 obtain ⟨bp, op, Qp, cp, hQ5, aY, eI, zZ, fQ, JT⟩ := EF.get (i := 0) (p := pb) rfl
 rw [Gy] at eI zZ
 rw [Nat.add_zero] at eI
 have zV : (s.first + s.bH) * g.pg + s.bg * s.k + s.done = aG s g s.bH s.bg + s.done := rfl
 obtain ⟨pn, Sv⟩ := ex (aG s g s.bH s.bg + s.done)
 have kg : q.pg = (pn : Int) := by rw [hw.qA, zV, Sv]
 have Su : pn ≤ 2000 := oM
 obtain ⟨⟨g9, k9⟩, hE⟩ := ex (bz g (pn : Int) pb)
 have oI : eW s g = (g9, k9) := by
  unfold eW
  rw [iN he, Sv, qI]
  exact hE
 have qW : ct s = { s with done := s.done + 1 } := by unfold ct; rw [iN he]
 have aaf : g9.pg = g.pg := by have := (jy g (pn : Int) pb).p; rw [hE] at this; exact this
 have Dv := ho.q1
 have hqb := ho.qb hu dO
 unfold Qv.v
 rw [dO, GD, kg, hQ5]
 by_cases hk : k9 = 0
 ·subst hk
  by_cases hlast : q.n5 = 1
  ·have dX := NN w q s x g hR hX bp op q.c5 pn (by have := h.e1; omega) h.e2 Su Dv hqb Qp cp pb eI JT Gy zZ fQ Sx g9 0 hE rfl
   rw [hlast]
   refine dX.mono ?_
   rintro e w' ⟨y9, h1, h2, Q0, c0, h3, CA⟩
   have hl := h.below h2
   have kC := hl.wr dO hu
   rw [Hi dO hu oI (by rw [qW]; simp only; omega), qW]
   refine ⟨{ q with Q3 := q.Q4, c3 := q.c4, Q5 := Q0, n5 := 0, c5 := c0, pg := (pn : Int) + 1 }, y9, ?_, ?_, h1, h2⟩
   ·rw [h3]
    simp only [kM, dO, hw.vl, hw.nb, hw.ns, GD]
   exact ⟨hl.a, hl.a1, hl.a2, hl.b, hl.b1, hl.b2, kC.vr, by have := hw.vl; have := h.d1; simp only [kM]; omega, hl.d2, hl.d1, hl.d2, Nat.zero_le _, CA, (fun _ e => by cases e), fun _ _ => rfl⟩
  have dX := NM w q s x g hR hX bp op q.n5 q.c5 pn oM oM h.e1 h.e2 Su Qp cp pb eI JT Gy zZ fQ Sx g9 0 hE rfl oM
  refine dX.mono ?_
  rintro e w' ⟨y9, h1, h2, h3⟩
  have hl := h.below h2
  have kC := hl.wr dO hu
  have hpr' := kC.pr
  rw [QO, hQ5] at hpr'
  rw [BD dO hu oI (by rw [qW]; simp only; omega), qW]
  refine ⟨{ q with Q5 := some ⟨bp, op + 1, none⟩, n5 := q.n5 - 1, c5 := q.c5 - 1, pg := (pn : Int) + 1 }, y9, ?_, ?_, h1, h2⟩
  ·rw [h3]
   simp only [dO, GD]
  refine ⟨hl.a, hl.a1, hl.a2, hl.b, hl.b1, hl.b2, hl.c, hl.Rf, hl.Re, hl.d1, hl.d2, by have := h.e1; simp only; omega, by have := h.e2; simp only; omega, fun _ _ => ⟨kC.vr, kC.vl, hpr'.RN, ?_, ?_, ?_, kC.nb, kC.ns⟩, fun _ e => by simp only [hu] at e; cases e⟩
  ·simp only
   rw [List.length_drop, fA]
   omega
  ·have : ((s.first + s.bH) * g.pg + s.bg * s.k + (s.done + 1) : Nat) = pn + 1 := by rw [← Sv, ← zV]; omega
   have e2 : ({ s with done := s.done + 1 } : St).k = s.k := rfl
   simp only [e2]
   rw [this]
   push_cast
   rfl
  simp only [he', GD]
  rfl
 have dX := NQ w q s x g hR hX bp op q.n5 q.c5 pn oM oM h.e1 h.e2 Su Qp cp pb eI JT Gy zZ fQ Sx g9 k9 hE hk
 refine dX.mono ?_
 rintro e w' ⟨y9, h1, h2, h3⟩
 have hl := h.below h2
 rw [tD dO hu oI hk, qW]
 refine ⟨q, y9, ?_, ?_, h1, h2⟩
 ·rw [h3]
  simp only [GD, kg, hQ5]
 exact ⟨hl.a, hl.a1, hl.a2, hl.b, hl.b1, hl.b2, hl.c, hl.Rf, hl.Re, hl.d1, hl.d2, hl.e1, hl.e2, (fun e _ => by cases e), (fun e _ => by cases e)⟩
theorem L8 (args : Array Value) (w : World) : (callFunc 81 args).run prog w = .ok (.enter 81 args) w := by
 go_simp
theorem L4 (args : Array Value) (w : World) : (callFunc 112 args).run prog w = .ok (.enter 112 args) w := by
 go_simp
def X3 (X : Nat → Prop) (N : Nat) (b : Nat) : Prop := X b ∨ (N ≤ b ∧ b ≤ N + 2)
theorem X3.lt (h : ∀ b, X b → b < N) (hM : N + 2 < M) : ∀ b, X3 X N b → b < M := fun b hb => by
 rcases hb with h1 | h1
 ·have := h b h1
  omega
 omega
theorem ZP (X : Nat → Prop) (N : Nat) : X3 X N N := .inr ⟨Nat.le_refl _, Nat.le_add_right _ _⟩
theorem x32 (X : Nat → Prop) (N : Nat) : X3 X N (N + 2) := .inr ⟨Nat.le_add_right _ _, oM⟩
structure Hz (w wr : World) (l f : Array Value) : Prop where
 below : bW w wr
 h : wr.heap[w.heap.size]? = some (.cells l 43 (0, 0))
 h4 : wr.heap[w.heap.size + 1]? = some (.cells f 35 (0, 0))
 h8 : ∃ dZ : Array Value, dZ.size = 15 ∧ wr.heap[w.heap.size + 2]? = some (.cells dZ 43 (0, 0))
section
variable {w wr w' : World} {l f : Array Value}
theorem Hz.lt (h : Hz w wr l f) : w.heap.size + 2 < wr.heap.size := by
 obtain ⟨dZ, _, h8⟩ := h.h8
 exact (Array.getElem?_eq_some_iff.1 h8).1
theorem Hz.ab (h : Hz w wr l f) (hb : bW wr w') : Hz w w' l f := by
 have hl := h.lt
 obtain ⟨dZ, ho, h8⟩ := h.h8
 exact ⟨h.below.trans (hb.mono h.below.size), (hb.block _ oM).trans h.h, (hb.block _ oM).trans h.h4, ⟨dZ, ho, (hb.block _ hl).trans h8⟩⟩
theorem Hz.row (h : Hz w wr l f) (j : Nat) (hj : l.toList[j]? = some u) : wr.cell? ⟨w.heap.size, j, none⟩ = some u := (cell_of_row wr _ j l 43 (0, 0) h.h).trans (by rw [← Array.getElem?_toList]; exact hj)
theorem Hz.fz (h : Hz w wr l f) (j : Nat) : wr.frozen? ⟨w.heap.size, j, none⟩ = false := frozen_of_row wr _ j l 43 h.h
theorem Hz.ll (h : Hz w wr l f) (j : Nat) (hj : f.toList[j]? = some u) : wr.cell? ⟨w.heap.size + 1, j, none⟩ = some u := (cell_of_row wr _ j f 35 (0, 0) h.h4).trans (by rw [← Array.getElem?_toList]; exact hj)
theorem Hz.set (h : Hz w wr l f) (i : Nat) (v : Value) : Hz w (wr.setCell ⟨w.heap.size, i, none⟩ v) (l.setIfInBounds i v) f := by
 obtain ⟨dZ, ho, h8⟩ := h.h8
 exact ⟨h.below.setCell (p := ⟨w.heap.size, i, none⟩) cV _, heap_setCell_same wr _ i l 43 v h.h, (heap_setCell_other wr ⟨w.heap.size, i, none⟩ _ v (by simp)).trans h.h4, ⟨dZ, ho, (heap_setCell_other wr ⟨w.heap.size, i, none⟩ _ v (by simp)).trans h8⟩⟩
theorem Hz.grown (h : Hz w wr l f) {row : Option Nat} (hg : wr.grownBy w' row) (hr : ∀ k, row = some k → w.heap.size + 2 < k) : Hz w w' l f := by
 have hl := h.lt
 obtain ⟨dZ, ho, h8⟩ := h.h8
 exact ⟨h.below.grown hg h.below.size (fun k hk => by have := hr k hk; omega), (hg.block _ oM (fun e => by have := hr _ e.symm; omega)).trans h.h, (hg.block _ oM (fun e => by have := hr _ e.symm; omega)).trans h.h4, ⟨dZ, ho, (hg.block _ hl (fun e => by have := hr _ e.symm; omega)).trans h8⟩⟩
theorem Hz.new (hV : V = ((w.alloc (.cells l 43)).alloc (.cells f 35)).alloc o) (ho : ∃ dZ : Array Value, dZ.size = 15 ∧ o = .cells dZ 43) : Hz w V l f := by
 obtain ⟨dZ, h1, rfl⟩ := ho
 subst hV
 have s1 : ∀ (w : World) (o : Obj), (w.alloc o).heap.size = w.heap.size + 1 := fun w o => Array.size_push _
 have hA := fun (w : World) (o : Obj) (i : Nat) (hi : i < w.heap.size) => heap_alloc_old w o hi
 have hN := fun (w : World) (o : Obj) => heap_alloc_new w o
 refine ⟨?_, ?_, ?_, ⟨dZ, h1, ?_⟩⟩
 ·exact ((ck w _ _).alloc (by rw [s1, s1]; omega) _)
 ·rw [hA _ _ _ (by rw [s1, s1]; omega), hA _ _ _ (by rw [s1]; omega)]
  exact hN _ _
 ·rw [hA _ _ _ (by rw [s1, s1]; omega)]
  have := hN (w.alloc (.cells l 43)) (.cells f 35)
  rw [s1] at this
  exact this
 have := hN ((w.alloc (.cells l 43)).alloc (.cells f 35)) (.cells dZ 43)
 rw [s1, s1] at this
 exact this
end
theorem cn.x3 (h : cn X w A xs) (hb : bW w w') : cn (X3 X w.heap.size) w' A xs := fun hx => by
 obtain ⟨b, off, e, aY, hn, hc⟩ := h hx
 refine ⟨b, off, e, Nat.lt_of_lt_of_le aY hb.size, fun hk => ?_, fun j u hu => (hb.cell (p := ⟨b, off + j, none⟩) aY).trans (hc j u hu)⟩
 rcases hk with h1 | h1
 ·exact hn h1
 omega
theorem ca.x3 (h : ca X w x g) (hb : bW w w') : ca (X3 X w.heap.size) w' x g :=
 ⟨h.ok, h.a.x3 hb, h.a1, h.a2, h.b.x3 hb, h.b1, h.b2, h.p.x3 hb, h.p1, h.p2⟩
def pG (a b : List Int) (k : Nat) : Bool := decide (a.take k = b.take k)
theorem vq {a : List Int} {x y : Int} (hx : a[k]? = some x) (hy : b[k]? = some y) : pG a b (k + 1) = (pG a b k && (x == y)) := by
 unfold pG
 rw [bA a k x hx, bA b k y hy]
 by_cases h1 : a.take k = b.take k
 ·by_cases h2 : x = y
  ·subst h2; simp [h1]
  simp [h1, h2]
 have : ¬ (a.take k ++ [x] = b.take k ++ [y]) := fun e => h1 (List.append_inj_left' e rfl)
 simp [h1, this]
theorem yt {a : List Int} (ha : a.length = k) (hb : b.length = k) : pG a b k = decide (a = b) := by
 unfold pG
 rw [List.take_of_length_le oM, List.take_of_length_le oM]
theorem Ms (w : World) (q : Qv) (s : St) (x : Rc) (g : Fl) :
 Calls prog 83 #[.agg (Px q s true), .agg (aX x g)] w fun e w' => e = .returned (.tuple #[.agg (Px q s true), .int .i64 20]) ∧ bW w w' := by
 obtain ⟨W, hW⟩ := ex (((w.alloc (.cells (Px q s true) 43)).alloc (.cells (aX x g) 35)).alloc (.cells qB 43))
 have HZ := iD (Hz.new hW.symm ⟨_, rfl, rfl⟩)
 have tN := HZ.row 14 rfl
 have Ha := HZ.fz 14
 go_enter func83, ntmps83
 go_upto_region 3 with (fail)
 try rw [hW]
 clear hW
 have DJ : Hid (Hz w (W.setCell ⟨w.heap.size, 14, none⟩ (.bool true)) (Px q s true) (aX x g)) := HZ.set 14 (.bool true)
 generalize W.setCell ⟨w.heap.size, 14, none⟩ (.bool true) = V at DJ ⊢
 clear tN Ha
 refine wp_region_list ?_
 refine wpList_load_row rfl 43 _ rfl w.heap.size rfl 43 (Px q s true) (0, 0) _ DJ.h underlying43 rfl aP ?_
 obtain ⟨ia, iH, jV⟩ := DJ.h8
 refine wpList_store_row rfl 43 _ _ rfl (w.heap.size + 2) (Px q s true) rfl rfl 43 ia jV aP iH (ix ..) ?_
 go_wp2
 (try simp only [Exit.inBlock, Exit.then])
 refine rI rfl (setRow_heap _ _ _ _ _ _ jV) aP ⟨rfl, below_setRow DJ.below oM _⟩
theorem Mp (w : World) (q : Qv) (s : St) (x : Rc) (g : Fl) (m c5 : Nat) (hm : 0 < m) (SC : m ≤ 8) :
 Calls prog 83 #[.agg (ud q s (.slice q.Q5 m c5) q.pg q.er false), .agg (pq x g false)] w fun e w' => e = .returned (.tuple #[.agg (ud q s (.slice q.Q5 m c5) q.pg q.er false), .int .i64 14]) ∧ bW w w' := by
 obtain ⟨W, hW⟩ := ex (((w.alloc (.cells (ud q s (.slice q.Q5 m c5) q.pg q.er false) 43)).alloc (.cells (pq x g false) 35)).alloc (.cells qB 43))
 have HZ := iD (Hz.new hW.symm ⟨_, rfl, rfl⟩)
 have tN := HZ.row 14 rfl
 have r9 := HZ.row 9 rfl
 have f3 := HZ.ll 3 rfl
 have nR : (0 : Int) < (m : Int) := oM
 go_enter func83, ntmps83
 go_upto_region 5 with (fail)
 try rw [hW]
 clear hW
 refine wp_region_list ?_
 refine wpList_load_row rfl 43 _ rfl w.heap.size rfl 43 (ud q s (.slice q.Q5 m c5) q.pg q.er false) (0, 0) _ HZ.h underlying43 rfl aP ?_
 obtain ⟨ia, iH, jV⟩ := HZ.h8
 refine wpList_store_row rfl 43 _ _ rfl (w.heap.size + 2) (ud q s (.slice q.Q5 m c5) q.pg q.er false) rfl rfl 43 ia jV aP iH (ix ..) ?_
 go_wp2
 (try simp only [Exit.inBlock, Exit.then])
 refine rI rfl (setRow_heap _ _ _ _ _ _ jV) aP ⟨rfl, below_setRow HZ.below oM _⟩
theorem Mq (w : World) (q : Qv) (s : St) (x : Rc) (g : Fl) (n c5 : Nat) (uw : n ≤ 48) (hA : cn X w q.Q2 (aA s.aj)) (hB : cn X w q.Q3 (aA s.saved)) (xN : s.aj.length = n) (lR : s.saved.length = n) (nO : s.aj = s.saved) :
 Calls prog 83 #[.agg (mz q s n (.slice q.Q4 q.n4 q.c4) (.slice q.Q5 0 c5) q.pg q.er q.nb q.ns false), .agg (pq x g false)] w fun e w' => e = .returned (.tuple #[.agg (mz q s n (.slice q.Q4 q.n4 q.c4) (.slice q.Q5 0 c5) q.pg q.er q.nb q.ns false), .int .i64 12]) ∧ bW w w' := by
 have lU := iD nO
 clear nO
 obtain ⟨W, hW⟩ := ex (((w.alloc (.cells (mz q s n (.slice q.Q4 q.n4 q.c4) (.slice q.Q5 0 c5) q.pg q.er q.nb q.ns false) 43)).alloc (.cells (pq x g false) 35)).alloc (.cells qB 43))
 have HZ := iD (Hz.new hW.symm ⟨_, rfl, rfl⟩)
 have HA := iD hA
 have HB := iD hB
 have AH := iD xN
 have nr := iD lR
 have tN := HZ.row 14 rfl
 have r9 := HZ.row 9 rfl
 have f3 := HZ.ll 3 rfl
 have r3 := HZ.row 3 rfl
 clear hA hB xN lR
 go_enter func83, ntmps83
 go_upto_region 8 with (fail)
 try rw [hW]
 clear hW tN r9 f3 r3
 go_loopw [6, 7, 26] (fun b i7 i wr => ∃ k : Nat, k ≤ n ∧ i = .int .i64 k ∧ b = .bool (pG s.aj s.saved k) ∧ Hz w wr (mz q s n (.slice q.Q4 q.n4 q.c4) (.slice q.Q5 0 c5) q.pg q.er q.nb q.ns false) (pq x g false)) (fun _ _ i _ => n - (intOf i).toNat)
 case atStart => exact ⟨0, Nat.zero_le _, rfl, rfl, HZ⟩
 case round =>
  obtain ⟨k, hk, rfl, rfl, hz⟩ := hrel
  have xA := iD hz
  clear hz
  by_cases aY : k < n
  ·obtain ⟨a, ha⟩ := getElem?_of_lt (l := s.aj) (k := k) (by rw [AH]; exact aY)
   obtain ⟨b, hb⟩ := getElem?_of_lt (l := s.saved) (k := k) (by rw [nr]; exact aY)
   have eX := iD (vq ha hb)
   obtain ⟨ba, oa, e1, _, c0⟩ := ((HA.below xA.below).rd).int ha
   obtain ⟨bb, ob, e2, _, c1⟩ := ((HB.below xA.below).rd).int hb
   have r3 := xA.row 3 rfl
   have r4 := xA.row 4 rfl
   rw [e1] at r3
   rw [e2] at r4
   clear ha hb e1 e2
   have kE : decide (n ≤ k) = false := by simpa using aY
   cases Is : pG s.aj s.saved k
   ·have pO := iD Is
    clear Is
    go_upto_region 10 with (fail)
    go_quiet (fail)
    go_wp2
    go_roundw
    case rel => exact ⟨k + 1, oM, by go_num, by rw [eX, pO]; rfl, xA.ab (Below.drewN bV _)⟩
    case measure => simp [intOf]; omega
   have pO := iD Is
   clear Is
   go_upto_region 10 with (fail)
   go_quiet (fail)
   go_wp2
   go_roundw
   case rel => exact ⟨k + 1, oM, by go_num, by rw [eX, pO]; rfl, xA.ab (Below.drewN bV _)⟩
   case measure => simp [intOf]; omega
  have kE : k = n := oM
  subst kE
  have xD := iD (yt AH nr)
  rw [lU, decide_eq_true rfl] at xD
  have VR : pG s.aj s.saved k = true := by rw [lU]; exact xD
  rw [VR]
  clear VR
  go_upto_region 13 with (fail)
  refine wp_region_list ?_
  refine wpList_load_row rfl 43 _ rfl w.heap.size rfl 43 (mz q s k (.slice q.Q4 q.n4 q.c4) (.slice q.Q5 0 c5) q.pg q.er q.nb q.ns false) (0, 0) _ xA.h underlying43 rfl aP ?_
  obtain ⟨ia, iH, jV⟩ := xA.h8
  refine wpList_store_row rfl 43 _ _ rfl (w.heap.size + 2) (mz q s k (.slice q.Q4 q.n4 q.c4) (.slice q.Q5 0 c5) q.pg q.er q.nb q.ns false) rfl rfl 43 ia jV aP iH (ix ..) ?_
  go_wp2
  (try simp only [Exit.inBlock, Exit.then])
  refine rI rfl (setRow_heap _ _ _ _ _ _ jV) aP ⟨rfl, below_setRow xA.below oM _⟩
def PlO (s : St) (g : Fl) (nb ns : Nat) (er : Int) : Prop :=
 (jW s g = some ns ∧ nb = s.block ∧ er = -1) ∨ (jW s g = none ∧ nb = (s.block + 1) % s.aa ∧ ns = 0 ∧ er = if cG g (aG s g nb 0) g.pg = true then -1 else ((s.first + nb : Nat) : Int))
structure Bg (X : Nat → Prop) (w wr : World) (l f : Array Value) (Q8 : Option Addr) (vs : List Int) (Q9 : Option Addr) (ps : List (List Int)) : Prop where
 z : Hz w wr l f
 v : cn (X3 X w.heap.size) wr Q8 (aA vs)
 p : lT (X3 X w.heap.size) wr Q9 ps
section
variable {X : Nat → Prop} {w wr w' : World} {l f : Array Value} {Q8 Q9 : Option Addr} {vs : List Int} {ps : List (List Int)}
theorem Bg.ab (h : Bg X w wr l f Q8 vs Q9 ps) (hb : bW wr w') : Bg X w w' l f Q8 vs Q9 ps := ⟨h.z.ab hb, h.v.below hb, h.p.below hb⟩
theorem Bg.set (h : Bg X w wr l f Q8 vs Q9 ps) (i : Nat) (v : Value) : Bg X w (wr.setCell ⟨w.heap.size, i, none⟩ v) (l.setIfInBounds i v) f Q8 vs Q9 ps :=
 ⟨h.z.set i v, h.v.ao (ah.set wr ⟨w.heap.size, i, none⟩ v (ZP _ _)), h.p.ao (ah.set wr ⟨w.heap.size, i, none⟩ v (ZP _ _))⟩
theorem Bg.OX (h : Bg X w wr l f Q8 vs Q9 ps) (cs : Array Value) : cn X (wr.setRow (w.heap.size + 2) cs) Q8 (aA vs) := (h.v.ao (ah.row wr (w.heap.size + 2) cs (x32 _ _))).cU (fun _ => .inl)
theorem Bg.OW (h : Bg X w wr l f Q8 vs Q9 ps) (cs : Array Value) : lT X (wr.setRow (w.heap.size + 2) cs) Q9 ps := (h.p.ao (ah.row wr (w.heap.size + 2) cs (x32 _ _))).dS (fun _ _ => .inl)
end
theorem Mr (w : World) (q : Qv) (s : St) (x : Rc) (g : Fl) (n c5 : Nat) (hA : cn X w q.Q2 (aA s.aj)) (hB : cn X w q.Q3 (aA s.saved)) (xN : s.aj.length = n) (lR : s.saved.length = n) (hR : ca X w x g) (hX : ∀ b, X b → b < w.heap.size) (hd : g.aF = false) (ho : bC g s) (gT : s.aw.length = n) (gB : s.aj ≠ s.saved) (mZ : fU (s.seq + 1) n = 0) (qm : n ≤ q.c2) (fQ : q.c2 ≤ maxLen) :
 Calls prog 83 #[.agg (mz q s n (.slice q.Q4 q.n4 q.c4) (.slice q.Q5 0 c5) q.pg q.er q.nb q.ns false), .agg (pq x g false)] w fun e w' => ∃ (Q8 : Option Addr) (c8 : Nat) (Q9 : Option Addr) (c9 nb ns : Nat) (er : Int), e = .returned (.tuple #[.agg (mz q s n (.slice Q8 n c8) (.slice Q9 (cN n) c9) (((s.first + nb) * g.pg + ns * cN n : Nat) : Int) er (nb : Int) (ns : Int) false), .int .i64 0]) ∧ bW w w' ∧ cn X w' Q8 (aA s.aj) ∧ lT X w' Q9 (dV (s.seq + 1) s.aj) ∧ n ≤ c8 ∧ c8 ≤ maxLen ∧ cN n ≤ c9 ∧ c9 ≤ maxLen ∧ PlO s g nb ns er := by
 have yU := ho.n1
 have uw := ho.n2
 rw [gT] at yU uw
 have xP := hR.ok.p2
 have abQ := hR.ok.b2
 have Iv := hR.ok.p1
 have DB := ho.fb
 have cB := ho.bl
 have dP := ho.b1
 have Aa := ho.b2
 have gF := ho.s1
 have je := ho.s2
 have uS := ho.kp
 have Dv := ho.q1
 obtain ⟨_, A0, _, _⟩ := ko mZ
 obtain ⟨K, hK⟩ := ex (cN n)
 have UA : s.k = K := by unfold St.k; rw [gT]; exact hK
 have hK1 : 1 ≤ K := by rw [← hK]; exact j7 yU
 have hK8 : K ≤ 8 := by rw [← hK]; exact jL uw
 obtain ⟨T, hT⟩ := ex (g.pg / K)
 have Y1 : bm s g = T := by unfold bm; rw [UA]; exact hT
 rw [Y1] at je
 rw [UA] at uS
 have WD : T ≤ 16 := by rw [← hT]; exact Nat.le_trans (Nat.div_le_self _ _) xP
 have tq : (g.pg : Int).tdiv (K : Int) = (T : Int) := by rw [Int.tdiv_eq_ediv_of_nonneg oM, ← hT]; push_cast; rfl
 have tq2 : (g.pg : Int) / (K : Int) = (T : Int) := by rw [← hT]; push_cast; rfl
 have hPS : ∀ b t, aG s g b t = (s.first + b) * g.pg + t * K := fun b t => by unfold aG; rw [UA]
 have Ru := iD hPS
 have HPI : Hid (∀ t, t < T → (s.first + s.block) * g.pg + t * K + K ≤ g.ar.length * g.pg) := fun t ht => by
  have := ho.oG (b := s.block) (j := t) ho.bl (by rw [Y1]; exact ht)
  rw [hPS, UA] at this
  exact this
 have ZA : Hid (∀ (w' : World) (b t : Nat), b ≤ 64 → t ≤ 64 → ∀ (c1 : Nat) (u1 u3 u4 u5 u6 u7 u8 u9 JL JK JJ JI : Value), Calls prog 81 #[.agg #[.int .i64 (s.first : Int), u1, .slice q.Q1 n c1, u3, u4, u5, u6, u7, u8, u9, JL, JK, JJ, JI, .bool false], .agg (pq x g false), .int .i64 (b : Int), .int .i64 (t : Int)] w' fun e Hd => e = .returned (.int .i64 (((s.first + b) * g.pg + t * K : Nat) : Int)) ∧ bW w' Hd) := by
  intro w' b t hb ht c1 u1 u3 u4 u5 u6 u7 u8 u9 JL JK JJ JI
  have h := OU x g s.first q.Q1 n c1 u1 u3 u4 u5 u6 u7 u8 u9 JL JK JJ JI (.bool false) b t w' oM hb ht uw xP
  unfold Rc.v at h
  rw [hd, hK] at h
  exact h
 have JC : Hid (∀ (w' : World) (b : Nat), b ≤ 64 → ∀ (c1 : Nat) (u1 u3 u4 u5 u6 u7 u8 u9 JL JK JJ JI : Value), Calls prog 81 #[.agg #[.int .i64 (s.first : Int), u1, .slice q.Q1 n c1, u3, u4, u5, u6, u7, u8, u9, JL, JK, JJ, JI, .bool false], .agg (pq x g false), .int .i64 (b : Int), .int .i64 0] w' fun e Hd => e = .returned (.int .i64 (((s.first + b) * g.pg + 0 * K : Nat) : Int)) ∧ bW w' Hd) :=
  fun w' b hb c1 u1 u3 u4 u5 u6 u7 u8 u9 JL JK JJ JI => ZA w' b 0 hb oM c1 u1 u3 u4 u5 u6 u7 u8 u9 JL JK JJ JI
 have uJ : Hid (∀ (w' : World), bW w w' → ∀ a m : Nat, 1 ≤ m → a + m ≤ g.ar.length * g.pg → Calls prog 112 #[.agg (pq x g false), .int .i64 (a : Int), .int .i64 (m : Int)] w' fun e Hd => e = .returned (.bool (cG g a m)) ∧ bW w' Hd) := by
  intro w' hb a m h1 h2
  have h := Po (hR.below hb) a m h1 h2
  unfold Rc.v at h
  rw [hd] at h
  exact h
 have gX := iD ho
 have MI := iD hX
 have tn := iD gB
 have abv := iD mZ
 have zl := iD hK
 have HkK := iD UA
 have HTs := iD Y1
 have zk : Hid ((aA s.aj).length = n * 1) := by rw [Hid, cj, xN]; omega
 obtain ⟨i3, vS, kB, jN, la⟩ := info_parts mr
 have nR : 0 ≤ maxLen := Nat.zero_le _
 have hcm' := fQ
 unfold maxLen at hcm'
 clear hR hX hd ho gT gB mZ hPS hK UA Y1 hT fQ
 rw [zl]
 obtain ⟨W, hW⟩ := ex (((w.alloc (.cells (mz q s n (.slice q.Q4 q.n4 q.c4) (.slice q.Q5 0 c5) q.pg q.er q.nb q.ns false) 43)).alloc (.cells (pq x g false) 35)).alloc (.cells qB 43))
 have HZ := iD (Hz.new hW.symm ⟨_, rfl, rfl⟩)
 have HA := iD hA
 have HB := iD hB
 have AH := iD xN
 have nr := iD lR
 have tN := HZ.row 14 rfl
 have r9 := HZ.row 9 rfl
 have f3 := HZ.ll 3 rfl
 have r3 := HZ.row 3 rfl
 clear hA hB xN lR
 go_enter func83, ntmps83
 go_upto_region 8 with (fail)
 try rw [hW]
 clear hW tN r9 f3 r3
 go_loopw [6, 7, 26] (fun b i7 i wr => ∃ k : Nat, k ≤ n ∧ i = .int .i64 k ∧ b = .bool (pG s.aj s.saved k) ∧ Hz w wr (mz q s n (.slice q.Q4 q.n4 q.c4) (.slice q.Q5 0 c5) q.pg q.er q.nb q.ns false) (pq x g false)) (fun _ _ i _ => n - (intOf i).toNat)
 case atStart => exact ⟨0, Nat.zero_le _, rfl, rfl, HZ⟩
 case round =>
  obtain ⟨k, hk, rfl, rfl, hz⟩ := hrel
  have xA := iD hz
  clear hz
  by_cases aY : k < n
  ·obtain ⟨a, ha⟩ := getElem?_of_lt (l := s.aj) (k := k) (by rw [AH]; exact aY)
   obtain ⟨b, hb⟩ := getElem?_of_lt (l := s.saved) (k := k) (by rw [nr]; exact aY)
   have eX := iD (vq ha hb)
   obtain ⟨ba, oa, e1, _, c0⟩ := ((HA.below xA.below).rd).int ha
   obtain ⟨bb, ob, e2, _, c1⟩ := ((HB.below xA.below).rd).int hb
   have r3 := xA.row 3 rfl
   have r4 := xA.row 4 rfl
   rw [e1] at r3
   rw [e2] at r4
   clear ha hb e1 e2
   have kE : decide (n ≤ k) = false := by simpa using aY
   cases Is : pG s.aj s.saved k
   ·have pO := iD Is
    clear Is
    go_upto_region 10 with (fail)
    go_quiet (fail)
    go_wp2
    go_roundw
    case rel => exact ⟨k + 1, oM, by go_num, by rw [eX, pO]; rfl, xA.ab (Below.drewN bV _)⟩
    case measure => simp [intOf]; omega
   have pO := iD Is
   clear Is
   go_upto_region 10 with (fail)
   go_quiet (fail)
   go_wp2
   go_roundw
   case rel => exact ⟨k + 1, oM, by go_num, by rw [eX, pO]; rfl, xA.ab (Below.drewN bV _)⟩
   case measure => simp [intOf]; omega
  have kE : k = n := oM
  subst kE
  have xD := iD (yt AH nr)
  rw [decide_eq_false tn.out] at xD
  have VR := xD.out
  rw [VR]
  clear VR
  go_upto_region 14 with (fail)
  have r2 := xA.row 2 rfl
  go_wp2_with (fail)
  refine (oF k oM wr).mono ?_
  rintro e w1 ⟨rfl, rfl⟩
  rw [zl]
  have r3 := xA.row 3 rfl
  have ZT : (wr.alloc (.cells #[] 3)).cell? ⟨w.heap.size, 3, none⟩ = some (.slice q.Q2 k q.c2) := ((bI wr _).cell (p := ⟨w.heap.size, 3, none⟩) (World.block_lt_of_cell? wr _ r3)).trans r3
  have aao := xA.lt
  clear r2
  go_wp2_with (at_builtin; refine aN _ rfl _ _ 33 rfl (w.heap.size + 3) 3 i3 (.int .i64 0) 1 8 underlying33 vS kB jN la rfl oM _ 0 [] rfl (World.ownsRow_lit wr #[] 0 oM nR rfl) w.heap.size _ k q.c2 (aA s.aj) rfl ((HA.rd.below xA.below cV).below (bI wr _) xA.below.size) zk (mY _) (by unfold maxLen; omega) oM (by simp; omega) ?_)
  intro v5 w5 hown5 hgrow5 _
  have kd : w5.ownsRow (w.heap.size + 3) 3 1 v5 k (aA s.aj) := by simpa using hown5
  have AF := iD ((xA.ab (bI wr _)).grown hgrow5 (fun m e => by have hk' : some wr.heap.size = some m := e; injection hk' with hk'; omega))
  obtain ⟨Q8, c8, rfl, EI, EH, _⟩ := a9 kd
  have FO := iD (And.intro EI EH)
  have pv : Hid (cn (X3 X w.heap.size) w5 Q8 (aA s.aj)) := cn.own (by rw [cj]; exact AH) kd (fun m hm hx => by
   have h1 := (kd.lt m hm).1
   rcases hx with hx | hx
   ·have := MI m hx
    omega
   omega)
  have hp5 : lT (X3 X w.heap.size) w5 none [] := lT.nil
  have r8 := AF.row 8 rfl
  have z8 := AF.fz 8
  clear r3 ZT hown5 hgrow5 kd EI EH aao
  go_upto_region 16 with (fail)
  have Xq : Hid (Hz w (w5.setCell ⟨w.heap.size, 8, none⟩ (.slice Q8 k c8)) (mz q s k (.slice Q8 k c8) (.slice q.Q5 0 c5) q.pg q.er q.nb q.ns false) (pq x g false)) := AF.set 8 (.slice Q8 k c8)
  have PE := iD (pv.ao (ah.set w5 ⟨w.heap.size, 8, none⟩ (.slice Q8 k c8) (ZP _ _)))
  generalize w5.setCell ⟨w.heap.size, 8, none⟩ (.slice Q8 k c8) = V5 at Xq PE ⊢
  clear r8 z8 hp5
  have r5 := Xq.row 5 rfl
  have r8 := Xq.row 8 rfl
  have e1 : IntKind.i64.wrap (s.seq + 1) = s.seq + 1 := bf _ oM oM
  have HEN := iD (CP (X3 X w.heap.size) (s.seq + 1) Q8 k c8 s.aj V5 (X3.lt MI Xq.lt) PE.rd AH abv)
  rw [zl] at HEN
  go_wp2_with (fail)
  clear r5 r8 e1
  refine HEN.mono ?_
  rintro e w6 ⟨Q9, c9, rfl, OK, OJ, hp6, fB⟩
  have Dq := iD (And.intro OK OJ)
  have RB : Hid (Bg X w w6 (mz q s k (.slice Q8 k c8) (.slice q.Q5 0 c5) q.pg q.er q.nb q.ns false) (pq x g false) Q8 s.aj Q9 (dV (s.seq + 1) s.aj)) := ⟨Xq.ab fB, PE.below fB, hp6⟩
  have r9 := RB.z.row 9 rfl
  have z9 := RB.z.fz 9
  clear OK OJ hp6 fB
  go_upto_region 17 with (fail)
  have jS : Hid (Bg X w (w6.setCell ⟨w.heap.size, 9, none⟩ (.slice Q9 K c9)) (mz q s k (.slice Q8 k c8) (.slice Q9 K c9) q.pg q.er q.nb q.ns false) (pq x g false) Q8 s.aj Q9 (dV (s.seq + 1) s.aj)) := (RB.set 9 (.slice Q9 K c9))
  generalize (w6.setCell ⟨w.heap.size, 9, none⟩ (.slice Q9 K c9)) = Rh at jS ⊢
  clear r9 z9
  have r6 := jS.z.row 6 rfl
  have AY := jS.z.row 11 rfl
  have uP := jS.z.row 12 rfl
  have xK := jS.z.row 13 rfl
  have Kb := jS.z.fz 11
  have NK := jS.z.fz 12
  have Ka := jS.z.fz 13
  go_upto_region 18 with (fail)
  have G6 : Hid (Bg X w (((Rh.setCell ⟨w.heap.size, 11, none⟩ (.int .i64 (-1))).setCell ⟨w.heap.size, 12, none⟩ (.int .i64 (s.block : Int))).setCell ⟨w.heap.size, 13, none⟩ (.int .i64 (-1))) (mz q s k (.slice Q8 k c8) (.slice Q9 K c9) q.pg (-1) (s.block : Int) (-1) false) (pq x g false) Q8 s.aj Q9 (dV (s.seq + 1) s.aj)) := (((jS.set 11 (.int .i64 (-1))).set 12 (.int .i64 (s.block : Int))).set 13 (.int .i64 (-1)))
  generalize (((Rh.setCell ⟨w.heap.size, 11, none⟩ (.int .i64 (-1))).setCell ⟨w.heap.size, 12, none⟩ (.int .i64 (s.block : Int))).setCell ⟨w.heap.size, 13, none⟩ (.int .i64 (-1))) = abL at G6 ⊢
  clear r6 AY uP xK Kb NK Ka
  have r7 := G6.z.row 7 rfl
  obtain ⟨t0, ht0⟩ : ∃ t0 : Nat, s.slot + 1 = t0 := ⟨(s.slot + 1).toNat, oM⟩
  have e1 : IntKind.i64.wrap (s.slot + 1) = (t0 : Int) := by rw [ht0]; exact bf _ oM oM
  have HT0 := iD ht0
  have hkz : ¬ K = 0 := oM
  clear ht0
  go_upto_region 19 with (fail)
  clear r7 e1
  go_loopw [9] (fun i wr => ∃ t : Nat, i = .int .i64 (t : Int) ∧ s.slot < t ∧ t ≤ T ∧ (((∀ j < t, s.slot < j → cG g (aG s g s.block j) s.k = false) ∧ Bg X w wr (mz q s k (.slice Q8 k c8) (.slice Q9 K c9) q.pg (-1) (s.block : Int) (-1) false) (pq x g false) Q8 s.aj Q9 (dV (s.seq + 1) s.aj)) ∨ (∃ j0 : Nat, jW s g = some j0 ∧ j0 ≤ 64 ∧ Bg X w wr (mz q s k (.slice Q8 k c8) (.slice Q9 K c9) q.pg (-1) (s.block : Int) (j0 : Int) false) (pq x g false) Q8 s.aj Q9 (dV (s.seq + 1) s.aj)))) (fun i _ => T - (intOf i).toNat)
  case atStart => exact ⟨t0, rfl, by have := HT0.out; omega, by have := HT0.out; omega, .inl ⟨fun j h1 h2 => by have := HT0.out; omega, G6.out⟩⟩
  case round =>
   obtain ⟨t, rfl, dX, htT, vW⟩ := hrel
   rcases vW with ⟨Nn, DE⟩ | ⟨j0, hj0, Ct, DE⟩
   ·have tv := iD DE
    have FI := iD Nn
    clear DE Nn
    have f1 := tv.z.ll 1 rfl
    have xK := tv.z.row 13 rfl
    by_cases aY : t < T
    ·go_upto_region 21 with (fail)
     clear f1 xK
     have DN := iD (tv.z.ab fY)
     refine wp_region_held (S := fun w' => w'.heap[w.heap.size]? = some (.cells (mz q s k (.slice Q8 k c8) (.slice Q9 K c9) q.pg (-1) (s.block : Int) (-1) false) 43 (0, 0)) ∧ w'.heap[w.heap.size + 1]? = some (.cells (pq x g false) 35 (0, 0))) (by kernel_rfl) ?_
     change wpAnyH _ _ _ _ _ _ _ _ (World.drew _)
     refine wpAnyH_take (i := 0) (v := .agg (pq x g false)) rfl (by kernel_rfl) (by kernel_rfl) (by kernel_rfl) (fun _ _ _ h => h) ?_ ⟨DN.h, DN.h4⟩ ?_
     ·refine bE ?_ 35 _ rfl (w.heap.size + 1) rfl 35 _ (0, 0) _ (fun _ h => h.2) underlying35 rfl dK
      rfl
     change wpAnyH _ _ _ _ _ _ _ (Act.put _ (some 86) _) _
     simp only [nm]
     refine wpAnyH_take (i := 1) (v := .agg (mz q s k (.slice Q8 k c8) (.slice Q9 K c9) q.pg (-1) (s.block : Int) (-1) false)) rfl (by kernel_rfl) (by kernel_rfl) (by kernel_rfl) (fun _ _ _ h => h) ?_ ⟨DN.h, DN.h4⟩ ?_
     ·refine bE ?_ 43 _ rfl w.heap.size rfl 43 _ (0, 0) _ (fun _ h => h.1) underlying43 rfl aP
      rfl
     change wpAnyH _ _ _ _ _ _ _ (Act.put _ (some 87) _) _
     simp only [nm]
     refine wpAnyH_take (i := 2) (v := .agg (pq x g false)) rfl (by kernel_rfl) (by kernel_rfl) (by kernel_rfl) (fun _ _ _ h => h) ?_ ⟨DN.h, DN.h4⟩ ?_
     ·refine bE ?_ 35 _ rfl (w.heap.size + 1) rfl 35 _ (0, 0) _ (fun _ h => h.2) underlying35 rfl dK
      rfl
     change wpAnyH _ _ _ _ _ _ _ (Act.put _ (some 88) _) _
     simp only [nm]
     refine wpAnyH_take (i := 3) (v := .pointer (some ⟨w.heap.size, 6, none⟩)) rfl (by kernel_rfl) (by kernel_rfl) (by kernel_rfl) (fun _ _ _ h => h) (.inl ⟨?_, ?_⟩) ⟨DN.h, DN.h4⟩ ?_
     ·rfl
     ·rintro w' ⟨h1, h2⟩
      have h3 : w'.cell? ⟨w.heap.size, 6, none⟩ = some (.int .i64 (s.block : Int)) := cell_of_row w' w.heap.size 6 (mz q s k (.slice Q8 k c8) (.slice Q9 K c9) q.pg (-1) (s.block : Int) (-1) false) 43 (0, 0) h1
      clear h1 h2
      go_simp
     change wpAnyH _ _ _ _ _ _ _ (Act.put _ (some 89) _) _
     simp only [nm]
     refine wpAnyH_take (i := 4) (v := .int .i64 (s.block : Int)) rfl (by kernel_rfl) (by kernel_rfl) (by kernel_rfl) (fun _ _ _ h => h) (.inl ⟨?_, ?_⟩) ⟨DN.h, DN.h4⟩ ?_
     ·rfl
     ·rintro w' ⟨h1, h2⟩
      have h3 : w'.cell? ⟨w.heap.size, 6, none⟩ = some (.int .i64 (s.block : Int)) := cell_of_row w' w.heap.size 6 (mz q s k (.slice Q8 k c8) (.slice Q9 K c9) q.pg (-1) (s.block : Int) (-1) false) 43 (0, 0) h1
      clear h1 h2
      go_simp
     change wpAnyH _ _ _ _ _ _ _ (Act.put _ (some 90) _) _
     simp only [nm]
     refine wpAnyH_take (i := 5) (v := .int .i64 (t : Int)) rfl (by kernel_rfl) (by kernel_rfl) (by kernel_rfl) (fun _ _ _ h => h) (.inl ⟨?_, ?_⟩) ⟨DN.h, DN.h4⟩ ?_
     ·rfl
     ·rintro w' ⟨h1, h2⟩
      have h3 : w'.cell? ⟨w.heap.size, 6, none⟩ = some (.int .i64 (s.block : Int)) := cell_of_row w' w.heap.size 6 (mz q s k (.slice Q8 k c8) (.slice Q9 K c9) q.pg (-1) (s.block : Int) (-1) false) 43 (0, 0) h1
      clear h1 h2
      go_simp
     change wpAnyH _ _ _ _ _ _ _ (Act.put _ (some 91) _) _
     simp only [nm]
     refine wpAnyH_take (i := 7) (v := .int .i64 (K : Int)) rfl (by kernel_rfl) (by kernel_rfl) (by kernel_rfl) (fun _ _ _ h => h) (.inl ⟨?_, ?_⟩) ⟨DN.h, DN.h4⟩ ?_
     ·rfl
     ·rintro w' ⟨h1, h2⟩
      have h3 : w'.cell? ⟨w.heap.size, 6, none⟩ = some (.int .i64 (s.block : Int)) := cell_of_row w' w.heap.size 6 (mz q s k (.slice Q8 k c8) (.slice Q9 K c9) q.pg (-1) (s.block : Int) (-1) false) 43 (0, 0) h1
      clear h1 h2
      go_simp
     change wpAnyH _ _ _ _ _ _ _ (Act.put _ (some 93) _) _
     simp only [nm]
     refine jv (i := 6) (al := [.agg (mz q s k (.slice Q8 k c8) (.slice Q9 K c9) q.pg (-1) (s.block : Int) (-1) false), .agg (pq x g false), .int .i64 (s.block : Int), .int .i64 (t : Int)]) (by kernel_rfl) rfl (by rfl) _ _ rfl (by rfl) L8 ?_
     refine (ZA _ s.block t oM oM _ _ _ _ _ _ _ _ _ _ _ _ _).mono ?_
     rintro e w9 ⟨rfl, oL⟩
     have G4 := iD (tv.ab ((Below.drew bV).trans oL))
     refine rW ⟨G4.z.h, G4.z.h4⟩ ?_
     refine jv (i := 8) (al := [.agg (pq x g false), .int .i64 (((s.first + s.block) * g.pg + t * K : Nat) : Int), .int .i64 (K : Int)]) (by kernel_rfl) rfl (by rfl) _ _ rfl (by rfl) L4 ?_
     refine (uJ w9 G4.z.below ((s.first + s.block) * g.pg + t * K) K hK1 (HPI t oM)).mono ?_
     rintro e w8 ⟨rfl, kG⟩
     have U8 := iD (G4.ab kG)
     refine rW ⟨U8.z.h, U8.z.h4⟩ ?_
     refine wD ?_
     clear oL kG
     have Yt := iD (Ru s.block t)
     obtain ⟨bl, EK⟩ := ex (cG g ((s.first + s.block) * g.pg + t * K) K)
     have DP : Hid (cG g (aG s g s.block t) s.k = bl) := by rw [Hid, Yt, HkK]; exact EK
     rw [EK]
     clear EK
     have xK := U8.z.row 13 rfl
     have Ka := U8.z.fz 13
     cases bl
     ·go_wp2
      go_roundw
      case rel =>
       refine ⟨t + 1, by go_num, oM, oM, .inl ⟨fun j h1 h2 => ?_, U8⟩⟩
       by_cases e : j = t
       ·subst e; exact DP
       exact FI j oM h2
      case measure => simp [intOf]; omega
     go_wp2
     go_roundw
     case rel => exact ⟨t + 1, by go_num, oM, oM, .inr ⟨t, yW (by rw [HTs]; exact aY) dX DP FI, oM, U8.set 13 (.int .i64 (t : Int))⟩⟩
     case measure => simp [intOf]; omega
    have U5 : Hid (jW s g = none) := yX (fun j h1 h2 => FI.out j (by have := HTs.out; omega) h2)
    have r6 := tv.z.row 6 rfl
    have r1 := tv.z.row 1 rfl
    have uP := tv.z.row 12 rfl
    have NK := tv.z.fz 12
    have Ka := tv.z.fz 13
    obtain ⟨nb, zW⟩ := ex ((s.block + 1) % s.aa)
    have aal : nb < s.aa := by rw [← zW]; exact Nat.mod_lt _ oM
    have e1 : IntKind.i64.wrap ((s.block : Int) + 1) = (s.block : Int) + 1 := bf _ oM oM
    have e2 : ((s.block : Int) + 1) % (s.aa : Int) = (nb : Int) := by rw [← zW]; push_cast; rfl
    have e3 : ((s.block : Int) + 1).tmod (s.aa : Int) = (nb : Int) := by rw [Int.tmod_eq_emod_of_nonneg oM]; exact e2
    have e4 : ¬ s.aa = 0 := oM
    have Bj := iD zW
    have sN : decide (t < T) = false := by simpa using aY
    clear zW
    go_upto_region 25 with (fail)
    clear e1 e2 e3 r6 r1 f1 sN
    have yg : Hid (Bg X w ((wr.setCell ⟨w.heap.size, 12, none⟩ (.int .i64 (nb : Int))).setCell ⟨w.heap.size, 13, none⟩ (.int .i64 0)) (mz q s k (.slice Q8 k c8) (.slice Q9 K c9) q.pg (-1) (nb : Int) 0 false) (pq x g false) Q8 s.aj Q9 (dV (s.seq + 1) s.aj)) := ((tv.set 12 (.int .i64 (nb : Int))).set 13 (.int .i64 0))
    generalize ((wr.setCell ⟨w.heap.size, 12, none⟩ (.int .i64 (nb : Int))).setCell ⟨w.heap.size, 13, none⟩ (.int .i64 0)) = Xm at yg ⊢
    clear uP xK NK Ka
    have r0 := yg.z.row 0 rfl
    have uP := yg.z.row 12 rfl
    have f1 := yg.z.ll 1 rfl
    obtain ⟨fb, OH⟩ := ex (s.first + nb)
    obtain ⟨M1, Ab⟩ := ex (fb * g.pg)
    have WL : M1 ≤ 128 * 16 := by rw [← Ab]; exact Nat.mul_le_mul oM xP
    have e1 : IntKind.i64.wrap ((s.first : Int) + (nb : Int)) = (fb : Int) := by rw [show (s.first : Int) + (nb : Int) = (fb : Int) by omega]; exact bf _ oM oM
    have e2 : IntKind.i64.wrap ((fb : Int) * (g.pg : Int)) = (M1 : Int) := by
     have e : (fb : Int) * (g.pg : Int) = (M1 : Int) := by rw [← Ab]; push_cast; rfl
     rw [e]
     exact bf _ oM oM
    have uh : Hid (M1 + g.pg ≤ g.ar.length * g.pg) := by
     have := gX.wS (b := nb) aal
     rw [Ru nb 0] at this
     rw [Hid, ← Ab, ← OH]
     omega
    have Bn : Hid (aG s g nb 0 = M1) := by rw [Hid, Ru nb 0, OH, Ab]; omega
    have HFB := iD OH
    have HW := iD (uJ Xm yg.z.below M1 g.pg Iv uh)
    clear OH Ab
    refine wp_region_list ?_
    refine wpList_load_row rfl 35 _ rfl (w.heap.size + 1) rfl 35 (pq x g false) (0, 0) _ yg.z.h4 underlying35 rfl dK ?_
    go_wp2_with (fail)
    clear r0 uP f1 e2
    refine HW.mono ?_
    rintro e w4 ⟨rfl, iI⟩
    have xG := iD (yg.ab iI)
    clear iI
    obtain ⟨bl, EK⟩ := ex (cG g M1 g.pg)
    have DP : Hid (cG g (aG s g nb 0) g.pg = bl) := by rw [Hid, Bn]; exact EK
    rw [EK]
    clear EK
    cases bl
    ·have r0 := xG.z.row 0 rfl
     have uP := xG.z.row 12 rfl
     have AY := xG.z.row 11 rfl
     have Kb := xG.z.fz 11
     go_upto_region 27 with (fail)
     clear r0 uP e1
     have Va : Hid (Bg X w (w4.setCell ⟨w.heap.size, 11, none⟩ (.int .i64 (fb : Int))) (mz q s k (.slice Q8 k c8) (.slice Q9 K c9) q.pg (fb : Int) (nb : Int) 0 false) (pq x g false) Q8 s.aj Q9 (dV (s.seq + 1) s.aj)) := (xG.set 11 (.int .i64 (fb : Int)))
     generalize (w4.setCell ⟨w.heap.size, 11, none⟩ (.int .i64 (fb : Int))) = Xn at Va ⊢
     clear AY Kb
     go_upto_region 27 with (fail)
     obtain ⟨tf, qt⟩ := ex ((s.first + nb) * g.pg + 0 * K)
     have Bo := iD qt
     have fR := iD (JC Xn nb oM)
     rw [qt] at fR
     clear qt
     refine wp_region_list ?_
     refine wpList_load_row rfl 43 _ rfl w.heap.size rfl 43 (mz q s k (.slice Q8 k c8) (.slice Q9 K c9) q.pg (fb : Int) (nb : Int) 0 false) (0, 0) _ Va.z.h underlying43 rfl aP ?_
     refine wpList_load_row rfl 35 _ rfl (w.heap.size + 1) rfl 35 (pq x g false) (0, 0) _ Va.z.h4 underlying35 rfl dK ?_
     have uP := Va.z.row 12 rfl
     have xK := Va.z.row 13 rfl
     go_wp2_with (fail)
     clear uP xK
     refine (fR _ _ _ _ _ _ _ _ _ _ _ _ _).mono ?_
     rintro e w7 ⟨rfl, jB⟩
     have Fq := iD (Va.ab jB)
     have yy := Fq.z.row 10 rfl
     have AV := Fq.z.fz 10
     clear jB
     go_upto_region 28 with (fail)
     clear yy AV
     have tr : Hid (Bg X w (w7.setCell ⟨w.heap.size, 10, none⟩ (.int .i64 (tf : Int))) (mz q s k (.slice Q8 k c8) (.slice Q9 K c9) (tf : Int) (fb : Int) (nb : Int) 0 false) (pq x g false) Q8 s.aj Q9 (dV (s.seq + 1) s.aj)) := Fq.set 10 (.int .i64 (tf : Int))
     generalize w7.setCell ⟨w.heap.size, 10, none⟩ (.int .i64 (tf : Int)) = V7 at tr ⊢
     refine wp_region_list ?_
     refine wpList_load_row rfl 43 _ rfl w.heap.size rfl 43 (mz q s k (.slice Q8 k c8) (.slice Q9 K c9) (tf : Int) (fb : Int) (nb : Int) 0 false) (0, 0) _ tr.z.h underlying43 rfl aP ?_
     obtain ⟨ia, iH, jV⟩ := tr.z.h8
     refine wpList_store_row rfl 43 _ _ rfl (w.heap.size + 2) (mz q s k (.slice Q8 k c8) (.slice Q9 K c9) (tf : Int) (fb : Int) (nb : Int) 0 false) rfl rfl 43 ia jV aP iH (ix ..) ?_
     go_wp2
     (try simp only [Exit.inBlock, Exit.then])
     refine rI rfl (setRow_heap _ _ _ _ _ _ jV) aP ⟨Q8, c8, Q9, c9, nb, 0, (fb : Int), by rw [Bo] <;> rfl, below_setRow tr.z.below oM _, tr.OX _, tr.OW _, FO.1, FO.2, Dq.1, Dq.2, .inr ⟨U5, Bj.symm, rfl, by rw [iN (by rw [DP]; decide), HFB]⟩⟩
    clear e1
    go_upto_region 27 with (fail)
    obtain ⟨tf, qt⟩ := ex ((s.first + nb) * g.pg + 0 * K)
    have Bo := iD qt
    have fR := iD (JC w4 nb oM)
    rw [qt] at fR
    clear qt
    refine wp_region_list ?_
    refine wpList_load_row rfl 43 _ rfl w.heap.size rfl 43 (mz q s k (.slice Q8 k c8) (.slice Q9 K c9) q.pg (-1) (nb : Int) 0 false) (0, 0) _ xG.z.h underlying43 rfl aP ?_
    refine wpList_load_row rfl 35 _ rfl (w.heap.size + 1) rfl 35 (pq x g false) (0, 0) _ xG.z.h4 underlying35 rfl dK ?_
    have uP := xG.z.row 12 rfl
    have xK := xG.z.row 13 rfl
    go_wp2_with (fail)
    clear uP xK
    refine (fR _ _ _ _ _ _ _ _ _ _ _ _ _).mono ?_
    rintro e w7 ⟨rfl, jB⟩
    have Fq := iD (xG.ab jB)
    have yy := Fq.z.row 10 rfl
    have AV := Fq.z.fz 10
    clear jB
    go_upto_region 28 with (fail)
    clear yy AV
    have tr : Hid (Bg X w (w7.setCell ⟨w.heap.size, 10, none⟩ (.int .i64 (tf : Int))) (mz q s k (.slice Q8 k c8) (.slice Q9 K c9) (tf : Int) (-1) (nb : Int) 0 false) (pq x g false) Q8 s.aj Q9 (dV (s.seq + 1) s.aj)) := Fq.set 10 (.int .i64 (tf : Int))
    generalize w7.setCell ⟨w.heap.size, 10, none⟩ (.int .i64 (tf : Int)) = V7 at tr ⊢
    refine wp_region_list ?_
    refine wpList_load_row rfl 43 _ rfl w.heap.size rfl 43 (mz q s k (.slice Q8 k c8) (.slice Q9 K c9) (tf : Int) (-1) (nb : Int) 0 false) (0, 0) _ tr.z.h underlying43 rfl aP ?_
    obtain ⟨ia, iH, jV⟩ := tr.z.h8
    refine wpList_store_row rfl 43 _ _ rfl (w.heap.size + 2) (mz q s k (.slice Q8 k c8) (.slice Q9 K c9) (tf : Int) (-1) (nb : Int) 0 false) rfl rfl 43 ia jV aP iH (ix ..) ?_
    go_wp2
    (try simp only [Exit.inBlock, Exit.then])
    refine rI rfl (setRow_heap _ _ _ _ _ _ jV) aP ⟨Q8, c8, Q9, c9, nb, 0, (-1), by rw [Bo] <;> rfl, below_setRow tr.z.below oM _, tr.OX _, tr.OW _, FO.1, FO.2, Dq.1, Dq.2, .inr ⟨U5, Bj.symm, rfl, by rw [iP DP.out]⟩⟩
   have tv := iD DE
   have HJ0 := iD hj0
   clear DE hj0
   have f1 := tv.z.ll 1 rfl
   have xK := tv.z.row 13 rfl
   have hj1 : decide ((j0 : Int) < 0) = false := by simp
   by_cases aY : t < T
   ·go_upto_region 27 with (fail)
    clear f1 xK
    go_upto_region 27 with (fail)
    obtain ⟨tf, qt⟩ := ex ((s.first + s.block) * g.pg + j0 * K)
    have Bo := iD qt
    have fR := iD (ZA wr s.block j0 oM oM)
    rw [qt] at fR
    clear qt
    refine wp_region_list ?_
    refine wpList_load_row rfl 43 _ rfl w.heap.size rfl 43 (mz q s k (.slice Q8 k c8) (.slice Q9 K c9) q.pg (-1) (s.block : Int) (j0 : Int) false) (0, 0) _ tv.z.h underlying43 rfl aP ?_
    refine wpList_load_row rfl 35 _ rfl (w.heap.size + 1) rfl 35 (pq x g false) (0, 0) _ tv.z.h4 underlying35 rfl dK ?_
    have uP := tv.z.row 12 rfl
    have xK := tv.z.row 13 rfl
    go_wp2_with (fail)
    clear uP xK
    refine (fR _ _ _ _ _ _ _ _ _ _ _ _ _).mono ?_
    rintro e w7 ⟨rfl, jB⟩
    have Fq := iD (tv.ab jB)
    have yy := Fq.z.row 10 rfl
    have AV := Fq.z.fz 10
    clear jB
    go_upto_region 28 with (fail)
    clear yy AV
    have tr : Hid (Bg X w (w7.setCell ⟨w.heap.size, 10, none⟩ (.int .i64 (tf : Int))) (mz q s k (.slice Q8 k c8) (.slice Q9 K c9) (tf : Int) (-1) (s.block : Int) (j0 : Int) false) (pq x g false) Q8 s.aj Q9 (dV (s.seq + 1) s.aj)) := Fq.set 10 (.int .i64 (tf : Int))
    generalize w7.setCell ⟨w.heap.size, 10, none⟩ (.int .i64 (tf : Int)) = V7 at tr ⊢
    refine wp_region_list ?_
    refine wpList_load_row rfl 43 _ rfl w.heap.size rfl 43 (mz q s k (.slice Q8 k c8) (.slice Q9 K c9) (tf : Int) (-1) (s.block : Int) (j0 : Int) false) (0, 0) _ tr.z.h underlying43 rfl aP ?_
    obtain ⟨ia, iH, jV⟩ := tr.z.h8
    refine wpList_store_row rfl 43 _ _ rfl (w.heap.size + 2) (mz q s k (.slice Q8 k c8) (.slice Q9 K c9) (tf : Int) (-1) (s.block : Int) (j0 : Int) false) rfl rfl 43 ia jV aP iH (ix ..) ?_
    go_wp2
    (try simp only [Exit.inBlock, Exit.then])
    refine rI rfl (setRow_heap _ _ _ _ _ _ jV) aP ⟨Q8, c8, Q9, c9, s.block, j0, (-1), by rw [Bo] <;> rfl, below_setRow tr.z.below oM _, tr.OX _, tr.OW _, FO.1, FO.2, Dq.1, Dq.2, .inl ⟨HJ0, rfl, rfl⟩⟩
   have sN : decide (t < T) = false := by simpa using aY
   go_upto_region 27 with (fail)
   clear f1 xK sN
   go_upto_region 27 with (fail)
   obtain ⟨tf, qt⟩ := ex ((s.first + s.block) * g.pg + j0 * K)
   have Bo := iD qt
   have fR := iD (ZA wr s.block j0 oM oM)
   rw [qt] at fR
   clear qt
   refine wp_region_list ?_
   refine wpList_load_row rfl 43 _ rfl w.heap.size rfl 43 (mz q s k (.slice Q8 k c8) (.slice Q9 K c9) q.pg (-1) (s.block : Int) (j0 : Int) false) (0, 0) _ tv.z.h underlying43 rfl aP ?_
   refine wpList_load_row rfl 35 _ rfl (w.heap.size + 1) rfl 35 (pq x g false) (0, 0) _ tv.z.h4 underlying35 rfl dK ?_
   have uP := tv.z.row 12 rfl
   have xK := tv.z.row 13 rfl
   go_wp2_with (fail)
   clear uP xK
   refine (fR _ _ _ _ _ _ _ _ _ _ _ _ _).mono ?_
   rintro e w7 ⟨rfl, jB⟩
   have Fq := iD (tv.ab jB)
   have yy := Fq.z.row 10 rfl
   have AV := Fq.z.fz 10
   clear jB
   go_upto_region 28 with (fail)
   clear yy AV
   have tr : Hid (Bg X w (w7.setCell ⟨w.heap.size, 10, none⟩ (.int .i64 (tf : Int))) (mz q s k (.slice Q8 k c8) (.slice Q9 K c9) (tf : Int) (-1) (s.block : Int) (j0 : Int) false) (pq x g false) Q8 s.aj Q9 (dV (s.seq + 1) s.aj)) := Fq.set 10 (.int .i64 (tf : Int))
   generalize w7.setCell ⟨w.heap.size, 10, none⟩ (.int .i64 (tf : Int)) = V7 at tr ⊢
   refine wp_region_list ?_
   refine wpList_load_row rfl 43 _ rfl w.heap.size rfl 43 (mz q s k (.slice Q8 k c8) (.slice Q9 K c9) (tf : Int) (-1) (s.block : Int) (j0 : Int) false) (0, 0) _ tr.z.h underlying43 rfl aP ?_
   obtain ⟨ia, iH, jV⟩ := tr.z.h8
   refine wpList_store_row rfl 43 _ _ rfl (w.heap.size + 2) (mz q s k (.slice Q8 k c8) (.slice Q9 K c9) (tf : Int) (-1) (s.block : Int) (j0 : Int) false) rfl rfl 43 ia jV aP iH (ix ..) ?_
   go_wp2
   (try simp only [Exit.inBlock, Exit.then])
   refine rI rfl (setRow_heap _ _ _ _ _ _ jV) aP ⟨Q8, c8, Q9, c9, s.block, j0, (-1), by rw [Bo] <;> rfl, below_setRow tr.z.below oM _, tr.OX _, tr.OW _, FO.1, FO.2, Dq.1, Dq.2, .inl ⟨HJ0, rfl, rfl⟩⟩
end Go.Proofs.YtjdknddnanopaaaGreat
