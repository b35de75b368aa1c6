
/-
  A struct's row in a region that draws its order. The reference of layer 51: Step.
-/
import Derived.Test.YtjdknddnanopaaaRW77
import Derived.Test.YtjdknddnanopaaaRW21
import Derived.Test.YtjdknddnanopaaaPlainJ
import Derived.OrdersHeld
namespace Go.Proofs.Ytjdknddnanopaaa
open Go.RowKit
set_option linter.unusedVariables false
set_option linter.unusedSimpArgs false

section
variable {P : Program} {ops : Array Oper} {Q : Exit → Act → World → Prop} {md : Region.Mode} {S : World → Prop}
theorem yieldsIf_load_row {op : Oper} {a : Act} (hw : Region.wanted op (yielded ops a.tmps) = true) (ty : TypeId) (x : Operand) (ho : op.op = .load ty x)
    (g : Nat) (hx : a.eval x = .pointer (some ⟨g, 0, none⟩)) (t : TypeId) (cs : Array Value) (fr : Nat × Nat) (d : TypeDesc) (hS : ∀ w, S w → w.heap[g]? = some (.cells cs t fr))
    (hu : P.underlying ty = some d) (hd : (match d with | .struct _ | .array _ _ => true | _ => false) = true) (hi : (P.info? ty).map (·.size) = some cs.size) : YieldsIf P ops S op (.agg cs) a :=
  .inl ⟨hw, fun w hw' => by
    unfold execOp
    simp only [ho, hx, Instr.loadAt, Instr.sureAddr, Sem.run_bind, Sem.run_pure, Result.andThen_ok, run_loadVar_row w g t ty cs fr d (hS w hw') hu hd hi]⟩
theorem yieldsIf_assign {op : Oper} {a : Act} (hw : Region.wanted op (yielded ops a.tmps) = true) (x : Operand) (ho : op.op = .assign x) : YieldsIf P ops S op (a.eval x) a :=
  .inl ⟨hw, fun w _ => by unfold execOp; simp [ho]⟩
theorem yieldsIf_move {op : Oper} {a : Act} (hw : Region.wanted op (yielded ops a.tmps) = true) (x : Operand) (ho : op.op = .move x) : YieldsIf P ops S op (a.eval x) a :=
  .inl ⟨hw, fun w _ => by unfold execOp; simp [ho]⟩
/-- A struct is stored, as nothing else may come up. -/
theorem wpAnyH_store {i : Nat} {oi : Oper} {fuel : Nat} {listed : Array Bool} {a : Act} {w : World}
    (hr : Region.ready md ops listed = [i]) (hi : ops[i]? = some oi) (wi : Region.wanted oi (yielded ops a.tmps) = true) (di : oi.dst = none)
    (ti : TypeId) (xi yi : Operand) (hoi : oi.op = .store ti xi yi) (E : Nat) (c old : Array Value)
    (hxi : a.eval xi = .pointer (some ⟨E, 0, none⟩)) (hyi : a.eval yi = .agg c) (tE : TypeId)
    (hE : w.heap[E]? = some (.cells old tE (0, 0))) (hsi : (P.info? ti).map (·.size) = some c.size)
    (holdi : old.size = c.size) (h1i : c.all (·.oneCell') = true)
    (hS : S (w.setRow E c)) (h : wpAnyH P md ops Q S fuel (listed.setIfInBounds i true) a (w.setRow E c)) : wpAnyH P md ops Q S (fuel + 1) listed a w := by
  refine wpAnyH_all hr (by simp) (fun k hk => ?_)
  simp only [List.mem_cons, List.not_mem_nil, or_false] at hk
  subst hk
  refine wpOp_step hi (fun K' hK => ?_)
  rw [if_pos wi]
  refine wp_store_row ti xi yi hoi E c hxi hyi tE old hE hsi holdi h1i ?_
  rw [di, show a.put none undef = a from rfl]
  exact hK _ _ ⟨hS, h⟩
/-- A struct is loaded, as nothing else may come up. -/
theorem wpAnyH_load {i : Nat} {oi : Oper} {fuel : Nat} {listed : Array Bool} {a : Act} {w : World}
    (hr : Region.ready md ops listed = [i]) (hi : ops[i]? = some oi) (wi : Region.wanted oi (yielded ops a.tmps) = true) (ty : TypeId) (x : Operand) (ho : oi.op = .load ty x)
    (g : Nat) (hx : a.eval x = .pointer (some ⟨g, 0, none⟩)) (t : TypeId) (cs : Array Value) (d : TypeDesc) (hg : w.heap[g]? = some (.cells cs t (0, 0)))
    (hu : P.underlying ty = some d) (hd : (match d with | .struct _ | .array _ _ => true | _ => false) = true) (hsz : (P.info? ty).map (·.size) = some cs.size)
    (hS : S w) (h : wpAnyH P md ops Q S fuel (listed.setIfInBounds i true) (a.put oi.dst (.agg cs)) w) : wpAnyH P md ops Q S (fuel + 1) listed a w := by
  refine wpAnyH_all hr (by simp) (fun k hk => ?_)
  simp only [List.mem_cons, List.not_mem_nil, or_false] at hk
  subst hk
  refine wpOp_step hi (fun K' hK => ?_)
  rw [if_pos wi]
  exact wp_load_row ty x ho g hx t cs (0, 0) d hg hu hd hsz (hK _ _ ⟨hS, h⟩)
/-- A function is called, as nothing else may come up. -/
theorem wpAnyH_call {i n : Nat} {oi : Oper} {fuel : Nat} {listed : Array Bool} {a : Act} {w : World} {al : List Value}
    (hr : Region.ready md ops listed = [i]) (hi : ops[i]? = some oi) (wi : Region.wanted oi (yielded ops a.tmps) = true) (xl : List Operand) (ats : Array TypeId) (ho : oi.op = .call { callee := .value (.func n), args := xl.toArray, argTypes := ats }) (hargs : xl.map a.eval = al) (hent : ∀ (args : Array Value) (w : World), (callFunc n args).run P w = .ok (.enter n args) w)
    (h : Calls P n al.toArray w fun e w' => ∃ v, e = .returned v ∧ S w' ∧ wpAnyH P md ops Q S fuel (listed.setIfInBounds i true) (a.put oi.dst v) w') : wpAnyH P md ops Q S (fuel + 1) listed a w := by
  refine wpAnyH_all hr (by simp) (fun k hk => ?_)
  simp only [List.mem_cons, List.not_mem_nil, or_false] at hk
  subst hk
  refine wpOp_step hi (fun K' hK => ?_)
  rw [if_pos wi]
  have he : (execOp a.eval oi).run P w = .ok (.enter n al.toArray) w := by
    obtain ⟨dst, op, ty, pos, after, guard⟩ := oi
    simp only at ho
    subst ho
    rw [execOp_call_go, show (#[] ++ xl.toArray.map a.eval ++ #[] : Array Value) = al.toArray by rw [← hargs]; simp]
    exact hent _ _
  unfold Oper.wp
  rw [he, Oper.upon_enter]
  refine h.mono ?_
  rintro e w' ⟨v, rfl, h1, h2⟩
  exact hK _ _ ⟨h1, h2⟩
end
theorem enter81 (args : Array Value) (w : World) : (callFunc 70 args).run Try.prog w = .ok (.enter 70 args) w := by
  go_simp
theorem results_rows {P : Program} {fn : Func} {p p' u v : Tmp} {ty ty' : TypeId} (h : fn.results = #[.cell p ty, .cell p' ty', .tmp u, .tmp v]) (tmps : Array Value) (w : World) (g g' : Nat) (t t' : TypeId) (cs cs' : Array Value) (d d' : TypeDesc)
    (hp : tmps.getD p undef = .pointer (some ⟨g, 0, none⟩)) (hp' : tmps.getD p' undef = .pointer (some ⟨g', 0, none⟩)) (hg : w.heap[g]? = some (.cells cs t (0, 0))) (hg' : w.heap[g']? = some (.cells cs' t' (0, 0)))
    (hu : P.underlying ty = some d) (hd : (match d with | .struct _ | .array _ _ => true | _ => false) = true) (hi : (P.info? ty).map (·.size) = some cs.size)
    (hu' : P.underlying ty' = some d') (hd' : (match d' with | .struct _ | .array _ _ => true | _ => false) = true) (hi' : (P.info? ty').map (·.size) = some cs'.size) :
    (results fn tmps).run P w = .ok (.tuple #[.agg cs, .agg cs', tmps.getD u undef, tmps.getD v undef]) w := by
  have e1 := run_loadVar_row (P := P) w g t ty cs (0, 0) d hg hu hd hi
  have e2 := run_loadVar_row (P := P) w g' t' ty' cs' (0, 0) d' hg' hu' hd' hi'
  simp only [Array.getD_eq_getD_getElem?] at hp hp'
  simp [results, h, Sem.run_bind, hp, hp', asAddr, e1, e2]
theorem results_rows3 {P : Program} {fn : Func} {p p' u : Tmp} {ty ty' : TypeId} (h : fn.results = #[.cell p ty, .cell p' ty', .tmp u]) (tmps : Array Value) (w : World) (g g' : Nat) (t t' : TypeId) (cs cs' : Array Value) (d d' : TypeDesc)
    (hp : tmps.getD p undef = .pointer (some ⟨g, 0, none⟩)) (hp' : tmps.getD p' undef = .pointer (some ⟨g', 0, none⟩)) (hg : w.heap[g]? = some (.cells cs t (0, 0))) (hg' : w.heap[g']? = some (.cells cs' t' (0, 0)))
    (hu : P.underlying ty = some d) (hd : (match d with | .struct _ | .array _ _ => true | _ => false) = true) (hi : (P.info? ty).map (·.size) = some cs.size)
    (hu' : P.underlying ty' = some d') (hd' : (match d' with | .struct _ | .array _ _ => true | _ => false) = true) (hi' : (P.info? ty').map (·.size) = some cs'.size) :
    (results fn tmps).run P w = .ok (.tuple #[.agg cs, .agg cs', tmps.getD u undef]) w := by
  have e1 := run_loadVar_row (P := P) w g t ty cs (0, 0) d hg hu hd hi
  have e2 := run_loadVar_row (P := P) w g' t' ty' cs' (0, 0) d' hg' hu' hd' hi'
  simp only [Array.getD_eq_getD_getElem?] at hp hp'
  simp [results, h, Sem.run_bind, hp, hp', asAddr, e1, e2]

/-- The boxes of a store and of a flash, and those of the results. -/
structure Hy (w wr : World) (l f : Array Value) : Prop where
  below : Below w.heap.size w wr
  h : wr.heap[w.heap.size]? = some (.cells l 46 (0, 0))
  h4 : wr.heap[w.heap.size + 1]? = some (.cells f 37 (0, 0))
  h8 : ∃ old : Array Value, old.size = 15 ∧ wr.heap[w.heap.size + 2]? = some (.cells old 46 (0, 0))
  h9 : ∃ old : Array Value, old.size = 6 ∧ wr.heap[w.heap.size + 3]? = some (.cells old 37 (0, 0))
section
variable {w wr w' : World} {l f : Array Value}
theorem Hy.lt (h : Hy w wr l f) : w.heap.size + 3 < wr.heap.size := by
  obtain ⟨old, _, h9⟩ := h.h9
  exact (Array.getElem?_eq_some_iff.1 h9).1
theorem Hy.later (h : Hy w wr l f) (hb : Below wr.heap.size wr w') : Hy w w' l f := by
  have hl := h.lt
  obtain ⟨old, ho, h8⟩ := h.h8
  obtain ⟨old', ho', h9⟩ := h.h9
  exact ⟨h.below.trans (hb.mono h.below.size), (hb.block _ (by omega)).trans h.h, (hb.block _ (by omega)).trans h.h4, ⟨old, ho, (hb.block _ (by omega)).trans h8⟩, ⟨old', ho', (hb.block _ hl).trans h9⟩⟩
theorem Hy.row (h : Hy w wr l f) (j : Nat) {u : Value} (hj : l[j]? = some u) : wr.cell? ⟨w.heap.size, j, none⟩ = some u := (cell_of_row wr _ j l 46 (0, 0) h.h).trans hj
theorem Hy.fz (h : Hy w wr l f) (j : Nat) : wr.frozen? ⟨w.heap.size, j, none⟩ = false := frozen_of_row wr _ j l 46 h.h
theorem Hy.frow (h : Hy w wr l f) (j : Nat) {u : Value} (hj : f[j]? = some u) : wr.cell? ⟨w.heap.size + 1, j, none⟩ = some u := (cell_of_row wr _ j f 37 (0, 0) h.h4).trans hj
theorem Hy.ffz (h : Hy w wr l f) (j : Nat) : wr.frozen? ⟨w.heap.size + 1, j, none⟩ = false := frozen_of_row wr _ j f 37 h.h4
theorem Hy.set (h : Hy w wr l f) (i : Nat) (v : Value) : Hy w (wr.setCell ⟨w.heap.size, i, none⟩ v) (l.setIfInBounds i v) f := by
  obtain ⟨old, ho, h8⟩ := h.h8
  obtain ⟨old', ho', h9⟩ := h.h9
  exact ⟨h.below.setCell (p := ⟨w.heap.size, i, none⟩) (Nat.le_refl _) _, heap_setCell_same wr _ i l 46 v h.h, (heap_setCell_other wr ⟨w.heap.size, i, none⟩ _ v (by simp)).trans h.h4, ⟨old, ho, (heap_setCell_other wr ⟨w.heap.size, i, none⟩ _ v (by simp)).trans h8⟩, ⟨old', ho', (heap_setCell_other wr ⟨w.heap.size, i, none⟩ _ v (by simp)).trans h9⟩⟩
theorem Hy.set4 (h : Hy w wr l f) (i : Nat) (v : Value) : Hy w (wr.setCell ⟨w.heap.size + 1, i, none⟩ v) l (f.setIfInBounds i v) := by
  obtain ⟨old, ho, h8⟩ := h.h8
  obtain ⟨old', ho', h9⟩ := h.h9
  exact ⟨h.below.setCell (p := ⟨w.heap.size + 1, i, none⟩) (Nat.le_succ _) _, (heap_setCell_other wr ⟨w.heap.size + 1, i, none⟩ _ v (by simp)).trans h.h, heap_setCell_same wr _ i f 37 v h.h4, ⟨old, ho, (heap_setCell_other wr ⟨w.heap.size + 1, i, none⟩ _ v (by simp)).trans h8⟩, ⟨old', ho', (heap_setCell_other wr ⟨w.heap.size + 1, i, none⟩ _ v (by simp)).trans h9⟩⟩
theorem Hy.put (h : Hy w wr l f) (cs : Array Value) : Hy w (wr.setRow w.heap.size cs) cs f := by
  obtain ⟨old, ho, h8⟩ := h.h8
  obtain ⟨old', ho', h9⟩ := h.h9
  exact ⟨below_setRow h.below (Nat.le_refl _) _, setRow_heap _ _ _ _ _ _ h.h, (setRow_other _ _ _ _ (by omega)).trans h.h4, ⟨old, ho, (setRow_other _ _ _ _ (by omega)).trans h8⟩, ⟨old', ho', (setRow_other _ _ _ _ (by omega)).trans h9⟩⟩
theorem Hy.put4 (h : Hy w wr l f) (cs : Array Value) : Hy w (wr.setRow (w.heap.size + 1) cs) l cs := by
  obtain ⟨old, ho, h8⟩ := h.h8
  obtain ⟨old', ho', h9⟩ := h.h9
  exact ⟨below_setRow h.below (Nat.le_succ _) _, (setRow_other _ _ _ _ (by omega)).trans h.h, setRow_heap _ _ _ _ _ _ h.h4, ⟨old, ho, (setRow_other _ _ _ _ (by omega)).trans h8⟩, ⟨old', ho', (setRow_other _ _ _ _ (by omega)).trans h9⟩⟩
theorem Hy.new {w V : World} {o o' : Obj} (hV : V = (((w.alloc (.cells l 46)).alloc (.cells f 37)).alloc o).alloc o') (ho : ∃ old : Array Value, old.size = 15 ∧ o = .cells old 46) (ho' : ∃ old : Array Value, old.size = 6 ∧ o' = .cells old 37) : Hy w V l f := by
  obtain ⟨old, h1, rfl⟩ := ho
  obtain ⟨old', h1', rfl⟩ := ho'
  subst hV
  have s1 : ∀ (w : World) (o : Obj), (w.alloc o).heap.size = w.heap.size + 1 := fun w o => Array.size_push _
  have hA := fun (w : World) (o : Obj) (i : Nat) (hi : i < w.heap.size) => heap_alloc_old w o hi
  have hN := fun (w : World) (o : Obj) => heap_alloc_new w o
  refine ⟨?_, ?_, ?_, ⟨old, h1, ?_⟩, ⟨old', h1', ?_⟩⟩
  · exact (((below_two w _ _).alloc (by rw [s1, s1]; omega) _).alloc (by rw [s1, s1, s1]; omega) _)
  · rw [hA _ _ _ (by rw [s1, s1, s1]; omega), hA _ _ _ (by rw [s1, s1]; omega), hA _ _ _ (by rw [s1]; omega)]
    exact hN _ _
  · rw [hA _ _ _ (by rw [s1, s1, s1]; omega), hA _ _ _ (by rw [s1, s1]; omega)]
    have := hN (w.alloc (.cells l 46)) (.cells f 37)
    rw [s1] at this
    exact this
  · rw [hA _ _ _ (by rw [s1, s1, s1]; omega)]
    have := hN ((w.alloc (.cells l 46)).alloc (.cells f 37)) (.cells old 46)
    rw [s1, s1] at this
    exact this
  · have := hN (((w.alloc (.cells l 46)).alloc (.cells f 37)).alloc (.cells old 46)) (.cells old' 37)
    rw [s1, s1, s1] at this
    exact this
end
theorem one6 (a1 a4 : Int) (Q0 Q2 Q5 : Option Addr) (n0 c0 n2 c2 n5 c5 : Nat) (b : Bool) :
    (#[Value.slice Q0 n0 c0, .int .i64 a1, .slice Q2 n2 c2, .bool b, .int .i64 a4, .slice Q5 n5 c5].all (·.oneCell')) = true := by
  simp [Value.oneCell']

theorem OnlyX.row {X : Nat → Prop} (w : World) (g : Nat) (cs : Array Value) (h : X g) : OnlyX X w (w.setRow g cs) :=
  ⟨by rw [size_setRow]; exact Nat.le_refl _, fun k _ hk => setRow_other w g k cs (fun e => hk (e ▸ h))⟩
theorem RAt.onlyX {X : Nat → Prop} {w w' : World} {x : Rc} {g : Fl} (h : RAt X w x g) (k : OnlyX X w w') : RAt X w' x g :=
  ⟨h.ok, h.a.onlyX k, h.a1, h.a2, h.b.onlyX k, h.b1, h.b2, h.p.onlyX k, h.p1, h.p2⟩
/-- X, and the blocks from N on. -/
def XN (X : Nat → Prop) (N : Nat) (b : Nat) : Prop := X b ∨ (N ≤ b ∧ b ≤ N + 3)
theorem XN.lt {X : Nat → Prop} {N M : Nat} (h : ∀ b, X b → b < N) (hM : N + 3 < M) : ∀ b, XN X N b → b < M := fun b hb => by
  rcases hb with h1 | h1
  · have := h b h1
    omega
  · omega
theorem RdX.xn {X : Nat → Prop} {w w' : World} {A : Option Addr} {xs : List Value} (h : RdX X w A xs) (hb : Below w.heap.size w w') : RdX (XN X w.heap.size) w' A xs := fun hx => by
  obtain ⟨b, off, e, hlt, hn, hc⟩ := h hx
  refine ⟨b, off, e, Nat.lt_of_lt_of_le hlt hb.size, fun hk => ?_, fun j u hu => (hb.cell (p := ⟨b, off + j, none⟩) hlt).trans (hc j u hu)⟩
  rcases hk with h1 | h1
  · exact hn h1
  · omega
theorem RAt.xn {X : Nat → Prop} {w w' : World} {x : Rc} {g : Fl} (h : RAt X w x g) (hb : Below w.heap.size w w') : RAt (XN X w.heap.size) w' x g :=
  ⟨h.ok, h.a.xn hb, h.a1, h.a2, h.b.xn hb, h.b1, h.b2, h.p.xn hb, h.p1, h.p2⟩
theorem RAt.ofn {X : Nat → Prop} {w : World} {N : Nat} {x : Rc} {g : Fl} (h : RAt (XN X N) w x g) : RAt X w x g := h.weak (fun _ => .inl)
theorem xn0 (X : Nat → Prop) (N : Nat) : XN X N N := .inr ⟨Nat.le_refl _, Nat.le_add_right _ _⟩
theorem xn1 (X : Nat → Prop) (N : Nat) : XN X N (N + 1) := .inr ⟨Nat.le_add_right _ _, by omega⟩
theorem xn2 (X : Nat → Prop) (N : Nat) : XN X N (N + 2) := .inr ⟨Nat.le_add_right _ _, by omega⟩
theorem xn3 (X : Nat → Prop) (N : Nat) : XN X N (N + 3) := .inr ⟨Nat.le_add_right _ _, by omega⟩
/-- A flash is stored in its box, field by field. -/
theorem Hy.all4 {w wr : World} {l : Array Value} {a' b' c' d' e' u' : Value} (h : Hy w wr l #[a', b', c', d', e', u']) (a b c d e u : Value) :
    Hy w ((((((wr.setCell ⟨w.heap.size + 1, 0, none⟩ a).setCell ⟨w.heap.size + 1, 1, none⟩ b).setCell ⟨w.heap.size + 1, 2, none⟩ c).setCell ⟨w.heap.size + 1, 3, none⟩ d).setCell ⟨w.heap.size + 1, 4, none⟩ e).setCell ⟨w.heap.size + 1, 5, none⟩ u) l #[a, b, c, d, e, u] :=
  (((((h.set4 0 a).set4 1 b).set4 2 c).set4 3 d).set4 4 e).set4 5 u
theorem OnlyX.all4 {X : Nat → Prop} (w : World) (D : Nat) (a b c d e u : Value) (h : X D) :
    OnlyX X w ((((((w.setCell ⟨D, 0, none⟩ a).setCell ⟨D, 1, none⟩ b).setCell ⟨D, 2, none⟩ c).setCell ⟨D, 3, none⟩ d).setCell ⟨D, 4, none⟩ e).setCell ⟨D, 5, none⟩ u) :=
  (((((OnlyX.set _ ⟨D, 0, none⟩ _ h).trans (OnlyX.set _ ⟨D, 1, none⟩ _ h)).trans (OnlyX.set _ ⟨D, 2, none⟩ _ h)).trans (OnlyX.set _ ⟨D, 3, none⟩ _ h)).trans (OnlyX.set _ ⟨D, 4, none⟩ _ h)).trans (OnlyX.set _ ⟨D, 5, none⟩ _ h)
set_option maxRecDepth 100000 in
set_option maxHeartbeats 4000000 in
theorem step_rb (w : World) (q : Qv) (s : St) (x : Rc) (g : Fl) :
    Calls Try.prog 114 #[.agg #[Value.int .i64 s.first, .int .i64 s.blocks, .slice q.Q1 s.spec.length q.c1, .slice q.Q2 s.staged.length q.c2, .slice q.Q3 s.saved.length q.c3, .int .i64 s.seq, .int .i64 s.block, .int .i64 s.slot, .slice q.Q4 q.n4 q.c4, .slice q.Q5 q.n5 q.c5, .int .i64 q.pg, .int .i64 q.er, .int .i64 q.nb, .int .i64 q.ns, .bool true], .agg #[Value.slice x.A g.img.length x.c, .int .i64 g.pg, .slice x.B g.wear.length x.d, .bool g.down, .int .i64 g.fuse, .slice x.P g.picks.length x.r]] w fun e w' => e = .returned (.tuple #[.agg #[Value.int .i64 s.first, .int .i64 s.blocks, .slice q.Q1 s.spec.length q.c1, .slice q.Q2 s.staged.length q.c2, .slice q.Q3 s.saved.length q.c3, .int .i64 s.seq, .int .i64 s.block, .int .i64 s.slot, .slice q.Q4 q.n4 q.c4, .slice q.Q5 q.n5 q.c5, .int .i64 q.pg, .int .i64 q.er, .int .i64 q.nb, .int .i64 q.ns, .bool true], .agg #[Value.slice x.A g.img.length x.c, .int .i64 g.pg, .slice x.B g.wear.length x.d, .bool g.down, .int .i64 g.fuse, .slice x.P g.picks.length x.r], .bool false, .int .i64 20]) ∧ Below w.heap.size w w' := by
  obtain ⟨W, hW⟩ : ∃ W, (((w.alloc (.cells #[Value.int .i64 s.first, .int .i64 s.blocks, .slice q.Q1 s.spec.length q.c1, .slice q.Q2 s.staged.length q.c2, .slice q.Q3 s.saved.length q.c3, .int .i64 s.seq, .int .i64 s.block, .int .i64 s.slot, .slice q.Q4 q.n4 q.c4, .slice q.Q5 q.n5 q.c5, .int .i64 q.pg, .int .i64 q.er, .int .i64 q.nb, .int .i64 q.ns, .bool true] 46)).alloc (.cells #[Value.slice x.A g.img.length x.c, .int .i64 g.pg, .slice x.B g.wear.length x.d, .bool g.down, .int .i64 g.fuse, .slice x.P g.picks.length x.r] 37)).alloc (.cells #[.int .i64 0, .int .i64 0, .slice none 0 0, .slice none 0 0, .slice none 0 0, .int .i64 0, .int .i64 0, .int .i64 0, .slice none 0 0, .slice none 0 0, .int .i64 0, .int .i64 0, .int .i64 0, .int .i64 0, .bool false] 46)).alloc (.cells #[.slice none 0 0, .int .i64 0, .slice none 0 0, .bool false, .int .i64 0, .slice none 0 0] 37) = W := ⟨_, rfl⟩
  have HY := Lib.hid (Hy.new hW.symm ⟨_, rfl, rfl⟩ ⟨_, rfl, rfl⟩)
  have r14 := HY.out.row 14 rfl
  go_enter Try.func114, Try.ntmps114
  go_upto_region 2 with (fail)
  try rw [hW]
  clear hW
  have HYD := Lib.hid ((HY.out).later (Below.drew (Below.refl _ _)))
  obtain ⟨old8, ho8, hh8⟩ := HYD.out.h8
  obtain ⟨old9, ho9, hh9⟩ := HYD.out.h9
  refine wp_region_held (S := fun w' => w'.heap[w.heap.size]? = some (.cells #[Value.int .i64 s.first, .int .i64 s.blocks, .slice q.Q1 s.spec.length q.c1, .slice q.Q2 s.staged.length q.c2, .slice q.Q3 s.saved.length q.c3, .int .i64 s.seq, .int .i64 s.block, .int .i64 s.slot, .slice q.Q4 q.n4 q.c4, .slice q.Q5 q.n5 q.c5, .int .i64 q.pg, .int .i64 q.er, .int .i64 q.nb, .int .i64 q.ns, .bool true] 46 (0, 0)) ∧ w'.heap[w.heap.size + 1]? = some (.cells #[Value.slice x.A g.img.length x.c, .int .i64 g.pg, .slice x.B g.wear.length x.d, .bool g.down, .int .i64 g.fuse, .slice x.P g.picks.length x.r] 37 (0, 0))) (by kernel_rfl) ?_
  refine wpAnyH_take (i := 0) (v := .agg #[Value.int .i64 s.first, .int .i64 s.blocks, .slice q.Q1 s.spec.length q.c1, .slice q.Q2 s.staged.length q.c2, .slice q.Q3 s.saved.length q.c3, .int .i64 s.seq, .int .i64 s.block, .int .i64 s.slot, .slice q.Q4 q.n4 q.c4, .slice q.Q5 q.n5 q.c5, .int .i64 q.pg, .int .i64 q.er, .int .i64 q.nb, .int .i64 q.ns, .bool true]) rfl (by kernel_rfl) (by kernel_rfl) (by kernel_rfl) (fun _ _ _ h => h) ?_ ⟨HYD.out.h, HYD.out.h4⟩ ?_
  · refine yieldsIf_load_row ?_ 46 _ rfl w.heap.size rfl 46 _ (0, 0) _ (fun _ h => h.1) Try.underlying46 rfl size105
    rfl
  change wpAnyH _ _ _ _ _ _ _ (Act.put _ (some 11) _) _
  simp only [Act.put, List.setIfInBounds_toArray, List.set_cons_zero, List.set_cons_succ]
  refine wpAnyH_take (i := 1) (v := .agg #[Value.slice x.A g.img.length x.c, .int .i64 g.pg, .slice x.B g.wear.length x.d, .bool g.down, .int .i64 g.fuse, .slice x.P g.picks.length x.r]) rfl (by kernel_rfl) (by kernel_rfl) (by kernel_rfl) (fun _ _ _ h => h) ?_ ⟨HYD.out.h, HYD.out.h4⟩ ?_
  · refine yieldsIf_load_row ?_ 37 _ rfl (w.heap.size + 1) rfl 37 _ (0, 0) _ (fun _ h => h.2) Try.underlying37 rfl size60
    rfl
  change wpAnyH _ _ _ _ _ _ _ (Act.put _ (some 12) _) _
  simp only [Act.put, List.setIfInBounds_toArray, List.set_cons_zero, List.set_cons_succ]
  refine wpAnyH_store (i := 2) (by kernel_rfl) rfl (by rfl) rfl 46 _ _ rfl (w.heap.size + 2) #[Value.int .i64 s.first, .int .i64 s.blocks, .slice q.Q1 s.spec.length q.c1, .slice q.Q2 s.staged.length q.c2, .slice q.Q3 s.saved.length q.c3, .int .i64 s.seq, .int .i64 s.block, .int .i64 s.slot, .slice q.Q4 q.n4 q.c4, .slice q.Q5 q.n5 q.c5, .int .i64 q.pg, .int .i64 q.er, .int .i64 q.nb, .int .i64 q.ns, .bool true] old8 rfl rfl 46 hh8 size105 ho8 (one15 ..) ⟨(setRow_other _ _ _ _ (by omega)).trans HYD.out.h, (setRow_other _ _ _ _ (by omega)).trans HYD.out.h4⟩ ?_
  refine wpAnyH_store (i := 3) (by kernel_rfl) rfl (by rfl) rfl 37 _ _ rfl (w.heap.size + 3) #[Value.slice x.A g.img.length x.c, .int .i64 g.pg, .slice x.B g.wear.length x.d, .bool g.down, .int .i64 g.fuse, .slice x.P g.picks.length x.r] old9 rfl rfl 37 ((setRow_other _ _ _ _ (by omega)).trans hh9) size60 ho9 (one6 ..) ⟨(setRow_other _ _ _ _ (by omega)).trans ((setRow_other _ _ _ _ (by omega)).trans HYD.out.h), (setRow_other _ _ _ _ (by omega)).trans ((setRow_other _ _ _ _ (by omega)).trans HYD.out.h4)⟩ ?_
  refine wpAnyH_take (i := 4) (v := .bool false) rfl (by kernel_rfl) (by kernel_rfl) (by kernel_rfl) (fun _ _ _ h => h) ?_ ⟨(setRow_other _ _ _ _ (by omega)).trans ((setRow_other _ _ _ _ (by omega)).trans HYD.out.h), (setRow_other _ _ _ _ (by omega)).trans ((setRow_other _ _ _ _ (by omega)).trans HYD.out.h4)⟩ ?_
  · refine yieldsIf_assign (x := .const (.bool false)) ?_ rfl
    rfl
  change wpAnyH _ _ _ _ _ _ _ (Act.put _ (some 6) _) _
  simp only [Act.put, List.setIfInBounds_toArray, List.set_cons_zero, List.set_cons_succ]
  refine wpAnyH_take (i := 5) (v := .int .i64 20) rfl (by kernel_rfl) (by kernel_rfl) (by kernel_rfl) (fun _ _ _ h => h) ?_ ⟨(setRow_other _ _ _ _ (by omega)).trans ((setRow_other _ _ _ _ (by omega)).trans HYD.out.h), (setRow_other _ _ _ _ (by omega)).trans ((setRow_other _ _ _ _ (by omega)).trans HYD.out.h4)⟩ ?_
  · refine yieldsIf_assign (x := .const (.int .i64 20)) ?_ rfl
    rfl
  change wpAnyH _ _ _ _ _ _ _ (Act.put _ (some 7) _) _
  simp only [Act.put, List.setIfInBounds_toArray, List.set_cons_zero, List.set_cons_succ]
  refine wpAnyH_done (by kernel_rfl) ?_ _
  go_wp2
  (try simp only [Exit.inBlock, Exit.then])
  refine bodyPost_ret (v := .tuple #[.agg #[Value.int .i64 s.first, .int .i64 s.blocks, .slice q.Q1 s.spec.length q.c1, .slice q.Q2 s.staged.length q.c2, .slice q.Q3 s.saved.length q.c3, .int .i64 s.seq, .int .i64 s.block, .int .i64 s.slot, .slice q.Q4 q.n4 q.c4, .slice q.Q5 q.n5 q.c5, .int .i64 q.pg, .int .i64 q.er, .int .i64 q.nb, .int .i64 q.ns, .bool true], .agg #[Value.slice x.A g.img.length x.c, .int .i64 g.pg, .slice x.B g.wear.length x.d, .bool g.down, .int .i64 g.fuse, .slice x.P g.picks.length x.r], .bool false, .int .i64 20]) (results_rows (p := 4) (p' := 5) (u := 6) (v := 7) rfl _ _ (w.heap.size + 2) (w.heap.size + 3) 46 37 #[Value.int .i64 s.first, .int .i64 s.blocks, .slice q.Q1 s.spec.length q.c1, .slice q.Q2 s.staged.length q.c2, .slice q.Q3 s.saved.length q.c3, .int .i64 s.seq, .int .i64 s.block, .int .i64 s.slot, .slice q.Q4 q.n4 q.c4, .slice q.Q5 q.n5 q.c5, .int .i64 q.pg, .int .i64 q.er, .int .i64 q.nb, .int .i64 q.ns, .bool true] #[Value.slice x.A g.img.length x.c, .int .i64 g.pg, .slice x.B g.wear.length x.d, .bool g.down, .int .i64 g.fuse, .slice x.P g.picks.length x.r] _ _ rfl rfl ((setRow_other _ _ _ _ (by omega)).trans (setRow_heap _ _ _ _ _ _ hh8)) (setRow_heap _ _ _ _ _ _ ((setRow_other _ _ _ _ (by omega)).trans hh9)) Try.underlying46 rfl size105 Try.underlying37 rfl size60) rfl ⟨rfl, below_setRow (below_setRow HYD.out.below (by omega) _) (by omega) _⟩
set_option maxRecDepth 100000 in
set_option maxHeartbeats 4000000 in
theorem step_ri (w : World) (q : Qv) (s : St) (x : Rc) (g : Fl) (c5 : Nat) :
    Calls Try.prog 114 #[.agg #[Value.int .i64 s.first, .int .i64 s.blocks, .slice q.Q1 s.spec.length q.c1, .slice q.Q2 s.staged.length q.c2, .slice q.Q3 s.saved.length q.c3, .int .i64 s.seq, .int .i64 s.block, .int .i64 s.slot, .slice q.Q4 q.n4 q.c4, .slice q.Q5 0 c5, .int .i64 q.pg, .int .i64 q.er, .int .i64 q.nb, .int .i64 q.ns, .bool false], .agg #[Value.slice x.A g.img.length x.c, .int .i64 g.pg, .slice x.B g.wear.length x.d, .bool g.down, .int .i64 g.fuse, .slice x.P g.picks.length x.r]] w fun e w' => e = .returned (.tuple #[.agg #[Value.int .i64 s.first, .int .i64 s.blocks, .slice q.Q1 s.spec.length q.c1, .slice q.Q2 s.staged.length q.c2, .slice q.Q3 s.saved.length q.c3, .int .i64 s.seq, .int .i64 s.block, .int .i64 s.slot, .slice q.Q4 q.n4 q.c4, .slice q.Q5 0 c5, .int .i64 q.pg, .int .i64 q.er, .int .i64 q.nb, .int .i64 q.ns, .bool false], .agg #[Value.slice x.A g.img.length x.c, .int .i64 g.pg, .slice x.B g.wear.length x.d, .bool g.down, .int .i64 g.fuse, .slice x.P g.picks.length x.r], .bool false, .int .i64 12]) ∧ Below w.heap.size w w' := by
  obtain ⟨W, hW⟩ : ∃ W, (((w.alloc (.cells #[Value.int .i64 s.first, .int .i64 s.blocks, .slice q.Q1 s.spec.length q.c1, .slice q.Q2 s.staged.length q.c2, .slice q.Q3 s.saved.length q.c3, .int .i64 s.seq, .int .i64 s.block, .int .i64 s.slot, .slice q.Q4 q.n4 q.c4, .slice q.Q5 0 c5, .int .i64 q.pg, .int .i64 q.er, .int .i64 q.nb, .int .i64 q.ns, .bool false] 46)).alloc (.cells #[Value.slice x.A g.img.length x.c, .int .i64 g.pg, .slice x.B g.wear.length x.d, .bool g.down, .int .i64 g.fuse, .slice x.P g.picks.length x.r] 37)).alloc (.cells #[.int .i64 0, .int .i64 0, .slice none 0 0, .slice none 0 0, .slice none 0 0, .int .i64 0, .int .i64 0, .int .i64 0, .slice none 0 0, .slice none 0 0, .int .i64 0, .int .i64 0, .int .i64 0, .int .i64 0, .bool false] 46)).alloc (.cells #[.slice none 0 0, .int .i64 0, .slice none 0 0, .bool false, .int .i64 0, .slice none 0 0] 37) = W := ⟨_, rfl⟩
  have HY := Lib.hid (Hy.new hW.symm ⟨_, rfl, rfl⟩ ⟨_, rfl, rfl⟩)
  have r14 := HY.out.row 14 rfl
  have r9 := HY.out.row 9 rfl
  go_enter Try.func114, Try.ntmps114
  go_upto_region 4 with (fail)
  try rw [hW]
  clear hW
  have HYD := Lib.hid ((HY.out).later (Below.drew (Below.refl _ _)))
  obtain ⟨old8, ho8, hh8⟩ := HYD.out.h8
  obtain ⟨old9, ho9, hh9⟩ := HYD.out.h9
  refine wp_region_held (S := fun w' => w'.heap[w.heap.size]? = some (.cells #[Value.int .i64 s.first, .int .i64 s.blocks, .slice q.Q1 s.spec.length q.c1, .slice q.Q2 s.staged.length q.c2, .slice q.Q3 s.saved.length q.c3, .int .i64 s.seq, .int .i64 s.block, .int .i64 s.slot, .slice q.Q4 q.n4 q.c4, .slice q.Q5 0 c5, .int .i64 q.pg, .int .i64 q.er, .int .i64 q.nb, .int .i64 q.ns, .bool false] 46 (0, 0)) ∧ w'.heap[w.heap.size + 1]? = some (.cells #[Value.slice x.A g.img.length x.c, .int .i64 g.pg, .slice x.B g.wear.length x.d, .bool g.down, .int .i64 g.fuse, .slice x.P g.picks.length x.r] 37 (0, 0))) (by kernel_rfl) ?_
  refine wpAnyH_take (i := 0) (v := .agg #[Value.int .i64 s.first, .int .i64 s.blocks, .slice q.Q1 s.spec.length q.c1, .slice q.Q2 s.staged.length q.c2, .slice q.Q3 s.saved.length q.c3, .int .i64 s.seq, .int .i64 s.block, .int .i64 s.slot, .slice q.Q4 q.n4 q.c4, .slice q.Q5 0 c5, .int .i64 q.pg, .int .i64 q.er, .int .i64 q.nb, .int .i64 q.ns, .bool false]) rfl (by kernel_rfl) (by kernel_rfl) (by kernel_rfl) (fun _ _ _ h => h) ?_ ⟨HYD.out.h, HYD.out.h4⟩ ?_
  · refine yieldsIf_load_row ?_ 46 _ rfl w.heap.size rfl 46 _ (0, 0) _ (fun _ h => h.1) Try.underlying46 rfl size105
    rfl
  change wpAnyH _ _ _ _ _ _ _ (Act.put _ (some 17) _) _
  simp only [Act.put, List.setIfInBounds_toArray, List.set_cons_zero, List.set_cons_succ]
  refine wpAnyH_take (i := 1) (v := .agg #[Value.slice x.A g.img.length x.c, .int .i64 g.pg, .slice x.B g.wear.length x.d, .bool g.down, .int .i64 g.fuse, .slice x.P g.picks.length x.r]) rfl (by kernel_rfl) (by kernel_rfl) (by kernel_rfl) (fun _ _ _ h => h) ?_ ⟨HYD.out.h, HYD.out.h4⟩ ?_
  · refine yieldsIf_load_row ?_ 37 _ rfl (w.heap.size + 1) rfl 37 _ (0, 0) _ (fun _ h => h.2) Try.underlying37 rfl size60
    rfl
  change wpAnyH _ _ _ _ _ _ _ (Act.put _ (some 18) _) _
  simp only [Act.put, List.setIfInBounds_toArray, List.set_cons_zero, List.set_cons_succ]
  refine wpAnyH_store (i := 2) (by kernel_rfl) rfl (by rfl) rfl 46 _ _ rfl (w.heap.size + 2) #[Value.int .i64 s.first, .int .i64 s.blocks, .slice q.Q1 s.spec.length q.c1, .slice q.Q2 s.staged.length q.c2, .slice q.Q3 s.saved.length q.c3, .int .i64 s.seq, .int .i64 s.block, .int .i64 s.slot, .slice q.Q4 q.n4 q.c4, .slice q.Q5 0 c5, .int .i64 q.pg, .int .i64 q.er, .int .i64 q.nb, .int .i64 q.ns, .bool false] old8 rfl rfl 46 hh8 size105 ho8 (one15 ..) ⟨(setRow_other _ _ _ _ (by omega)).trans HYD.out.h, (setRow_other _ _ _ _ (by omega)).trans HYD.out.h4⟩ ?_
  refine wpAnyH_store (i := 3) (by kernel_rfl) rfl (by rfl) rfl 37 _ _ rfl (w.heap.size + 3) #[Value.slice x.A g.img.length x.c, .int .i64 g.pg, .slice x.B g.wear.length x.d, .bool g.down, .int .i64 g.fuse, .slice x.P g.picks.length x.r] old9 rfl rfl 37 ((setRow_other _ _ _ _ (by omega)).trans hh9) size60 ho9 (one6 ..) ⟨(setRow_other _ _ _ _ (by omega)).trans ((setRow_other _ _ _ _ (by omega)).trans HYD.out.h), (setRow_other _ _ _ _ (by omega)).trans ((setRow_other _ _ _ _ (by omega)).trans HYD.out.h4)⟩ ?_
  refine wpAnyH_take (i := 4) (v := .bool false) rfl (by kernel_rfl) (by kernel_rfl) (by kernel_rfl) (fun _ _ _ h => h) ?_ ⟨(setRow_other _ _ _ _ (by omega)).trans ((setRow_other _ _ _ _ (by omega)).trans HYD.out.h), (setRow_other _ _ _ _ (by omega)).trans ((setRow_other _ _ _ _ (by omega)).trans HYD.out.h4)⟩ ?_
  · refine yieldsIf_assign (x := .const (.bool false)) ?_ rfl
    rfl
  change wpAnyH _ _ _ _ _ _ _ (Act.put _ (some 6) _) _
  simp only [Act.put, List.setIfInBounds_toArray, List.set_cons_zero, List.set_cons_succ]
  refine wpAnyH_take (i := 5) (v := .int .i64 12) rfl (by kernel_rfl) (by kernel_rfl) (by kernel_rfl) (fun _ _ _ h => h) ?_ ⟨(setRow_other _ _ _ _ (by omega)).trans ((setRow_other _ _ _ _ (by omega)).trans HYD.out.h), (setRow_other _ _ _ _ (by omega)).trans ((setRow_other _ _ _ _ (by omega)).trans HYD.out.h4)⟩ ?_
  · refine yieldsIf_assign (x := .const (.int .i64 12)) ?_ rfl
    rfl
  change wpAnyH _ _ _ _ _ _ _ (Act.put _ (some 7) _) _
  simp only [Act.put, List.setIfInBounds_toArray, List.set_cons_zero, List.set_cons_succ]
  refine wpAnyH_done (by kernel_rfl) ?_ _
  go_wp2
  (try simp only [Exit.inBlock, Exit.then])
  refine bodyPost_ret (v := .tuple #[.agg #[Value.int .i64 s.first, .int .i64 s.blocks, .slice q.Q1 s.spec.length q.c1, .slice q.Q2 s.staged.length q.c2, .slice q.Q3 s.saved.length q.c3, .int .i64 s.seq, .int .i64 s.block, .int .i64 s.slot, .slice q.Q4 q.n4 q.c4, .slice q.Q5 0 c5, .int .i64 q.pg, .int .i64 q.er, .int .i64 q.nb, .int .i64 q.ns, .bool false], .agg #[Value.slice x.A g.img.length x.c, .int .i64 g.pg, .slice x.B g.wear.length x.d, .bool g.down, .int .i64 g.fuse, .slice x.P g.picks.length x.r], .bool false, .int .i64 12]) (results_rows (p := 4) (p' := 5) (u := 6) (v := 7) rfl _ _ (w.heap.size + 2) (w.heap.size + 3) 46 37 #[Value.int .i64 s.first, .int .i64 s.blocks, .slice q.Q1 s.spec.length q.c1, .slice q.Q2 s.staged.length q.c2, .slice q.Q3 s.saved.length q.c3, .int .i64 s.seq, .int .i64 s.block, .int .i64 s.slot, .slice q.Q4 q.n4 q.c4, .slice q.Q5 0 c5, .int .i64 q.pg, .int .i64 q.er, .int .i64 q.nb, .int .i64 q.ns, .bool false] #[Value.slice x.A g.img.length x.c, .int .i64 g.pg, .slice x.B g.wear.length x.d, .bool g.down, .int .i64 g.fuse, .slice x.P g.picks.length x.r] _ _ rfl rfl ((setRow_other _ _ _ _ (by omega)).trans (setRow_heap _ _ _ _ _ _ hh8)) (setRow_heap _ _ _ _ _ _ ((setRow_other _ _ _ _ (by omega)).trans hh9)) Try.underlying46 rfl size105 Try.underlying37 rfl size60) rfl ⟨rfl, below_setRow (below_setRow HYD.out.below (by omega) _) (by omega) _⟩
set_option maxRecDepth 100000 in
set_option maxHeartbeats 4000000 in
theorem step_re {X : Nat → Prop} (w : World) (q : Qv) (s : St) (x : Rc) (g : Fl) (hR : RAt X w x g) (hX : ∀ b, X b → b < w.heap.size) (m c5 blk : Nat) (hm : 0 < m) (hm8 : m ≤ 8) (hblk : blk ≤ 1000) (g9 : Fl) (k9 : Int) (hE : eraseF g blk = (g9, k9)) :
    Calls Try.prog 114 #[.agg #[Value.int .i64 s.first, .int .i64 s.blocks, .slice q.Q1 s.spec.length q.c1, .slice q.Q2 s.staged.length q.c2, .slice q.Q3 s.saved.length q.c3, .int .i64 s.seq, .int .i64 s.block, .int .i64 s.slot, .slice q.Q4 q.n4 q.c4, .slice q.Q5 m c5, .int .i64 q.pg, .int .i64 (blk : Int), .int .i64 q.nb, .int .i64 q.ns, .bool false], .agg #[Value.slice x.A g.img.length x.c, .int .i64 g.pg, .slice x.B g.wear.length x.d, .bool g.down, .int .i64 g.fuse, .slice x.P g.picks.length x.r]] w fun e w' => ∃ y9 : Rc, RAt X w' y9 g9 ∧ Below w.heap.size w w' ∧
      (k9 = 0 → e = .returned (.tuple #[.agg #[Value.int .i64 s.first, .int .i64 s.blocks, .slice q.Q1 s.spec.length q.c1, .slice q.Q2 s.staged.length q.c2, .slice q.Q3 s.saved.length q.c3, .int .i64 s.seq, .int .i64 s.block, .int .i64 s.slot, .slice q.Q4 q.n4 q.c4, .slice q.Q5 m c5, .int .i64 q.pg, .int .i64 (-1), .int .i64 q.nb, .int .i64 q.ns, .bool false], .agg #[Value.slice y9.A g9.img.length y9.c, .int .i64 g9.pg, .slice y9.B g9.wear.length y9.d, .bool g9.down, .int .i64 g9.fuse, .slice y9.P g9.picks.length y9.r], .bool false, .int .i64 0])) ∧
      (k9 ≠ 0 → e = .returned (.tuple #[.agg #[Value.int .i64 s.first, .int .i64 s.blocks, .slice q.Q1 s.spec.length q.c1, .slice q.Q2 s.staged.length q.c2, .slice q.Q3 s.saved.length q.c3, .int .i64 s.seq, .int .i64 s.block, .int .i64 s.slot, .slice q.Q4 q.n4 q.c4, .slice q.Q5 m c5, .int .i64 q.pg, .int .i64 (blk : Int), .int .i64 q.nb, .int .i64 q.ns, .bool true], .agg #[Value.slice y9.A g9.img.length y9.c, .int .i64 g9.pg, .slice y9.B g9.wear.length y9.d, .bool g9.down, .int .i64 g9.fuse, .slice y9.P g9.picks.length y9.r], .bool false, .int .i64 20])) := by
  obtain ⟨W, hW⟩ : ∃ W, (((w.alloc (.cells #[Value.int .i64 s.first, .int .i64 s.blocks, .slice q.Q1 s.spec.length q.c1, .slice q.Q2 s.staged.length q.c2, .slice q.Q3 s.saved.length q.c3, .int .i64 s.seq, .int .i64 s.block, .int .i64 s.slot, .slice q.Q4 q.n4 q.c4, .slice q.Q5 m c5, .int .i64 q.pg, .int .i64 (blk : Int), .int .i64 q.nb, .int .i64 q.ns, .bool false] 46)).alloc (.cells #[Value.slice x.A g.img.length x.c, .int .i64 g.pg, .slice x.B g.wear.length x.d, .bool g.down, .int .i64 g.fuse, .slice x.P g.picks.length x.r] 37)).alloc (.cells #[.int .i64 0, .int .i64 0, .slice none 0 0, .slice none 0 0, .slice none 0 0, .int .i64 0, .int .i64 0, .int .i64 0, .slice none 0 0, .slice none 0 0, .int .i64 0, .int .i64 0, .int .i64 0, .int .i64 0, .bool false] 46)).alloc (.cells #[.slice none 0 0, .int .i64 0, .slice none 0 0, .bool false, .int .i64 0, .slice none 0 0] 37) = W := ⟨_, rfl⟩
  have HY := Lib.hid (Hy.new hW.symm ⟨_, rfl, rfl⟩ ⟨_, rfl, rfl⟩)
  have r14 := HY.out.row 14 rfl
  have r9 := HY.out.row 9 rfl
  have r11 := HY.out.row 11 rfl
  have hsz := HY.out.lt
  have HER := Lib.hid (eraseR_any (hR.xn HY.out.below) (XN.lt hX hsz) (blk : Int))
  rw [hE] at HER
  simp only at HER
  clear hR hX hE hsz
  go_enter Try.func114, Try.ntmps114
  go_upto_region 7 with (fail)
  try rw [hW]
  clear hW
  refine wp_region_list ?_
  refine wpList_load_row rfl 37 _ rfl (w.heap.size + 1) rfl 37 _ (0, 0) _ HY.out.h4 Try.underlying37 rfl size60 ?_
  go_wp2_with (fail)
  (with_reducible refine HER.out.mono ?_)
  rintro e w9 ⟨y9, rfl, hR9, hb9⟩
  have HY9 := Lib.hid (HY.out.later hb9)
  have HR9 := Lib.hid hR9
  clear hb9 hR9 r14 r9 r11
  have f0 := HY9.out.frow 0 rfl
  have e0 := HY9.out.ffz 0
  have f1 := HY9.out.frow 1 rfl
  have e1 := HY9.out.ffz 1
  have f2 := HY9.out.frow 2 rfl
  have e2 := HY9.out.ffz 2
  have f3 := HY9.out.frow 3 rfl
  have e3 := HY9.out.ffz 3
  have f4 := HY9.out.frow 4 rfl
  have e4 := HY9.out.ffz 4
  have f5 := HY9.out.frow 5 rfl
  have e5 := HY9.out.ffz 5
  by_cases hk : k9 = 0
  · have hk' : (k9 == 0) = true := by simpa using hk
    have HK := Lib.hid hk
    clear hk
    go_upto_region 9 with (fail)
    clear f0 f1 f2 f3 f4 f5 e0 e1 e2 e3 e4 e5
    have HZ9 := Lib.hid (HY9.out.all4 (.slice y9.A g9.img.length y9.c) (.int .i64 g9.pg) (.slice y9.B g9.wear.length y9.d) (.bool g9.down) (.int .i64 g9.fuse) (.slice y9.P g9.picks.length y9.r))
    have HR9 := Lib.hid (HR9.out.onlyX (OnlyX.all4 w9 (w.heap.size + 1) (.slice y9.A g9.img.length y9.c) (.int .i64 g9.pg) (.slice y9.B g9.wear.length y9.d) (.bool g9.down) (.int .i64 g9.fuse) (.slice y9.P g9.picks.length y9.r) (xn1 _ _)))
    obtain ⟨V, hV⟩ : ∃ V, ((((((w9.setCell ⟨w.heap.size + 1, 0, none⟩ (.slice y9.A g9.img.length y9.c)).setCell ⟨w.heap.size + 1, 1, none⟩ (.int .i64 g9.pg)).setCell ⟨w.heap.size + 1, 2, none⟩ (.slice y9.B g9.wear.length y9.d)).setCell ⟨w.heap.size + 1, 3, none⟩ (.bool g9.down)).setCell ⟨w.heap.size + 1, 4, none⟩ (.int .i64 g9.fuse)).setCell ⟨w.heap.size + 1, 5, none⟩ (.slice y9.P g9.picks.length y9.r)) = V := ⟨_, rfl⟩
    rw [hV] at HZ9 HR9
    try rw [hV]
    clear hV
    have r11 := HZ9.out.row 11 rfl
    have z11 := HZ9.out.fz 11
    go_upto_region 10 with (fail)
    have HZ10 : Hid (Hy w (V.setCell ⟨w.heap.size, 11, none⟩ (.int .i64 (-1))) #[Value.int .i64 s.first, .int .i64 s.blocks, .slice q.Q1 s.spec.length q.c1, .slice q.Q2 s.staged.length q.c2, .slice q.Q3 s.saved.length q.c3, .int .i64 s.seq, .int .i64 s.block, .int .i64 s.slot, .slice q.Q4 q.n4 q.c4, .slice q.Q5 m c5, .int .i64 q.pg, .int .i64 (-1), .int .i64 q.nb, .int .i64 q.ns, .bool false] #[Value.slice y9.A g9.img.length y9.c, .int .i64 g9.pg, .slice y9.B g9.wear.length y9.d, .bool g9.down, .int .i64 g9.fuse, .slice y9.P g9.picks.length y9.r]) := HZ9.out.set 11 (.int .i64 (-1))
    have HR9 := Lib.hid (HR9.out.onlyX (OnlyX.set V ⟨w.heap.size, 11, none⟩ (.int .i64 (-1)) (xn0 _ _)))
    obtain ⟨V1, hV1⟩ : ∃ V1, V.setCell ⟨w.heap.size, 11, none⟩ (.int .i64 (-1)) = V1 := ⟨_, rfl⟩
    rw [hV1] at HZ10 HR9
    try rw [hV1]
    clear hV1 r11 z11
    have HYD := Lib.hid ((HZ10.out).later (Below.drew (Below.refl _ _)))
    obtain ⟨old8, ho8, hh8⟩ := HYD.out.h8
    obtain ⟨old9, ho9, hh9⟩ := HYD.out.h9
    refine wp_region_held (S := fun w' => w'.heap[w.heap.size]? = some (.cells #[Value.int .i64 s.first, .int .i64 s.blocks, .slice q.Q1 s.spec.length q.c1, .slice q.Q2 s.staged.length q.c2, .slice q.Q3 s.saved.length q.c3, .int .i64 s.seq, .int .i64 s.block, .int .i64 s.slot, .slice q.Q4 q.n4 q.c4, .slice q.Q5 m c5, .int .i64 q.pg, .int .i64 (-1), .int .i64 q.nb, .int .i64 q.ns, .bool false] 46 (0, 0)) ∧ w'.heap[w.heap.size + 1]? = some (.cells #[Value.slice y9.A g9.img.length y9.c, .int .i64 g9.pg, .slice y9.B g9.wear.length y9.d, .bool g9.down, .int .i64 g9.fuse, .slice y9.P g9.picks.length y9.r] 37 (0, 0))) (by kernel_rfl) ?_
    refine wpAnyH_take (i := 0) (v := .agg #[Value.int .i64 s.first, .int .i64 s.blocks, .slice q.Q1 s.spec.length q.c1, .slice q.Q2 s.staged.length q.c2, .slice q.Q3 s.saved.length q.c3, .int .i64 s.seq, .int .i64 s.block, .int .i64 s.slot, .slice q.Q4 q.n4 q.c4, .slice q.Q5 m c5, .int .i64 q.pg, .int .i64 (-1), .int .i64 q.nb, .int .i64 q.ns, .bool false]) rfl (by kernel_rfl) (by kernel_rfl) (by kernel_rfl) (fun _ _ _ h => h) ?_ ⟨HYD.out.h, HYD.out.h4⟩ ?_
    · refine yieldsIf_load_row ?_ 46 _ rfl w.heap.size rfl 46 _ (0, 0) _ (fun _ h => h.1) Try.underlying46 rfl size105
      rfl
    change wpAnyH _ _ _ _ _ _ _ (Act.put _ (some 32) _) _
    simp only [Act.put, List.setIfInBounds_toArray, List.set_cons_zero, List.set_cons_succ]
    refine wpAnyH_take (i := 1) (v := .agg #[Value.slice y9.A g9.img.length y9.c, .int .i64 g9.pg, .slice y9.B g9.wear.length y9.d, .bool g9.down, .int .i64 g9.fuse, .slice y9.P g9.picks.length y9.r]) rfl (by kernel_rfl) (by kernel_rfl) (by kernel_rfl) (fun _ _ _ h => h) ?_ ⟨HYD.out.h, HYD.out.h4⟩ ?_
    · refine yieldsIf_load_row ?_ 37 _ rfl (w.heap.size + 1) rfl 37 _ (0, 0) _ (fun _ h => h.2) Try.underlying37 rfl size60
      rfl
    change wpAnyH _ _ _ _ _ _ _ (Act.put _ (some 33) _) _
    simp only [Act.put, List.setIfInBounds_toArray, List.set_cons_zero, List.set_cons_succ]
    refine wpAnyH_store (i := 2) (by kernel_rfl) rfl (by rfl) rfl 46 _ _ rfl (w.heap.size + 2) #[Value.int .i64 s.first, .int .i64 s.blocks, .slice q.Q1 s.spec.length q.c1, .slice q.Q2 s.staged.length q.c2, .slice q.Q3 s.saved.length q.c3, .int .i64 s.seq, .int .i64 s.block, .int .i64 s.slot, .slice q.Q4 q.n4 q.c4, .slice q.Q5 m c5, .int .i64 q.pg, .int .i64 (-1), .int .i64 q.nb, .int .i64 q.ns, .bool false] old8 rfl rfl 46 hh8 size105 ho8 (one15 ..) ⟨(setRow_other _ _ _ _ (by omega)).trans HYD.out.h, (setRow_other _ _ _ _ (by omega)).trans HYD.out.h4⟩ ?_
    refine wpAnyH_store (i := 3) (by kernel_rfl) rfl (by rfl) rfl 37 _ _ rfl (w.heap.size + 3) #[Value.slice y9.A g9.img.length y9.c, .int .i64 g9.pg, .slice y9.B g9.wear.length y9.d, .bool g9.down, .int .i64 g9.fuse, .slice y9.P g9.picks.length y9.r] old9 rfl rfl 37 ((setRow_other _ _ _ _ (by omega)).trans hh9) size60 ho9 (one6 ..) ⟨(setRow_other _ _ _ _ (by omega)).trans ((setRow_other _ _ _ _ (by omega)).trans HYD.out.h), (setRow_other _ _ _ _ (by omega)).trans ((setRow_other _ _ _ _ (by omega)).trans HYD.out.h4)⟩ ?_
    refine wpAnyH_take (i := 4) (v := .bool false) rfl (by kernel_rfl) (by kernel_rfl) (by kernel_rfl) (fun _ _ _ h => h) ?_ ⟨(setRow_other _ _ _ _ (by omega)).trans ((setRow_other _ _ _ _ (by omega)).trans HYD.out.h), (setRow_other _ _ _ _ (by omega)).trans ((setRow_other _ _ _ _ (by omega)).trans HYD.out.h4)⟩ ?_
    · refine yieldsIf_assign (x := .const (.bool false)) ?_ rfl
      rfl
    change wpAnyH _ _ _ _ _ _ _ (Act.put _ (some 6) _) _
    simp only [Act.put, List.setIfInBounds_toArray, List.set_cons_zero, List.set_cons_succ]
    refine wpAnyH_take (i := 5) (v := .int .i64 0) rfl (by kernel_rfl) (by kernel_rfl) (by kernel_rfl) (fun _ _ _ h => h) ?_ ⟨(setRow_other _ _ _ _ (by omega)).trans ((setRow_other _ _ _ _ (by omega)).trans HYD.out.h), (setRow_other _ _ _ _ (by omega)).trans ((setRow_other _ _ _ _ (by omega)).trans HYD.out.h4)⟩ ?_
    · refine yieldsIf_assign (x := .const (.int .i64 0)) ?_ rfl
      rfl
    change wpAnyH _ _ _ _ _ _ _ (Act.put _ (some 7) _) _
    simp only [Act.put, List.setIfInBounds_toArray, List.set_cons_zero, List.set_cons_succ]
    refine wpAnyH_done (by kernel_rfl) ?_ _
    go_wp2
    (try simp only [Exit.inBlock, Exit.then])
    refine bodyPost_ret (v := .tuple #[.agg #[Value.int .i64 s.first, .int .i64 s.blocks, .slice q.Q1 s.spec.length q.c1, .slice q.Q2 s.staged.length q.c2, .slice q.Q3 s.saved.length q.c3, .int .i64 s.seq, .int .i64 s.block, .int .i64 s.slot, .slice q.Q4 q.n4 q.c4, .slice q.Q5 m c5, .int .i64 q.pg, .int .i64 (-1), .int .i64 q.nb, .int .i64 q.ns, .bool false], .agg #[Value.slice y9.A g9.img.length y9.c, .int .i64 g9.pg, .slice y9.B g9.wear.length y9.d, .bool g9.down, .int .i64 g9.fuse, .slice y9.P g9.picks.length y9.r], .bool false, .int .i64 0]) (results_rows (p := 4) (p' := 5) (u := 6) (v := 7) rfl _ _ (w.heap.size + 2) (w.heap.size + 3) 46 37 #[Value.int .i64 s.first, .int .i64 s.blocks, .slice q.Q1 s.spec.length q.c1, .slice q.Q2 s.staged.length q.c2, .slice q.Q3 s.saved.length q.c3, .int .i64 s.seq, .int .i64 s.block, .int .i64 s.slot, .slice q.Q4 q.n4 q.c4, .slice q.Q5 m c5, .int .i64 q.pg, .int .i64 (-1), .int .i64 q.nb, .int .i64 q.ns, .bool false] #[Value.slice y9.A g9.img.length y9.c, .int .i64 g9.pg, .slice y9.B g9.wear.length y9.d, .bool g9.down, .int .i64 g9.fuse, .slice y9.P g9.picks.length y9.r] _ _ rfl rfl ((setRow_other _ _ _ _ (by omega)).trans (setRow_heap _ _ _ _ _ _ hh8)) (setRow_heap _ _ _ _ _ _ ((setRow_other _ _ _ _ (by omega)).trans hh9)) Try.underlying46 rfl size105 Try.underlying37 rfl size60) rfl ⟨y9, (HR9.out.onlyX (((OnlyX.of_below (Below.drew (Below.refl _ _))).trans (OnlyX.row _ _ _ (xn2 _ _))).trans (OnlyX.row _ _ _ (xn3 _ _)))).ofn, below_setRow (below_setRow HYD.out.below (by omega) _) (by omega) _, fun _ => rfl, fun h => absurd HK.out h⟩
  · have hk' : (k9 == 0) = false := by simpa using hk
    have hk2 : (k9 != 0) = true := by simpa using hk
    have HK := Lib.hid hk
    clear hk
    go_upto_region 13 with (fail)
    clear f0 f1 f2 f3 f4 f5 e0 e1 e2 e3 e4 e5
    have HZ9 := Lib.hid (HY9.out.all4 (.slice y9.A g9.img.length y9.c) (.int .i64 g9.pg) (.slice y9.B g9.wear.length y9.d) (.bool g9.down) (.int .i64 g9.fuse) (.slice y9.P g9.picks.length y9.r))
    have HR9 := Lib.hid (HR9.out.onlyX (OnlyX.all4 w9 (w.heap.size + 1) (.slice y9.A g9.img.length y9.c) (.int .i64 g9.pg) (.slice y9.B g9.wear.length y9.d) (.bool g9.down) (.int .i64 g9.fuse) (.slice y9.P g9.picks.length y9.r) (xn1 _ _)))
    obtain ⟨V, hV⟩ : ∃ V, ((((((w9.setCell ⟨w.heap.size + 1, 0, none⟩ (.slice y9.A g9.img.length y9.c)).setCell ⟨w.heap.size + 1, 1, none⟩ (.int .i64 g9.pg)).setCell ⟨w.heap.size + 1, 2, none⟩ (.slice y9.B g9.wear.length y9.d)).setCell ⟨w.heap.size + 1, 3, none⟩ (.bool g9.down)).setCell ⟨w.heap.size + 1, 4, none⟩ (.int .i64 g9.fuse)).setCell ⟨w.heap.size + 1, 5, none⟩ (.slice y9.P g9.picks.length y9.r)) = V := ⟨_, rfl⟩
    rw [hV] at HZ9 HR9
    try rw [hV]
    clear hV
    have r14 := HZ9.out.row 14 rfl
    have z14 := HZ9.out.fz 14
    go_upto_region 14 with (fail)
    have HZ10 : Hid (Hy w (V.setCell ⟨w.heap.size, 14, none⟩ (.bool true)) #[Value.int .i64 s.first, .int .i64 s.blocks, .slice q.Q1 s.spec.length q.c1, .slice q.Q2 s.staged.length q.c2, .slice q.Q3 s.saved.length q.c3, .int .i64 s.seq, .int .i64 s.block, .int .i64 s.slot, .slice q.Q4 q.n4 q.c4, .slice q.Q5 m c5, .int .i64 q.pg, .int .i64 (blk : Int), .int .i64 q.nb, .int .i64 q.ns, .bool true] #[Value.slice y9.A g9.img.length y9.c, .int .i64 g9.pg, .slice y9.B g9.wear.length y9.d, .bool g9.down, .int .i64 g9.fuse, .slice y9.P g9.picks.length y9.r]) := HZ9.out.set 14 (.bool true)
    have HR9 := Lib.hid (HR9.out.onlyX (OnlyX.set V ⟨w.heap.size, 14, none⟩ (.bool true) (xn0 _ _)))
    obtain ⟨V1, hV1⟩ : ∃ V1, V.setCell ⟨w.heap.size, 14, none⟩ (.bool true) = V1 := ⟨_, rfl⟩
    rw [hV1] at HZ10 HR9
    try rw [hV1]
    clear hV1 r14 z14
    have HYD := Lib.hid ((HZ10.out).later (Below.drew (Below.refl _ _)))
    obtain ⟨old8, ho8, hh8⟩ := HYD.out.h8
    obtain ⟨old9, ho9, hh9⟩ := HYD.out.h9
    refine wp_region_held (S := fun w' => w'.heap[w.heap.size]? = some (.cells #[Value.int .i64 s.first, .int .i64 s.blocks, .slice q.Q1 s.spec.length q.c1, .slice q.Q2 s.staged.length q.c2, .slice q.Q3 s.saved.length q.c3, .int .i64 s.seq, .int .i64 s.block, .int .i64 s.slot, .slice q.Q4 q.n4 q.c4, .slice q.Q5 m c5, .int .i64 q.pg, .int .i64 (blk : Int), .int .i64 q.nb, .int .i64 q.ns, .bool true] 46 (0, 0)) ∧ w'.heap[w.heap.size + 1]? = some (.cells #[Value.slice y9.A g9.img.length y9.c, .int .i64 g9.pg, .slice y9.B g9.wear.length y9.d, .bool g9.down, .int .i64 g9.fuse, .slice y9.P g9.picks.length y9.r] 37 (0, 0))) (by kernel_rfl) ?_
    refine wpAnyH_take (i := 0) (v := .agg #[Value.int .i64 s.first, .int .i64 s.blocks, .slice q.Q1 s.spec.length q.c1, .slice q.Q2 s.staged.length q.c2, .slice q.Q3 s.saved.length q.c3, .int .i64 s.seq, .int .i64 s.block, .int .i64 s.slot, .slice q.Q4 q.n4 q.c4, .slice q.Q5 m c5, .int .i64 q.pg, .int .i64 (blk : Int), .int .i64 q.nb, .int .i64 q.ns, .bool true]) rfl (by kernel_rfl) (by kernel_rfl) (by kernel_rfl) (fun _ _ _ h => h) ?_ ⟨HYD.out.h, HYD.out.h4⟩ ?_
    · refine yieldsIf_load_row ?_ 46 _ rfl w.heap.size rfl 46 _ (0, 0) _ (fun _ h => h.1) Try.underlying46 rfl size105
      rfl
    change wpAnyH _ _ _ _ _ _ _ (Act.put _ (some 48) _) _
    simp only [Act.put, List.setIfInBounds_toArray, List.set_cons_zero, List.set_cons_succ]
    refine wpAnyH_take (i := 1) (v := .agg #[Value.slice y9.A g9.img.length y9.c, .int .i64 g9.pg, .slice y9.B g9.wear.length y9.d, .bool g9.down, .int .i64 g9.fuse, .slice y9.P g9.picks.length y9.r]) rfl (by kernel_rfl) (by kernel_rfl) (by kernel_rfl) (fun _ _ _ h => h) ?_ ⟨HYD.out.h, HYD.out.h4⟩ ?_
    · refine yieldsIf_load_row ?_ 37 _ rfl (w.heap.size + 1) rfl 37 _ (0, 0) _ (fun _ h => h.2) Try.underlying37 rfl size60
      rfl
    change wpAnyH _ _ _ _ _ _ _ (Act.put _ (some 49) _) _
    simp only [Act.put, List.setIfInBounds_toArray, List.set_cons_zero, List.set_cons_succ]
    refine wpAnyH_store (i := 2) (by kernel_rfl) rfl (by rfl) rfl 46 _ _ rfl (w.heap.size + 2) #[Value.int .i64 s.first, .int .i64 s.blocks, .slice q.Q1 s.spec.length q.c1, .slice q.Q2 s.staged.length q.c2, .slice q.Q3 s.saved.length q.c3, .int .i64 s.seq, .int .i64 s.block, .int .i64 s.slot, .slice q.Q4 q.n4 q.c4, .slice q.Q5 m c5, .int .i64 q.pg, .int .i64 (blk : Int), .int .i64 q.nb, .int .i64 q.ns, .bool true] old8 rfl rfl 46 hh8 size105 ho8 (one15 ..) ⟨(setRow_other _ _ _ _ (by omega)).trans HYD.out.h, (setRow_other _ _ _ _ (by omega)).trans HYD.out.h4⟩ ?_
    refine wpAnyH_store (i := 3) (by kernel_rfl) rfl (by rfl) rfl 37 _ _ rfl (w.heap.size + 3) #[Value.slice y9.A g9.img.length y9.c, .int .i64 g9.pg, .slice y9.B g9.wear.length y9.d, .bool g9.down, .int .i64 g9.fuse, .slice y9.P g9.picks.length y9.r] old9 rfl rfl 37 ((setRow_other _ _ _ _ (by omega)).trans hh9) size60 ho9 (one6 ..) ⟨(setRow_other _ _ _ _ (by omega)).trans ((setRow_other _ _ _ _ (by omega)).trans HYD.out.h), (setRow_other _ _ _ _ (by omega)).trans ((setRow_other _ _ _ _ (by omega)).trans HYD.out.h4)⟩ ?_
    refine wpAnyH_take (i := 4) (v := .bool false) rfl (by kernel_rfl) (by kernel_rfl) (by kernel_rfl) (fun _ _ _ h => h) ?_ ⟨(setRow_other _ _ _ _ (by omega)).trans ((setRow_other _ _ _ _ (by omega)).trans HYD.out.h), (setRow_other _ _ _ _ (by omega)).trans ((setRow_other _ _ _ _ (by omega)).trans HYD.out.h4)⟩ ?_
    · refine yieldsIf_assign (x := .const (.bool false)) ?_ rfl
      rfl
    change wpAnyH _ _ _ _ _ _ _ (Act.put _ (some 6) _) _
    simp only [Act.put, List.setIfInBounds_toArray, List.set_cons_zero, List.set_cons_succ]
    refine wpAnyH_take (i := 5) (v := .int .i64 20) rfl (by kernel_rfl) (by kernel_rfl) (by kernel_rfl) (fun _ _ _ h => h) ?_ ⟨(setRow_other _ _ _ _ (by omega)).trans ((setRow_other _ _ _ _ (by omega)).trans HYD.out.h), (setRow_other _ _ _ _ (by omega)).trans ((setRow_other _ _ _ _ (by omega)).trans HYD.out.h4)⟩ ?_
    · refine yieldsIf_assign (x := .const (.int .i64 20)) ?_ rfl
      rfl
    change wpAnyH _ _ _ _ _ _ _ (Act.put _ (some 7) _) _
    simp only [Act.put, List.setIfInBounds_toArray, List.set_cons_zero, List.set_cons_succ]
    refine wpAnyH_done (by kernel_rfl) ?_ _
    go_wp2
    (try simp only [Exit.inBlock, Exit.then])
    refine bodyPost_ret (v := .tuple #[.agg #[Value.int .i64 s.first, .int .i64 s.blocks, .slice q.Q1 s.spec.length q.c1, .slice q.Q2 s.staged.length q.c2, .slice q.Q3 s.saved.length q.c3, .int .i64 s.seq, .int .i64 s.block, .int .i64 s.slot, .slice q.Q4 q.n4 q.c4, .slice q.Q5 m c5, .int .i64 q.pg, .int .i64 (blk : Int), .int .i64 q.nb, .int .i64 q.ns, .bool true], .agg #[Value.slice y9.A g9.img.length y9.c, .int .i64 g9.pg, .slice y9.B g9.wear.length y9.d, .bool g9.down, .int .i64 g9.fuse, .slice y9.P g9.picks.length y9.r], .bool false, .int .i64 20]) (results_rows (p := 4) (p' := 5) (u := 6) (v := 7) rfl _ _ (w.heap.size + 2) (w.heap.size + 3) 46 37 #[Value.int .i64 s.first, .int .i64 s.blocks, .slice q.Q1 s.spec.length q.c1, .slice q.Q2 s.staged.length q.c2, .slice q.Q3 s.saved.length q.c3, .int .i64 s.seq, .int .i64 s.block, .int .i64 s.slot, .slice q.Q4 q.n4 q.c4, .slice q.Q5 m c5, .int .i64 q.pg, .int .i64 (blk : Int), .int .i64 q.nb, .int .i64 q.ns, .bool true] #[Value.slice y9.A g9.img.length y9.c, .int .i64 g9.pg, .slice y9.B g9.wear.length y9.d, .bool g9.down, .int .i64 g9.fuse, .slice y9.P g9.picks.length y9.r] _ _ rfl rfl ((setRow_other _ _ _ _ (by omega)).trans (setRow_heap _ _ _ _ _ _ hh8)) (setRow_heap _ _ _ _ _ _ ((setRow_other _ _ _ _ (by omega)).trans hh9)) Try.underlying46 rfl size105 Try.underlying37 rfl size60) rfl ⟨y9, (HR9.out.onlyX (((OnlyX.of_below (Below.drew (Below.refl _ _))).trans (OnlyX.row _ _ _ (xn2 _ _))).trans (OnlyX.row _ _ _ (xn3 _ _)))).ofn, below_setRow (below_setRow HYD.out.below (by omega) _) (by omega) _, fun h => absurd h HK.out, fun _ => rfl⟩
set_option maxRecDepth 100000 in
set_option maxHeartbeats 4000000 in
theorem step_rf {X : Nat → Prop} (w : World) (q : Qv) (s : St) (x : Rc) (g : Fl) (hR : RAt X w x g) (hX : ∀ b, X b → b < w.heap.size) (bp op m c5 pn : Nat) (hm : 0 < m) (hm8 : m ≤ 8) (hmc : m ≤ c5) (hc5 : c5 ≤ maxLen) (hpn : pn ≤ 2000)
    (Qp : Option Addr) (cp : Nat) (pb : List Int) (hcell : w.cell? ⟨bp, op, none⟩ = some (.slice Qp 64 cp)) (hQp : RdX X w Qp (kcells .u8 pb)) (hpl : pb.length = 64) (hcp : 64 ≤ cp) (hcm : cp ≤ maxLen) (hpb : Bytes pb) (g9 : Fl) (k9 : Int) (hE : progF g pn pb = (g9, k9)) (hk : k9 ≠ 0) :
    Calls Try.prog 114 #[.agg #[Value.int .i64 s.first, .int .i64 s.blocks, .slice q.Q1 s.spec.length q.c1, .slice q.Q2 s.staged.length q.c2, .slice q.Q3 s.saved.length q.c3, .int .i64 s.seq, .int .i64 s.block, .int .i64 s.slot, .slice q.Q4 q.n4 q.c4, .slice (some ⟨bp, op, none⟩) m c5, .int .i64 (pn : Int), .int .i64 (-1), .int .i64 q.nb, .int .i64 q.ns, .bool false], .agg #[Value.slice x.A g.img.length x.c, .int .i64 g.pg, .slice x.B g.wear.length x.d, .bool g.down, .int .i64 g.fuse, .slice x.P g.picks.length x.r]] w fun e w' => ∃ y9 : Rc, RAt X w' y9 g9 ∧ Below w.heap.size w w' ∧ e = .returned (.tuple #[.agg #[Value.int .i64 s.first, .int .i64 s.blocks, .slice q.Q1 s.spec.length q.c1, .slice q.Q2 s.staged.length q.c2, .slice q.Q3 s.saved.length q.c3, .int .i64 s.seq, .int .i64 s.block, .int .i64 s.slot, .slice q.Q4 q.n4 q.c4, .slice (some ⟨bp, op, none⟩) m c5, .int .i64 (pn : Int), .int .i64 (-1), .int .i64 q.nb, .int .i64 q.ns, .bool true], .agg #[Value.slice y9.A g9.img.length y9.c, .int .i64 g9.pg, .slice y9.B g9.wear.length y9.d, .bool g9.down, .int .i64 g9.fuse, .slice y9.P g9.picks.length y9.r], .bool false, .int .i64 20]) := by
  have hk2 : (k9 != 0) = true := by simpa using hk
  clear hk
  obtain ⟨W, hW⟩ : ∃ W, (((w.alloc (.cells #[Value.int .i64 s.first, .int .i64 s.blocks, .slice q.Q1 s.spec.length q.c1, .slice q.Q2 s.staged.length q.c2, .slice q.Q3 s.saved.length q.c3, .int .i64 s.seq, .int .i64 s.block, .int .i64 s.slot, .slice q.Q4 q.n4 q.c4, .slice (some ⟨bp, op, none⟩) m c5, .int .i64 (pn : Int), .int .i64 (-1), .int .i64 q.nb, .int .i64 q.ns, .bool false] 46)).alloc (.cells #[Value.slice x.A g.img.length x.c, .int .i64 g.pg, .slice x.B g.wear.length x.d, .bool g.down, .int .i64 g.fuse, .slice x.P g.picks.length x.r] 37)).alloc (.cells #[.int .i64 0, .int .i64 0, .slice none 0 0, .slice none 0 0, .slice none 0 0, .int .i64 0, .int .i64 0, .int .i64 0, .slice none 0 0, .slice none 0 0, .int .i64 0, .int .i64 0, .int .i64 0, .int .i64 0, .bool false] 46)).alloc (.cells #[.slice none 0 0, .int .i64 0, .slice none 0 0, .bool false, .int .i64 0, .slice none 0 0] 37) = W := ⟨_, rfl⟩
  have HY := Lib.hid (Hy.new hW.symm ⟨_, rfl, rfl⟩ ⟨_, rfl, rfl⟩)
  have r14 := HY.out.row 14 rfl
  have r9 := HY.out.row 9 rfl
  have r11 := HY.out.row 11 rfl
  have r10 := HY.out.row 10 rfl
  have hsz := HY.out.lt
  have HBW : Hid (Below w.heap.size w W.drew) := HY.out.below.trans ((Below.drew (Below.refl _ _)).mono HY.out.below.size)
  have HPR := Lib.hid (progR_any (hR.xn HBW.out) (XN.lt hX hsz) (pn : Int) Qp 64 cp pb (hQp.xn HBW.out).rd hpl hcp hcm hpb)
  rw [hE] at HPR
  simp only at HPR
  have hlt := World.block_lt_of_cell? w _ hcell
  have HC0 : Hid (∀ W', Below w.heap.size w W' → W'.cell? ⟨bp, op, none⟩ = some (.slice Qp 64 cp)) := fun W' hb => (hb.cell (p := ⟨bp, op, none⟩) hlt).trans hcell
  have hm0 : (0 : Int) < (m : Int) := by omega
  unfold maxLen at hc5 hcm
  have k0 := HC0.out _ HBW.out
  have r9d := (HY.out.later (Below.drew (Below.refl _ _))).row 9 rfl
  have r10d := (HY.out.later (Below.drew (Below.refl _ _))).row 10 rfl
  have HYD := Lib.hid (HY.out.later (Below.drew (Below.refl _ _)))
  clear hR hX hE hsz hcell hQp hpl hcp hpb
  go_enter Try.func114, Try.ntmps114
  go_upto_region 11 with (fail)
  try rw [hW]
  clear hW
  refine wp_region_held (S := fun W' => W'.cell? ⟨w.heap.size, 9, none⟩ = some (.slice (some ⟨bp, op, none⟩) m c5) ∧ W'.cell? ⟨w.heap.size, 10, none⟩ = some (.int .i64 (pn : Int)) ∧ W'.cell? ⟨bp, op, none⟩ = some (.slice Qp 64 cp)) (by kernel_rfl) ?_
  change wpAnyH _ _ _ _ _ _ _ _ (World.drew _)
  refine wpAnyH_take (i := 1) (v := .pointer (some ⟨w.heap.size, 10, none⟩)) rfl (by kernel_rfl) (by kernel_rfl) (by kernel_rfl) (fun _ _ _ h => h) (.inl ⟨?_, ?_⟩) ⟨r9d, r10d, k0⟩ ?_
  · rfl
  · rintro w' ⟨h1, h2, h3⟩
    go_simp
  change wpAnyH _ _ _ _ _ _ _ (Act.put _ (some 36) _) _
  simp only [Act.put, List.setIfInBounds_toArray, List.set_cons_zero, List.set_cons_succ]
  refine wpAnyH_take (i := 3) (v := .pointer (some ⟨w.heap.size, 9, none⟩)) rfl (by kernel_rfl) (by kernel_rfl) (by kernel_rfl) (fun _ _ _ h => h) (.inl ⟨?_, ?_⟩) ⟨r9d, r10d, k0⟩ ?_
  · rfl
  · rintro w' ⟨h1, h2, h3⟩
    go_simp
  change wpAnyH _ _ _ _ _ _ _ (Act.put _ (some 38) _) _
  simp only [Act.put, List.setIfInBounds_toArray, List.set_cons_zero, List.set_cons_succ]
  refine wpAnyH_take (i := 2) (v := .int .i64 (pn : Int)) rfl (by kernel_rfl) (by kernel_rfl) (by kernel_rfl) (fun _ _ _ h => h) (.inl ⟨?_, ?_⟩) ⟨r9d, r10d, k0⟩ ?_
  · rfl
  · rintro w' ⟨h1, h2, h3⟩
    go_simp
  change wpAnyH _ _ _ _ _ _ _ (Act.put _ (some 37) _) _
  simp only [Act.put, List.setIfInBounds_toArray, List.set_cons_zero, List.set_cons_succ]
  refine wpAnyH_take (i := 4) (v := .slice (some ⟨bp, op, none⟩) m c5) rfl (by kernel_rfl) (by kernel_rfl) (by kernel_rfl) (fun _ _ _ h => h) (.inl ⟨?_, ?_⟩) ⟨r9d, r10d, k0⟩ ?_
  · rfl
  · rintro w' ⟨h1, h2, h3⟩
    go_simp
  change wpAnyH _ _ _ _ _ _ _ (Act.put _ (some 39) _) _
  simp only [Act.put, List.setIfInBounds_toArray, List.set_cons_zero, List.set_cons_succ]
  refine wpAnyH_take (i := 5) (v := .pointer (some ⟨bp, op, none⟩)) rfl (by kernel_rfl) (by kernel_rfl) (by kernel_rfl) (fun _ _ _ h => h) (.inl ⟨?_, ?_⟩) ⟨r9d, r10d, k0⟩ ?_
  · rfl
  · rintro w' ⟨h1, h2, h3⟩
    go_simp
  change wpAnyH _ _ _ _ _ _ _ (Act.put _ (some 40) _) _
  simp only [Act.put, List.setIfInBounds_toArray, List.set_cons_zero, List.set_cons_succ]
  refine wpAnyH_take (i := 6) (v := .slice Qp 64 cp) rfl (by kernel_rfl) (by kernel_rfl) (by kernel_rfl) (fun _ _ _ h => h) (.inl ⟨?_, ?_⟩) ⟨r9d, r10d, k0⟩ ?_
  · rfl
  · rintro w' ⟨h1, h2, h3⟩
    go_simp
  change wpAnyH _ _ _ _ _ _ _ (Act.put _ (some 41) _) _
  simp only [Act.put, List.setIfInBounds_toArray, List.set_cons_zero, List.set_cons_succ]
  refine wpAnyH_load (i := 0) (by kernel_rfl) rfl (by rfl) 37 _ rfl (w.heap.size + 1) rfl 37 #[Value.slice x.A g.img.length x.c, .int .i64 g.pg, .slice x.B g.wear.length x.d, .bool g.down, .int .i64 g.fuse, .slice x.P g.picks.length x.r] _ HYD.out.h4 Try.underlying37 rfl size60 ⟨r9d, r10d, k0⟩ ?_
  change wpAnyH _ _ _ _ _ _ _ (Act.put _ (some 35) _) _
  simp only [Act.put, List.setIfInBounds_toArray, List.set_cons_zero, List.set_cons_succ]
  refine wpAnyH_call (i := 7) (al := [.agg #[Value.slice x.A g.img.length x.c, .int .i64 g.pg, .slice x.B g.wear.length x.d, .bool g.down, .int .i64 g.fuse, .slice x.P g.picks.length x.r], .int .i64 (pn : Int), .slice Qp 64 cp]) (by kernel_rfl) rfl (by rfl) _ _ rfl (by rfl) enter81 ?_
  (with_reducible refine HPR.out.mono ?_)
  rintro e w9 ⟨y9, rfl, hR9, hb9⟩
  have HY9 := Lib.hid (HYD.out.later hb9)
  have HR9 := Lib.hid hR9
  have HZ9 := Lib.hid (HY9.out.put4 #[Value.slice y9.A g9.img.length y9.c, .int .i64 g9.pg, .slice y9.B g9.wear.length y9.d, .bool g9.down, .int .i64 g9.fuse, .slice y9.P g9.picks.length y9.r])
  have HV9 := Lib.hid (HR9.out.onlyX (OnlyX.row w9 (w.heap.size + 1) #[Value.slice y9.A g9.img.length y9.c, .int .i64 g9.pg, .slice y9.B g9.wear.length y9.d, .bool g9.down, .int .i64 g9.fuse, .slice y9.P g9.picks.length y9.r] (xn1 _ _)))
  have S9 := Lib.hid (And.intro (HY9.out.row 9 rfl) (And.intro (HY9.out.row 10 rfl) (HC0.out _ HY9.out.below)))
  have T9 := Lib.hid (And.intro (HZ9.out.row 9 rfl) (And.intro (HZ9.out.row 10 rfl) (HC0.out _ HZ9.out.below)))
  refine ⟨_, rfl, S9.out, ?_⟩
  change wpAnyH _ _ _ _ _ _ _ (Act.put _ (some 42) _) _
  simp only [Act.put, List.setIfInBounds_toArray, List.set_cons_zero, List.set_cons_succ]
  refine wpAnyH_take (i := 8) (v := .tuple #[.agg #[Value.slice y9.A g9.img.length y9.c, .int .i64 g9.pg, .slice y9.B g9.wear.length y9.d, .bool g9.down, .int .i64 g9.fuse, .slice y9.P g9.picks.length y9.r], .int .i64 k9]) rfl (by kernel_rfl) (by kernel_rfl) (by kernel_rfl) (fun _ _ _ h => h) (.inl ⟨?_, ?_⟩) S9.out ?_
  · rfl
  · rintro w' ⟨h1, h2, h3⟩
    go_simp
  change wpAnyH _ _ _ _ _ _ _ (Act.put _ (some 34) _) _
  simp only [Act.put, List.setIfInBounds_toArray, List.set_cons_zero, List.set_cons_succ]
  refine wpAnyH_take (i := 9) (v := .agg #[Value.slice y9.A g9.img.length y9.c, .int .i64 g9.pg, .slice y9.B g9.wear.length y9.d, .bool g9.down, .int .i64 g9.fuse, .slice y9.P g9.picks.length y9.r]) rfl (by kernel_rfl) (by kernel_rfl) (by kernel_rfl) (fun _ _ _ h => h) (.inl ⟨?_, ?_⟩) S9.out ?_
  · rfl
  · rintro w' ⟨h1, h2, h3⟩
    go_simp
  change wpAnyH _ _ _ _ _ _ _ (Act.put _ (some 43) _) _
  simp only [Act.put, List.setIfInBounds_toArray, List.set_cons_zero, List.set_cons_succ]
  refine wpAnyH_take (i := 10) (v := .int .i64 k9) rfl (by kernel_rfl) (by kernel_rfl) (by kernel_rfl) (fun _ _ _ h => h) (.inl ⟨?_, ?_⟩) S9.out ?_
  · rfl
  · rintro w' ⟨h1, h2, h3⟩
    go_simp
  change wpAnyH _ _ _ _ _ _ _ (Act.put _ (some 44) _) _
  simp only [Act.put, List.setIfInBounds_toArray, List.set_cons_zero, List.set_cons_succ]
  refine wpAnyH_store (i := 11) (by kernel_rfl) rfl (by rfl) rfl 37 _ _ rfl (w.heap.size + 1) #[Value.slice y9.A g9.img.length y9.c, .int .i64 g9.pg, .slice y9.B g9.wear.length y9.d, .bool g9.down, .int .i64 g9.fuse, .slice y9.P g9.picks.length y9.r] #[Value.slice x.A g.img.length x.c, .int .i64 g.pg, .slice x.B g.wear.length x.d, .bool g.down, .int .i64 g.fuse, .slice x.P g.picks.length x.r] rfl rfl 37 HY9.out.h4 size60 rfl (one6 ..) T9.out ?_
  refine wpAnyH_take (i := 12) (v := .int .i64 k9) rfl (by kernel_rfl) (by kernel_rfl) (by kernel_rfl) (fun _ _ _ h => h) (.inl ⟨?_, ?_⟩) T9.out ?_
  · rfl
  · rintro w' ⟨h1, h2, h3⟩
    go_simp
  change wpAnyH _ _ _ _ _ _ _ (Act.put _ (some 8) _) _
  simp only [Act.put, List.setIfInBounds_toArray, List.set_cons_zero, List.set_cons_succ]
  refine wpAnyH_done (by kernel_rfl) ?_ _
  clear r9 r10 r11 r14 r9d r10d k0 hR9 hb9
  obtain ⟨V, hV⟩ : ∃ V, w9.setRow (w.heap.size + 1) #[Value.slice y9.A g9.img.length y9.c, .int .i64 g9.pg, .slice y9.B g9.wear.length y9.d, .bool g9.down, .int .i64 g9.fuse, .slice y9.P g9.picks.length y9.r] = V := ⟨_, rfl⟩
  rw [hV] at HZ9 HV9
  try rw [hV]
  clear hV
  have r14 := HZ9.out.row 14 rfl
  have z14 := HZ9.out.fz 14
  go_upto_region 14 with (fail)
  have HZ10 : Hid (Hy w (V.setCell ⟨w.heap.size, 14, none⟩ (.bool true)) #[Value.int .i64 s.first, .int .i64 s.blocks, .slice q.Q1 s.spec.length q.c1, .slice q.Q2 s.staged.length q.c2, .slice q.Q3 s.saved.length q.c3, .int .i64 s.seq, .int .i64 s.block, .int .i64 s.slot, .slice q.Q4 q.n4 q.c4, .slice (some ⟨bp, op, none⟩) m c5, .int .i64 (pn : Int), .int .i64 (-1), .int .i64 q.nb, .int .i64 q.ns, .bool true] #[Value.slice y9.A g9.img.length y9.c, .int .i64 g9.pg, .slice y9.B g9.wear.length y9.d, .bool g9.down, .int .i64 g9.fuse, .slice y9.P g9.picks.length y9.r]) := HZ9.out.set 14 (.bool true)
  have HR9 := Lib.hid (HV9.out.onlyX (OnlyX.set V ⟨w.heap.size, 14, none⟩ (.bool true) (xn0 _ _)))
  obtain ⟨V1, hV1⟩ : ∃ V1, V.setCell ⟨w.heap.size, 14, none⟩ (.bool true) = V1 := ⟨_, rfl⟩
  rw [hV1] at HZ10 HR9
  try rw [hV1]
  clear hV1 r14 z14
  have HYD := Lib.hid ((HZ10.out).later (Below.drew (Below.refl _ _)))
  obtain ⟨old8, ho8, hh8⟩ := HYD.out.h8
  obtain ⟨old9, ho9, hh9⟩ := HYD.out.h9
  refine wp_region_held (S := fun w' => w'.heap[w.heap.size]? = some (.cells #[Value.int .i64 s.first, .int .i64 s.blocks, .slice q.Q1 s.spec.length q.c1, .slice q.Q2 s.staged.length q.c2, .slice q.Q3 s.saved.length q.c3, .int .i64 s.seq, .int .i64 s.block, .int .i64 s.slot, .slice q.Q4 q.n4 q.c4, .slice (some ⟨bp, op, none⟩) m c5, .int .i64 (pn : Int), .int .i64 (-1), .int .i64 q.nb, .int .i64 q.ns, .bool true] 46 (0, 0)) ∧ w'.heap[w.heap.size + 1]? = some (.cells #[Value.slice y9.A g9.img.length y9.c, .int .i64 g9.pg, .slice y9.B g9.wear.length y9.d, .bool g9.down, .int .i64 g9.fuse, .slice y9.P g9.picks.length y9.r] 37 (0, 0))) (by kernel_rfl) ?_
  refine wpAnyH_take (i := 0) (v := .agg #[Value.int .i64 s.first, .int .i64 s.blocks, .slice q.Q1 s.spec.length q.c1, .slice q.Q2 s.staged.length q.c2, .slice q.Q3 s.saved.length q.c3, .int .i64 s.seq, .int .i64 s.block, .int .i64 s.slot, .slice q.Q4 q.n4 q.c4, .slice (some ⟨bp, op, none⟩) m c5, .int .i64 (pn : Int), .int .i64 (-1), .int .i64 q.nb, .int .i64 q.ns, .bool true]) rfl (by kernel_rfl) (by kernel_rfl) (by kernel_rfl) (fun _ _ _ h => h) ?_ ⟨HYD.out.h, HYD.out.h4⟩ ?_
  · refine yieldsIf_load_row ?_ 46 _ rfl w.heap.size rfl 46 _ (0, 0) _ (fun _ h => h.1) Try.underlying46 rfl size105
    rfl
  change wpAnyH _ _ _ _ _ _ _ (Act.put _ (some 48) _) _
  simp only [Act.put, List.setIfInBounds_toArray, List.set_cons_zero, List.set_cons_succ]
  refine wpAnyH_take (i := 1) (v := .agg #[Value.slice y9.A g9.img.length y9.c, .int .i64 g9.pg, .slice y9.B g9.wear.length y9.d, .bool g9.down, .int .i64 g9.fuse, .slice y9.P g9.picks.length y9.r]) rfl (by kernel_rfl) (by kernel_rfl) (by kernel_rfl) (fun _ _ _ h => h) ?_ ⟨HYD.out.h, HYD.out.h4⟩ ?_
  · refine yieldsIf_load_row ?_ 37 _ rfl (w.heap.size + 1) rfl 37 _ (0, 0) _ (fun _ h => h.2) Try.underlying37 rfl size60
    rfl
  change wpAnyH _ _ _ _ _ _ _ (Act.put _ (some 49) _) _
  simp only [Act.put, List.setIfInBounds_toArray, List.set_cons_zero, List.set_cons_succ]
  refine wpAnyH_store (i := 2) (by kernel_rfl) rfl (by rfl) rfl 46 _ _ rfl (w.heap.size + 2) #[Value.int .i64 s.first, .int .i64 s.blocks, .slice q.Q1 s.spec.length q.c1, .slice q.Q2 s.staged.length q.c2, .slice q.Q3 s.saved.length q.c3, .int .i64 s.seq, .int .i64 s.block, .int .i64 s.slot, .slice q.Q4 q.n4 q.c4, .slice (some ⟨bp, op, none⟩) m c5, .int .i64 (pn : Int), .int .i64 (-1), .int .i64 q.nb, .int .i64 q.ns, .bool true] old8 rfl rfl 46 hh8 size105 ho8 (one15 ..) ⟨(setRow_other _ _ _ _ (by omega)).trans HYD.out.h, (setRow_other _ _ _ _ (by omega)).trans HYD.out.h4⟩ ?_
  refine wpAnyH_store (i := 3) (by kernel_rfl) rfl (by rfl) rfl 37 _ _ rfl (w.heap.size + 3) #[Value.slice y9.A g9.img.length y9.c, .int .i64 g9.pg, .slice y9.B g9.wear.length y9.d, .bool g9.down, .int .i64 g9.fuse, .slice y9.P g9.picks.length y9.r] old9 rfl rfl 37 ((setRow_other _ _ _ _ (by omega)).trans hh9) size60 ho9 (one6 ..) ⟨(setRow_other _ _ _ _ (by omega)).trans ((setRow_other _ _ _ _ (by omega)).trans HYD.out.h), (setRow_other _ _ _ _ (by omega)).trans ((setRow_other _ _ _ _ (by omega)).trans HYD.out.h4)⟩ ?_
  refine wpAnyH_take (i := 4) (v := .bool false) rfl (by kernel_rfl) (by kernel_rfl) (by kernel_rfl) (fun _ _ _ h => h) ?_ ⟨(setRow_other _ _ _ _ (by omega)).trans ((setRow_other _ _ _ _ (by omega)).trans HYD.out.h), (setRow_other _ _ _ _ (by omega)).trans ((setRow_other _ _ _ _ (by omega)).trans HYD.out.h4)⟩ ?_
  · refine yieldsIf_assign (x := .const (.bool false)) ?_ rfl
    rfl
  change wpAnyH _ _ _ _ _ _ _ (Act.put _ (some 6) _) _
  simp only [Act.put, List.setIfInBounds_toArray, List.set_cons_zero, List.set_cons_succ]
  refine wpAnyH_take (i := 5) (v := .int .i64 20) rfl (by kernel_rfl) (by kernel_rfl) (by kernel_rfl) (fun _ _ _ h => h) ?_ ⟨(setRow_other _ _ _ _ (by omega)).trans ((setRow_other _ _ _ _ (by omega)).trans HYD.out.h), (setRow_other _ _ _ _ (by omega)).trans ((setRow_other _ _ _ _ (by omega)).trans HYD.out.h4)⟩ ?_
  · refine yieldsIf_assign (x := .const (.int .i64 20)) ?_ rfl
    rfl
  change wpAnyH _ _ _ _ _ _ _ (Act.put _ (some 7) _) _
  simp only [Act.put, List.setIfInBounds_toArray, List.set_cons_zero, List.set_cons_succ]
  refine wpAnyH_done (by kernel_rfl) ?_ _
  go_wp2
  (try simp only [Exit.inBlock, Exit.then])
  refine bodyPost_ret (v := .tuple #[.agg #[Value.int .i64 s.first, .int .i64 s.blocks, .slice q.Q1 s.spec.length q.c1, .slice q.Q2 s.staged.length q.c2, .slice q.Q3 s.saved.length q.c3, .int .i64 s.seq, .int .i64 s.block, .int .i64 s.slot, .slice q.Q4 q.n4 q.c4, .slice (some ⟨bp, op, none⟩) m c5, .int .i64 (pn : Int), .int .i64 (-1), .int .i64 q.nb, .int .i64 q.ns, .bool true], .agg #[Value.slice y9.A g9.img.length y9.c, .int .i64 g9.pg, .slice y9.B g9.wear.length y9.d, .bool g9.down, .int .i64 g9.fuse, .slice y9.P g9.picks.length y9.r], .bool false, .int .i64 20]) (results_rows (p := 4) (p' := 5) (u := 6) (v := 7) rfl _ _ (w.heap.size + 2) (w.heap.size + 3) 46 37 #[Value.int .i64 s.first, .int .i64 s.blocks, .slice q.Q1 s.spec.length q.c1, .slice q.Q2 s.staged.length q.c2, .slice q.Q3 s.saved.length q.c3, .int .i64 s.seq, .int .i64 s.block, .int .i64 s.slot, .slice q.Q4 q.n4 q.c4, .slice (some ⟨bp, op, none⟩) m c5, .int .i64 (pn : Int), .int .i64 (-1), .int .i64 q.nb, .int .i64 q.ns, .bool true] #[Value.slice y9.A g9.img.length y9.c, .int .i64 g9.pg, .slice y9.B g9.wear.length y9.d, .bool g9.down, .int .i64 g9.fuse, .slice y9.P g9.picks.length y9.r] _ _ rfl rfl ((setRow_other _ _ _ _ (by omega)).trans (setRow_heap _ _ _ _ _ _ hh8)) (setRow_heap _ _ _ _ _ _ ((setRow_other _ _ _ _ (by omega)).trans hh9)) Try.underlying46 rfl size105 Try.underlying37 rfl size60) rfl ⟨y9, (HR9.out.onlyX (((OnlyX.of_below (Below.drew (Below.refl _ _))).trans (OnlyX.row _ _ _ (xn2 _ _))).trans (OnlyX.row _ _ _ (xn3 _ _)))).ofn, below_setRow (below_setRow HYD.out.below (by omega) _) (by omega) _, rfl⟩
set_option maxRecDepth 100000 in
set_option maxHeartbeats 4000000 in
theorem step_rm {X : Nat → Prop} (w : World) (q : Qv) (s : St) (x : Rc) (g : Fl) (hR : RAt X w x g) (hX : ∀ b, X b → b < w.heap.size) (bp op m c5 pn : Nat) (hm : 0 < m) (hm8 : m ≤ 8) (hmc : m ≤ c5) (hc5 : c5 ≤ maxLen) (hpn : pn ≤ 2000)
    (Qp : Option Addr) (cp : Nat) (pb : List Int) (hcell : w.cell? ⟨bp, op, none⟩ = some (.slice Qp 64 cp)) (hQp : RdX X w Qp (kcells .u8 pb)) (hpl : pb.length = 64) (hcp : 64 ≤ cp) (hcm : cp ≤ maxLen) (hpb : Bytes pb) (g9 : Fl) (k9 : Int) (hE : progF g pn pb = (g9, k9)) (hk : k9 = 0) (hm2 : 2 ≤ m) :
    Calls Try.prog 114 #[.agg #[Value.int .i64 s.first, .int .i64 s.blocks, .slice q.Q1 s.spec.length q.c1, .slice q.Q2 s.staged.length q.c2, .slice q.Q3 s.saved.length q.c3, .int .i64 s.seq, .int .i64 s.block, .int .i64 s.slot, .slice q.Q4 q.n4 q.c4, .slice (some ⟨bp, op, none⟩) m c5, .int .i64 (pn : Int), .int .i64 (-1), .int .i64 q.nb, .int .i64 q.ns, .bool false], .agg #[Value.slice x.A g.img.length x.c, .int .i64 g.pg, .slice x.B g.wear.length x.d, .bool g.down, .int .i64 g.fuse, .slice x.P g.picks.length x.r]] w fun e w' => ∃ y9 : Rc, RAt X w' y9 g9 ∧ Below w.heap.size w w' ∧ e = .returned (.tuple #[.agg #[Value.int .i64 s.first, .int .i64 s.blocks, .slice q.Q1 s.spec.length q.c1, .slice q.Q2 s.staged.length q.c2, .slice q.Q3 s.saved.length q.c3, .int .i64 s.seq, .int .i64 s.block, .int .i64 s.slot, .slice q.Q4 q.n4 q.c4, .slice (some ⟨bp, op + 1, none⟩) (m - 1) (c5 - 1), .int .i64 ((pn : Int) + 1), .int .i64 (-1), .int .i64 q.nb, .int .i64 q.ns, .bool false], .agg #[Value.slice y9.A g9.img.length y9.c, .int .i64 g9.pg, .slice y9.B g9.wear.length y9.d, .bool g9.down, .int .i64 g9.fuse, .slice y9.P g9.picks.length y9.r], .bool false, .int .i64 0]) := by
  have hk2 : (k9 != 0) = false := by simpa using hk
  clear hk
  obtain ⟨W, hW⟩ : ∃ W, (((w.alloc (.cells #[Value.int .i64 s.first, .int .i64 s.blocks, .slice q.Q1 s.spec.length q.c1, .slice q.Q2 s.staged.length q.c2, .slice q.Q3 s.saved.length q.c3, .int .i64 s.seq, .int .i64 s.block, .int .i64 s.slot, .slice q.Q4 q.n4 q.c4, .slice (some ⟨bp, op, none⟩) m c5, .int .i64 (pn : Int), .int .i64 (-1), .int .i64 q.nb, .int .i64 q.ns, .bool false] 46)).alloc (.cells #[Value.slice x.A g.img.length x.c, .int .i64 g.pg, .slice x.B g.wear.length x.d, .bool g.down, .int .i64 g.fuse, .slice x.P g.picks.length x.r] 37)).alloc (.cells #[.int .i64 0, .int .i64 0, .slice none 0 0, .slice none 0 0, .slice none 0 0, .int .i64 0, .int .i64 0, .int .i64 0, .slice none 0 0, .slice none 0 0, .int .i64 0, .int .i64 0, .int .i64 0, .int .i64 0, .bool false] 46)).alloc (.cells #[.slice none 0 0, .int .i64 0, .slice none 0 0, .bool false, .int .i64 0, .slice none 0 0] 37) = W := ⟨_, rfl⟩
  have HY := Lib.hid (Hy.new hW.symm ⟨_, rfl, rfl⟩ ⟨_, rfl, rfl⟩)
  have r14 := HY.out.row 14 rfl
  have r9 := HY.out.row 9 rfl
  have r11 := HY.out.row 11 rfl
  have r10 := HY.out.row 10 rfl
  have hsz := HY.out.lt
  have HBW : Hid (Below w.heap.size w W.drew) := HY.out.below.trans ((Below.drew (Below.refl _ _)).mono HY.out.below.size)
  have HPR := Lib.hid (progR_any (hR.xn HBW.out) (XN.lt hX hsz) (pn : Int) Qp 64 cp pb (hQp.xn HBW.out).rd hpl hcp hcm hpb)
  rw [hE] at HPR
  simp only at HPR
  have hlt := World.block_lt_of_cell? w _ hcell
  have HC0 : Hid (∀ W', Below w.heap.size w W' → W'.cell? ⟨bp, op, none⟩ = some (.slice Qp 64 cp)) := fun W' hb => (hb.cell (p := ⟨bp, op, none⟩) hlt).trans hcell
  have hm0 : (0 : Int) < (m : Int) := by omega
  unfold maxLen at hc5 hcm
  have k0 := HC0.out _ HBW.out
  have r9d := (HY.out.later (Below.drew (Below.refl _ _))).row 9 rfl
  have r10d := (HY.out.later (Below.drew (Below.refl _ _))).row 10 rfl
  have HYD := Lib.hid (HY.out.later (Below.drew (Below.refl _ _)))
  clear hR hX hE hsz hcell hQp hpl hcp hpb
  go_enter Try.func114, Try.ntmps114
  go_upto_region 11 with (fail)
  try rw [hW]
  clear hW
  refine wp_region_held (S := fun W' => W'.cell? ⟨w.heap.size, 9, none⟩ = some (.slice (some ⟨bp, op, none⟩) m c5) ∧ W'.cell? ⟨w.heap.size, 10, none⟩ = some (.int .i64 (pn : Int)) ∧ W'.cell? ⟨bp, op, none⟩ = some (.slice Qp 64 cp)) (by kernel_rfl) ?_
  change wpAnyH _ _ _ _ _ _ _ _ (World.drew _)
  refine wpAnyH_take (i := 1) (v := .pointer (some ⟨w.heap.size, 10, none⟩)) rfl (by kernel_rfl) (by kernel_rfl) (by kernel_rfl) (fun _ _ _ h => h) (.inl ⟨?_, ?_⟩) ⟨r9d, r10d, k0⟩ ?_
  · rfl
  · rintro w' ⟨h1, h2, h3⟩
    go_simp
  change wpAnyH _ _ _ _ _ _ _ (Act.put _ (some 36) _) _
  simp only [Act.put, List.setIfInBounds_toArray, List.set_cons_zero, List.set_cons_succ]
  refine wpAnyH_take (i := 3) (v := .pointer (some ⟨w.heap.size, 9, none⟩)) rfl (by kernel_rfl) (by kernel_rfl) (by kernel_rfl) (fun _ _ _ h => h) (.inl ⟨?_, ?_⟩) ⟨r9d, r10d, k0⟩ ?_
  · rfl
  · rintro w' ⟨h1, h2, h3⟩
    go_simp
  change wpAnyH _ _ _ _ _ _ _ (Act.put _ (some 38) _) _
  simp only [Act.put, List.setIfInBounds_toArray, List.set_cons_zero, List.set_cons_succ]
  refine wpAnyH_take (i := 2) (v := .int .i64 (pn : Int)) rfl (by kernel_rfl) (by kernel_rfl) (by kernel_rfl) (fun _ _ _ h => h) (.inl ⟨?_, ?_⟩) ⟨r9d, r10d, k0⟩ ?_
  · rfl
  · rintro w' ⟨h1, h2, h3⟩
    go_simp
  change wpAnyH _ _ _ _ _ _ _ (Act.put _ (some 37) _) _
  simp only [Act.put, List.setIfInBounds_toArray, List.set_cons_zero, List.set_cons_succ]
  refine wpAnyH_take (i := 4) (v := .slice (some ⟨bp, op, none⟩) m c5) rfl (by kernel_rfl) (by kernel_rfl) (by kernel_rfl) (fun _ _ _ h => h) (.inl ⟨?_, ?_⟩) ⟨r9d, r10d, k0⟩ ?_
  · rfl
  · rintro w' ⟨h1, h2, h3⟩
    go_simp
  change wpAnyH _ _ _ _ _ _ _ (Act.put _ (some 39) _) _
  simp only [Act.put, List.setIfInBounds_toArray, List.set_cons_zero, List.set_cons_succ]
  refine wpAnyH_take (i := 5) (v := .pointer (some ⟨bp, op, none⟩)) rfl (by kernel_rfl) (by kernel_rfl) (by kernel_rfl) (fun _ _ _ h => h) (.inl ⟨?_, ?_⟩) ⟨r9d, r10d, k0⟩ ?_
  · rfl
  · rintro w' ⟨h1, h2, h3⟩
    go_simp
  change wpAnyH _ _ _ _ _ _ _ (Act.put _ (some 40) _) _
  simp only [Act.put, List.setIfInBounds_toArray, List.set_cons_zero, List.set_cons_succ]
  refine wpAnyH_take (i := 6) (v := .slice Qp 64 cp) rfl (by kernel_rfl) (by kernel_rfl) (by kernel_rfl) (fun _ _ _ h => h) (.inl ⟨?_, ?_⟩) ⟨r9d, r10d, k0⟩ ?_
  · rfl
  · rintro w' ⟨h1, h2, h3⟩
    go_simp
  change wpAnyH _ _ _ _ _ _ _ (Act.put _ (some 41) _) _
  simp only [Act.put, List.setIfInBounds_toArray, List.set_cons_zero, List.set_cons_succ]
  refine wpAnyH_load (i := 0) (by kernel_rfl) rfl (by rfl) 37 _ rfl (w.heap.size + 1) rfl 37 #[Value.slice x.A g.img.length x.c, .int .i64 g.pg, .slice x.B g.wear.length x.d, .bool g.down, .int .i64 g.fuse, .slice x.P g.picks.length x.r] _ HYD.out.h4 Try.underlying37 rfl size60 ⟨r9d, r10d, k0⟩ ?_
  change wpAnyH _ _ _ _ _ _ _ (Act.put _ (some 35) _) _
  simp only [Act.put, List.setIfInBounds_toArray, List.set_cons_zero, List.set_cons_succ]
  refine wpAnyH_call (i := 7) (al := [.agg #[Value.slice x.A g.img.length x.c, .int .i64 g.pg, .slice x.B g.wear.length x.d, .bool g.down, .int .i64 g.fuse, .slice x.P g.picks.length x.r], .int .i64 (pn : Int), .slice Qp 64 cp]) (by kernel_rfl) rfl (by rfl) _ _ rfl (by rfl) enter81 ?_
  (with_reducible refine HPR.out.mono ?_)
  rintro e w9 ⟨y9, rfl, hR9, hb9⟩
  have HY9 := Lib.hid (HYD.out.later hb9)
  have HR9 := Lib.hid hR9
  have HZ9 := Lib.hid (HY9.out.put4 #[Value.slice y9.A g9.img.length y9.c, .int .i64 g9.pg, .slice y9.B g9.wear.length y9.d, .bool g9.down, .int .i64 g9.fuse, .slice y9.P g9.picks.length y9.r])
  have HV9 := Lib.hid (HR9.out.onlyX (OnlyX.row w9 (w.heap.size + 1) #[Value.slice y9.A g9.img.length y9.c, .int .i64 g9.pg, .slice y9.B g9.wear.length y9.d, .bool g9.down, .int .i64 g9.fuse, .slice y9.P g9.picks.length y9.r] (xn1 _ _)))
  have S9 := Lib.hid (And.intro (HY9.out.row 9 rfl) (And.intro (HY9.out.row 10 rfl) (HC0.out _ HY9.out.below)))
  have T9 := Lib.hid (And.intro (HZ9.out.row 9 rfl) (And.intro (HZ9.out.row 10 rfl) (HC0.out _ HZ9.out.below)))
  refine ⟨_, rfl, S9.out, ?_⟩
  change wpAnyH _ _ _ _ _ _ _ (Act.put _ (some 42) _) _
  simp only [Act.put, List.setIfInBounds_toArray, List.set_cons_zero, List.set_cons_succ]
  refine wpAnyH_take (i := 8) (v := .tuple #[.agg #[Value.slice y9.A g9.img.length y9.c, .int .i64 g9.pg, .slice y9.B g9.wear.length y9.d, .bool g9.down, .int .i64 g9.fuse, .slice y9.P g9.picks.length y9.r], .int .i64 k9]) rfl (by kernel_rfl) (by kernel_rfl) (by kernel_rfl) (fun _ _ _ h => h) (.inl ⟨?_, ?_⟩) S9.out ?_
  · rfl
  · rintro w' ⟨h1, h2, h3⟩
    go_simp
  change wpAnyH _ _ _ _ _ _ _ (Act.put _ (some 34) _) _
  simp only [Act.put, List.setIfInBounds_toArray, List.set_cons_zero, List.set_cons_succ]
  refine wpAnyH_take (i := 9) (v := .agg #[Value.slice y9.A g9.img.length y9.c, .int .i64 g9.pg, .slice y9.B g9.wear.length y9.d, .bool g9.down, .int .i64 g9.fuse, .slice y9.P g9.picks.length y9.r]) rfl (by kernel_rfl) (by kernel_rfl) (by kernel_rfl) (fun _ _ _ h => h) (.inl ⟨?_, ?_⟩) S9.out ?_
  · rfl
  · rintro w' ⟨h1, h2, h3⟩
    go_simp
  change wpAnyH _ _ _ _ _ _ _ (Act.put _ (some 43) _) _
  simp only [Act.put, List.setIfInBounds_toArray, List.set_cons_zero, List.set_cons_succ]
  refine wpAnyH_take (i := 10) (v := .int .i64 k9) rfl (by kernel_rfl) (by kernel_rfl) (by kernel_rfl) (fun _ _ _ h => h) (.inl ⟨?_, ?_⟩) S9.out ?_
  · rfl
  · rintro w' ⟨h1, h2, h3⟩
    go_simp
  change wpAnyH _ _ _ _ _ _ _ (Act.put _ (some 44) _) _
  simp only [Act.put, List.setIfInBounds_toArray, List.set_cons_zero, List.set_cons_succ]
  refine wpAnyH_store (i := 11) (by kernel_rfl) rfl (by rfl) rfl 37 _ _ rfl (w.heap.size + 1) #[Value.slice y9.A g9.img.length y9.c, .int .i64 g9.pg, .slice y9.B g9.wear.length y9.d, .bool g9.down, .int .i64 g9.fuse, .slice y9.P g9.picks.length y9.r] #[Value.slice x.A g.img.length x.c, .int .i64 g.pg, .slice x.B g.wear.length x.d, .bool g.down, .int .i64 g.fuse, .slice x.P g.picks.length x.r] rfl rfl 37 HY9.out.h4 size60 rfl (one6 ..) T9.out ?_
  refine wpAnyH_take (i := 12) (v := .int .i64 k9) rfl (by kernel_rfl) (by kernel_rfl) (by kernel_rfl) (fun _ _ _ h => h) (.inl ⟨?_, ?_⟩) T9.out ?_
  · rfl
  · rintro w' ⟨h1, h2, h3⟩
    go_simp
  change wpAnyH _ _ _ _ _ _ _ (Act.put _ (some 8) _) _
  simp only [Act.put, List.setIfInBounds_toArray, List.set_cons_zero, List.set_cons_succ]
  refine wpAnyH_done (by kernel_rfl) ?_ _
  clear r9 r10 r11 r14 r9d r10d k0 hR9 hb9
  obtain ⟨V, hV⟩ : ∃ V, w9.setRow (w.heap.size + 1) #[Value.slice y9.A g9.img.length y9.c, .int .i64 g9.pg, .slice y9.B g9.wear.length y9.d, .bool g9.down, .int .i64 g9.fuse, .slice y9.P g9.picks.length y9.r] = V := ⟨_, rfl⟩
  rw [hV] at HZ9 HV9
  try rw [hV]
  clear hV
  have r9 := HZ9.out.row 9 rfl
  have r10 := HZ9.out.row 10 rfl
  have z9 := HZ9.out.fz 9
  have z10 := HZ9.out.fz 10
  have q1 : (1 : Int) ≤ (m : Int) := by omega
  have q2 : (m : Int) ≤ (c5 : Int) := by omega
  have q3 : ¬ c5 = 1 := by omega
  have q4 : IntKind.i64.wrap ((pn : Int) + 1) = (pn : Int) + 1 := wrap_i64_small _ (by omega) (by omega)
  have q5 : 0 < m - 1 := by omega
  go_upto_region 15 with (fail)
  go_region
  clear r9 r10 z9 z10
  obtain ⟨V1, hV1⟩ : ∃ V1, ((V.setCell ⟨w.heap.size, 9, none⟩ (.slice (some ⟨bp, op + 1, none⟩) (m - 1) (c5 - 1))).setCell ⟨w.heap.size, 10, none⟩ (.int .i64 ((pn : Int) + 1))).drew = V1 := ⟨_, rfl⟩
  have HZ10 : Hid (Hy w V1 #[Value.int .i64 s.first, .int .i64 s.blocks, .slice q.Q1 s.spec.length q.c1, .slice q.Q2 s.staged.length q.c2, .slice q.Q3 s.saved.length q.c3, .int .i64 s.seq, .int .i64 s.block, .int .i64 s.slot, .slice q.Q4 q.n4 q.c4, .slice (some ⟨bp, op + 1, none⟩) (m - 1) (c5 - 1), .int .i64 ((pn : Int) + 1), .int .i64 (-1), .int .i64 q.nb, .int .i64 q.ns, .bool false] #[Value.slice y9.A g9.img.length y9.c, .int .i64 g9.pg, .slice y9.B g9.wear.length y9.d, .bool g9.down, .int .i64 g9.fuse, .slice y9.P g9.picks.length y9.r]) := by
    rw [← hV1]
    exact ((HZ9.out.set 9 (.slice (some ⟨bp, op + 1, none⟩) (m - 1) (c5 - 1))).set 10 (.int .i64 ((pn : Int) + 1))).later (Below.drew (Below.refl _ _))
  have HR9 : Hid (RAt (XN X w.heap.size) V1 y9 g9) := by
    rw [← hV1]
    exact HV9.out.onlyX (((OnlyX.set V ⟨w.heap.size, 9, none⟩ _ (xn0 _ _)).trans (OnlyX.set _ ⟨w.heap.size, 10, none⟩ _ (xn0 _ _))).trans (OnlyX.of_below (Below.drew (Below.refl _ _))))
  try rw [hV1]
  clear hV1 HZ9 HV9
  have r9 := HZ10.out.row 9 rfl
  go_upto_region 17 with (fail)
  clear r9
  have HYD := Lib.hid ((HZ10.out).later (Below.drew (Below.refl _ _)))
  obtain ⟨old8, ho8, hh8⟩ := HYD.out.h8
  obtain ⟨old9, ho9, hh9⟩ := HYD.out.h9
  refine wp_region_held (S := fun w' => w'.heap[w.heap.size]? = some (.cells #[Value.int .i64 s.first, .int .i64 s.blocks, .slice q.Q1 s.spec.length q.c1, .slice q.Q2 s.staged.length q.c2, .slice q.Q3 s.saved.length q.c3, .int .i64 s.seq, .int .i64 s.block, .int .i64 s.slot, .slice q.Q4 q.n4 q.c4, .slice (some ⟨bp, op + 1, none⟩) (m - 1) (c5 - 1), .int .i64 ((pn : Int) + 1), .int .i64 (-1), .int .i64 q.nb, .int .i64 q.ns, .bool false] 46 (0, 0)) ∧ w'.heap[w.heap.size + 1]? = some (.cells #[Value.slice y9.A g9.img.length y9.c, .int .i64 g9.pg, .slice y9.B g9.wear.length y9.d, .bool g9.down, .int .i64 g9.fuse, .slice y9.P g9.picks.length y9.r] 37 (0, 0))) (by kernel_rfl) ?_
  refine wpAnyH_take (i := 0) (v := .agg #[Value.int .i64 s.first, .int .i64 s.blocks, .slice q.Q1 s.spec.length q.c1, .slice q.Q2 s.staged.length q.c2, .slice q.Q3 s.saved.length q.c3, .int .i64 s.seq, .int .i64 s.block, .int .i64 s.slot, .slice q.Q4 q.n4 q.c4, .slice (some ⟨bp, op + 1, none⟩) (m - 1) (c5 - 1), .int .i64 ((pn : Int) + 1), .int .i64 (-1), .int .i64 q.nb, .int .i64 q.ns, .bool false]) rfl (by kernel_rfl) (by kernel_rfl) (by kernel_rfl) (fun _ _ _ h => h) ?_ ⟨HYD.out.h, HYD.out.h4⟩ ?_
  · refine yieldsIf_load_row ?_ 46 _ rfl w.heap.size rfl 46 _ (0, 0) _ (fun _ h => h.1) Try.underlying46 rfl size105
    rfl
  change wpAnyH _ _ _ _ _ _ _ (Act.put _ (some 62) _) _
  simp only [Act.put, List.setIfInBounds_toArray, List.set_cons_zero, List.set_cons_succ]
  refine wpAnyH_take (i := 1) (v := .agg #[Value.slice y9.A g9.img.length y9.c, .int .i64 g9.pg, .slice y9.B g9.wear.length y9.d, .bool g9.down, .int .i64 g9.fuse, .slice y9.P g9.picks.length y9.r]) rfl (by kernel_rfl) (by kernel_rfl) (by kernel_rfl) (fun _ _ _ h => h) ?_ ⟨HYD.out.h, HYD.out.h4⟩ ?_
  · refine yieldsIf_load_row ?_ 37 _ rfl (w.heap.size + 1) rfl 37 _ (0, 0) _ (fun _ h => h.2) Try.underlying37 rfl size60
    rfl
  change wpAnyH _ _ _ _ _ _ _ (Act.put _ (some 63) _) _
  simp only [Act.put, List.setIfInBounds_toArray, List.set_cons_zero, List.set_cons_succ]
  refine wpAnyH_store (i := 2) (by kernel_rfl) rfl (by rfl) rfl 46 _ _ rfl (w.heap.size + 2) #[Value.int .i64 s.first, .int .i64 s.blocks, .slice q.Q1 s.spec.length q.c1, .slice q.Q2 s.staged.length q.c2, .slice q.Q3 s.saved.length q.c3, .int .i64 s.seq, .int .i64 s.block, .int .i64 s.slot, .slice q.Q4 q.n4 q.c4, .slice (some ⟨bp, op + 1, none⟩) (m - 1) (c5 - 1), .int .i64 ((pn : Int) + 1), .int .i64 (-1), .int .i64 q.nb, .int .i64 q.ns, .bool false] old8 rfl rfl 46 hh8 size105 ho8 (one15 ..) ⟨(setRow_other _ _ _ _ (by omega)).trans HYD.out.h, (setRow_other _ _ _ _ (by omega)).trans HYD.out.h4⟩ ?_
  refine wpAnyH_store (i := 3) (by kernel_rfl) rfl (by rfl) rfl 37 _ _ rfl (w.heap.size + 3) #[Value.slice y9.A g9.img.length y9.c, .int .i64 g9.pg, .slice y9.B g9.wear.length y9.d, .bool g9.down, .int .i64 g9.fuse, .slice y9.P g9.picks.length y9.r] old9 rfl rfl 37 ((setRow_other _ _ _ _ (by omega)).trans hh9) size60 ho9 (one6 ..) ⟨(setRow_other _ _ _ _ (by omega)).trans ((setRow_other _ _ _ _ (by omega)).trans HYD.out.h), (setRow_other _ _ _ _ (by omega)).trans ((setRow_other _ _ _ _ (by omega)).trans HYD.out.h4)⟩ ?_
  refine wpAnyH_take (i := 4) (v := .bool false) rfl (by kernel_rfl) (by kernel_rfl) (by kernel_rfl) (fun _ _ _ h => h) ?_ ⟨(setRow_other _ _ _ _ (by omega)).trans ((setRow_other _ _ _ _ (by omega)).trans HYD.out.h), (setRow_other _ _ _ _ (by omega)).trans ((setRow_other _ _ _ _ (by omega)).trans HYD.out.h4)⟩ ?_
  · refine yieldsIf_assign (x := .const (.bool false)) ?_ rfl
    rfl
  change wpAnyH _ _ _ _ _ _ _ (Act.put _ (some 6) _) _
  simp only [Act.put, List.setIfInBounds_toArray, List.set_cons_zero, List.set_cons_succ]
  refine wpAnyH_take (i := 5) (v := .int .i64 0) rfl (by kernel_rfl) (by kernel_rfl) (by kernel_rfl) (fun _ _ _ h => h) ?_ ⟨(setRow_other _ _ _ _ (by omega)).trans ((setRow_other _ _ _ _ (by omega)).trans HYD.out.h), (setRow_other _ _ _ _ (by omega)).trans ((setRow_other _ _ _ _ (by omega)).trans HYD.out.h4)⟩ ?_
  · refine yieldsIf_assign (x := .const (.int .i64 0)) ?_ rfl
    rfl
  change wpAnyH _ _ _ _ _ _ _ (Act.put _ (some 7) _) _
  simp only [Act.put, List.setIfInBounds_toArray, List.set_cons_zero, List.set_cons_succ]
  refine wpAnyH_done (by kernel_rfl) ?_ _
  go_wp2
  (try simp only [Exit.inBlock, Exit.then])
  refine bodyPost_ret (v := .tuple #[.agg #[Value.int .i64 s.first, .int .i64 s.blocks, .slice q.Q1 s.spec.length q.c1, .slice q.Q2 s.staged.length q.c2, .slice q.Q3 s.saved.length q.c3, .int .i64 s.seq, .int .i64 s.block, .int .i64 s.slot, .slice q.Q4 q.n4 q.c4, .slice (some ⟨bp, op + 1, none⟩) (m - 1) (c5 - 1), .int .i64 ((pn : Int) + 1), .int .i64 (-1), .int .i64 q.nb, .int .i64 q.ns, .bool false], .agg #[Value.slice y9.A g9.img.length y9.c, .int .i64 g9.pg, .slice y9.B g9.wear.length y9.d, .bool g9.down, .int .i64 g9.fuse, .slice y9.P g9.picks.length y9.r], .bool false, .int .i64 0]) (results_rows (p := 4) (p' := 5) (u := 6) (v := 7) rfl _ _ (w.heap.size + 2) (w.heap.size + 3) 46 37 #[Value.int .i64 s.first, .int .i64 s.blocks, .slice q.Q1 s.spec.length q.c1, .slice q.Q2 s.staged.length q.c2, .slice q.Q3 s.saved.length q.c3, .int .i64 s.seq, .int .i64 s.block, .int .i64 s.slot, .slice q.Q4 q.n4 q.c4, .slice (some ⟨bp, op + 1, none⟩) (m - 1) (c5 - 1), .int .i64 ((pn : Int) + 1), .int .i64 (-1), .int .i64 q.nb, .int .i64 q.ns, .bool false] #[Value.slice y9.A g9.img.length y9.c, .int .i64 g9.pg, .slice y9.B g9.wear.length y9.d, .bool g9.down, .int .i64 g9.fuse, .slice y9.P g9.picks.length y9.r] _ _ rfl rfl ((setRow_other _ _ _ _ (by omega)).trans (setRow_heap _ _ _ _ _ _ hh8)) (setRow_heap _ _ _ _ _ _ ((setRow_other _ _ _ _ (by omega)).trans hh9)) Try.underlying46 rfl size105 Try.underlying37 rfl size60) rfl ⟨y9, (HR9.out.onlyX (((OnlyX.of_below (Below.drew (Below.refl _ _))).trans (OnlyX.row _ _ _ (xn2 _ _))).trans (OnlyX.row _ _ _ (xn3 _ _)))).ofn, below_setRow (below_setRow HYD.out.below (by omega) _) (by omega) _, rfl⟩
set_option maxRecDepth 100000 in
set_option maxHeartbeats 4000000 in
theorem step_rl {X : Nat → Prop} (w : World) (q : Qv) (s : St) (x : Rc) (g : Fl) (hR : RAt X w x g) (hX : ∀ b, X b → b < w.heap.size) (bp op c5 pn : Nat) (hmc : 1 ≤ c5) (hc5 : c5 ≤ maxLen) (hpn : pn ≤ 2000) (hs0 : 0 ≤ s.seq) (hs1 : s.seq < 1099511627776)
    (Qp : Option Addr) (cp : Nat) (pb : List Int) (hcell : w.cell? ⟨bp, op, none⟩ = some (.slice Qp 64 cp)) (hQp : RdX X w Qp (kcells .u8 pb)) (hpl : pb.length = 64) (hcp : 64 ≤ cp) (hcm : cp ≤ maxLen) (hpb : Bytes pb) (g9 : Fl) (k9 : Int) (hE : progF g pn pb = (g9, k9)) (hk : k9 = 0) :
    Calls Try.prog 114 #[.agg #[Value.int .i64 s.first, .int .i64 s.blocks, .slice q.Q1 s.spec.length q.c1, .slice q.Q2 s.staged.length q.c2, .slice q.Q3 s.saved.length q.c3, .int .i64 s.seq, .int .i64 s.block, .int .i64 s.slot, .slice q.Q4 q.n4 q.c4, .slice (some ⟨bp, op, none⟩) 1 c5, .int .i64 (pn : Int), .int .i64 (-1), .int .i64 q.nb, .int .i64 q.ns, .bool false], .agg #[Value.slice x.A g.img.length x.c, .int .i64 g.pg, .slice x.B g.wear.length x.d, .bool g.down, .int .i64 g.fuse, .slice x.P g.picks.length x.r]] w fun e w' => ∃ y9 : Rc, RAt X w' y9 g9 ∧ Below w.heap.size w w' ∧ ∃ (Q0 : Option Addr) (c0 : Nat), e = .returned (.tuple #[.agg #[Value.int .i64 s.first, .int .i64 s.blocks, .slice q.Q1 s.spec.length q.c1, .slice q.Q2 s.staged.length q.c2, .slice q.Q4 q.n4 q.c4, .int .i64 (s.seq + 1), .int .i64 q.nb, .int .i64 q.ns, .slice q.Q4 q.n4 q.c4, .slice Q0 0 c0, .int .i64 ((pn : Int) + 1), .int .i64 (-1), .int .i64 q.nb, .int .i64 q.ns, .bool false], .agg #[Value.slice y9.A g9.img.length y9.c, .int .i64 g9.pg, .slice y9.B g9.wear.length y9.d, .bool g9.down, .int .i64 g9.fuse, .slice y9.P g9.picks.length y9.r], .bool true, .int .i64 0]) ∧ c0 ≤ maxLen := by
  have hk2 : (k9 != 0) = false := by simpa using hk
  clear hk
  obtain ⟨W, hW⟩ : ∃ W, (((w.alloc (.cells #[Value.int .i64 s.first, .int .i64 s.blocks, .slice q.Q1 s.spec.length q.c1, .slice q.Q2 s.staged.length q.c2, .slice q.Q3 s.saved.length q.c3, .int .i64 s.seq, .int .i64 s.block, .int .i64 s.slot, .slice q.Q4 q.n4 q.c4, .slice (some ⟨bp, op, none⟩) 1 c5, .int .i64 (pn : Int), .int .i64 (-1), .int .i64 q.nb, .int .i64 q.ns, .bool false] 46)).alloc (.cells #[Value.slice x.A g.img.length x.c, .int .i64 g.pg, .slice x.B g.wear.length x.d, .bool g.down, .int .i64 g.fuse, .slice x.P g.picks.length x.r] 37)).alloc (.cells #[.int .i64 0, .int .i64 0, .slice none 0 0, .slice none 0 0, .slice none 0 0, .int .i64 0, .int .i64 0, .int .i64 0, .slice none 0 0, .slice none 0 0, .int .i64 0, .int .i64 0, .int .i64 0, .int .i64 0, .bool false] 46)).alloc (.cells #[.slice none 0 0, .int .i64 0, .slice none 0 0, .bool false, .int .i64 0, .slice none 0 0] 37) = W := ⟨_, rfl⟩
  have HY := Lib.hid (Hy.new hW.symm ⟨_, rfl, rfl⟩ ⟨_, rfl, rfl⟩)
  have r14 := HY.out.row 14 rfl
  have r9 := HY.out.row 9 rfl
  have r11 := HY.out.row 11 rfl
  have r10 := HY.out.row 10 rfl
  have hsz := HY.out.lt
  have HBW : Hid (Below w.heap.size w W.drew) := HY.out.below.trans ((Below.drew (Below.refl _ _)).mono HY.out.below.size)
  have HPR := Lib.hid (progR_any (hR.xn HBW.out) (XN.lt hX hsz) (pn : Int) Qp 64 cp pb (hQp.xn HBW.out).rd hpl hcp hcm hpb)
  rw [hE] at HPR
  simp only at HPR
  have hlt := World.block_lt_of_cell? w _ hcell
  have HC0 : Hid (∀ W', Below w.heap.size w W' → W'.cell? ⟨bp, op, none⟩ = some (.slice Qp 64 cp)) := fun W' hb => (hb.cell (p := ⟨bp, op, none⟩) hlt).trans hcell
  unfold maxLen at hc5 hcm
  have k0 := HC0.out _ HBW.out
  have r9d := (HY.out.later (Below.drew (Below.refl _ _))).row 9 rfl
  have r10d := (HY.out.later (Below.drew (Below.refl _ _))).row 10 rfl
  have HYD := Lib.hid (HY.out.later (Below.drew (Below.refl _ _)))
  clear hR hX hE hsz hcell hQp hpl hcp hpb
  go_enter Try.func114, Try.ntmps114
  go_upto_region 11 with (fail)
  try rw [hW]
  clear hW
  refine wp_region_held (S := fun W' => W'.cell? ⟨w.heap.size, 9, none⟩ = some (.slice (some ⟨bp, op, none⟩) 1 c5) ∧ W'.cell? ⟨w.heap.size, 10, none⟩ = some (.int .i64 (pn : Int)) ∧ W'.cell? ⟨bp, op, none⟩ = some (.slice Qp 64 cp)) (by kernel_rfl) ?_
  change wpAnyH _ _ _ _ _ _ _ _ (World.drew _)
  refine wpAnyH_take (i := 1) (v := .pointer (some ⟨w.heap.size, 10, none⟩)) rfl (by kernel_rfl) (by kernel_rfl) (by kernel_rfl) (fun _ _ _ h => h) (.inl ⟨?_, ?_⟩) ⟨r9d, r10d, k0⟩ ?_
  · rfl
  · rintro w' ⟨h1, h2, h3⟩
    go_simp
  change wpAnyH _ _ _ _ _ _ _ (Act.put _ (some 36) _) _
  simp only [Act.put, List.setIfInBounds_toArray, List.set_cons_zero, List.set_cons_succ]
  refine wpAnyH_take (i := 3) (v := .pointer (some ⟨w.heap.size, 9, none⟩)) rfl (by kernel_rfl) (by kernel_rfl) (by kernel_rfl) (fun _ _ _ h => h) (.inl ⟨?_, ?_⟩) ⟨r9d, r10d, k0⟩ ?_
  · rfl
  · rintro w' ⟨h1, h2, h3⟩
    go_simp
  change wpAnyH _ _ _ _ _ _ _ (Act.put _ (some 38) _) _
  simp only [Act.put, List.setIfInBounds_toArray, List.set_cons_zero, List.set_cons_succ]
  refine wpAnyH_take (i := 2) (v := .int .i64 (pn : Int)) rfl (by kernel_rfl) (by kernel_rfl) (by kernel_rfl) (fun _ _ _ h => h) (.inl ⟨?_, ?_⟩) ⟨r9d, r10d, k0⟩ ?_
  · rfl
  · rintro w' ⟨h1, h2, h3⟩
    go_simp
  change wpAnyH _ _ _ _ _ _ _ (Act.put _ (some 37) _) _
  simp only [Act.put, List.setIfInBounds_toArray, List.set_cons_zero, List.set_cons_succ]
  refine wpAnyH_take (i := 4) (v := .slice (some ⟨bp, op, none⟩) 1 c5) rfl (by kernel_rfl) (by kernel_rfl) (by kernel_rfl) (fun _ _ _ h => h) (.inl ⟨?_, ?_⟩) ⟨r9d, r10d, k0⟩ ?_
  · rfl
  · rintro w' ⟨h1, h2, h3⟩
    go_simp
  change wpAnyH _ _ _ _ _ _ _ (Act.put _ (some 39) _) _
  simp only [Act.put, List.setIfInBounds_toArray, List.set_cons_zero, List.set_cons_succ]
  refine wpAnyH_take (i := 5) (v := .pointer (some ⟨bp, op, none⟩)) rfl (by kernel_rfl) (by kernel_rfl) (by kernel_rfl) (fun _ _ _ h => h) (.inl ⟨?_, ?_⟩) ⟨r9d, r10d, k0⟩ ?_
  · rfl
  · rintro w' ⟨h1, h2, h3⟩
    go_simp
  change wpAnyH _ _ _ _ _ _ _ (Act.put _ (some 40) _) _
  simp only [Act.put, List.setIfInBounds_toArray, List.set_cons_zero, List.set_cons_succ]
  refine wpAnyH_take (i := 6) (v := .slice Qp 64 cp) rfl (by kernel_rfl) (by kernel_rfl) (by kernel_rfl) (fun _ _ _ h => h) (.inl ⟨?_, ?_⟩) ⟨r9d, r10d, k0⟩ ?_
  · rfl
  · rintro w' ⟨h1, h2, h3⟩
    go_simp
  change wpAnyH _ _ _ _ _ _ _ (Act.put _ (some 41) _) _
  simp only [Act.put, List.setIfInBounds_toArray, List.set_cons_zero, List.set_cons_succ]
  refine wpAnyH_load (i := 0) (by kernel_rfl) rfl (by rfl) 37 _ rfl (w.heap.size + 1) rfl 37 #[Value.slice x.A g.img.length x.c, .int .i64 g.pg, .slice x.B g.wear.length x.d, .bool g.down, .int .i64 g.fuse, .slice x.P g.picks.length x.r] _ HYD.out.h4 Try.underlying37 rfl size60 ⟨r9d, r10d, k0⟩ ?_
  change wpAnyH _ _ _ _ _ _ _ (Act.put _ (some 35) _) _
  simp only [Act.put, List.setIfInBounds_toArray, List.set_cons_zero, List.set_cons_succ]
  refine wpAnyH_call (i := 7) (al := [.agg #[Value.slice x.A g.img.length x.c, .int .i64 g.pg, .slice x.B g.wear.length x.d, .bool g.down, .int .i64 g.fuse, .slice x.P g.picks.length x.r], .int .i64 (pn : Int), .slice Qp 64 cp]) (by kernel_rfl) rfl (by rfl) _ _ rfl (by rfl) enter81 ?_
  (with_reducible refine HPR.out.mono ?_)
  rintro e w9 ⟨y9, rfl, hR9, hb9⟩
  have HY9 := Lib.hid (HYD.out.later hb9)
  have HR9 := Lib.hid hR9
  have HZ9 := Lib.hid (HY9.out.put4 #[Value.slice y9.A g9.img.length y9.c, .int .i64 g9.pg, .slice y9.B g9.wear.length y9.d, .bool g9.down, .int .i64 g9.fuse, .slice y9.P g9.picks.length y9.r])
  have HV9 := Lib.hid (HR9.out.onlyX (OnlyX.row w9 (w.heap.size + 1) #[Value.slice y9.A g9.img.length y9.c, .int .i64 g9.pg, .slice y9.B g9.wear.length y9.d, .bool g9.down, .int .i64 g9.fuse, .slice y9.P g9.picks.length y9.r] (xn1 _ _)))
  have S9 := Lib.hid (And.intro (HY9.out.row 9 rfl) (And.intro (HY9.out.row 10 rfl) (HC0.out _ HY9.out.below)))
  have T9 := Lib.hid (And.intro (HZ9.out.row 9 rfl) (And.intro (HZ9.out.row 10 rfl) (HC0.out _ HZ9.out.below)))
  refine ⟨_, rfl, S9.out, ?_⟩
  change wpAnyH _ _ _ _ _ _ _ (Act.put _ (some 42) _) _
  simp only [Act.put, List.setIfInBounds_toArray, List.set_cons_zero, List.set_cons_succ]
  refine wpAnyH_take (i := 8) (v := .tuple #[.agg #[Value.slice y9.A g9.img.length y9.c, .int .i64 g9.pg, .slice y9.B g9.wear.length y9.d, .bool g9.down, .int .i64 g9.fuse, .slice y9.P g9.picks.length y9.r], .int .i64 k9]) rfl (by kernel_rfl) (by kernel_rfl) (by kernel_rfl) (fun _ _ _ h => h) (.inl ⟨?_, ?_⟩) S9.out ?_
  · rfl
  · rintro w' ⟨h1, h2, h3⟩
    go_simp
  change wpAnyH _ _ _ _ _ _ _ (Act.put _ (some 34) _) _
  simp only [Act.put, List.setIfInBounds_toArray, List.set_cons_zero, List.set_cons_succ]
  refine wpAnyH_take (i := 9) (v := .agg #[Value.slice y9.A g9.img.length y9.c, .int .i64 g9.pg, .slice y9.B g9.wear.length y9.d, .bool g9.down, .int .i64 g9.fuse, .slice y9.P g9.picks.length y9.r]) rfl (by kernel_rfl) (by kernel_rfl) (by kernel_rfl) (fun _ _ _ h => h) (.inl ⟨?_, ?_⟩) S9.out ?_
  · rfl
  · rintro w' ⟨h1, h2, h3⟩
    go_simp
  change wpAnyH _ _ _ _ _ _ _ (Act.put _ (some 43) _) _
  simp only [Act.put, List.setIfInBounds_toArray, List.set_cons_zero, List.set_cons_succ]
  refine wpAnyH_take (i := 10) (v := .int .i64 k9) rfl (by kernel_rfl) (by kernel_rfl) (by kernel_rfl) (fun _ _ _ h => h) (.inl ⟨?_, ?_⟩) S9.out ?_
  · rfl
  · rintro w' ⟨h1, h2, h3⟩
    go_simp
  change wpAnyH _ _ _ _ _ _ _ (Act.put _ (some 44) _) _
  simp only [Act.put, List.setIfInBounds_toArray, List.set_cons_zero, List.set_cons_succ]
  refine wpAnyH_store (i := 11) (by kernel_rfl) rfl (by rfl) rfl 37 _ _ rfl (w.heap.size + 1) #[Value.slice y9.A g9.img.length y9.c, .int .i64 g9.pg, .slice y9.B g9.wear.length y9.d, .bool g9.down, .int .i64 g9.fuse, .slice y9.P g9.picks.length y9.r] #[Value.slice x.A g.img.length x.c, .int .i64 g.pg, .slice x.B g.wear.length x.d, .bool g.down, .int .i64 g.fuse, .slice x.P g.picks.length x.r] rfl rfl 37 HY9.out.h4 size60 rfl (one6 ..) T9.out ?_
  refine wpAnyH_take (i := 12) (v := .int .i64 k9) rfl (by kernel_rfl) (by kernel_rfl) (by kernel_rfl) (fun _ _ _ h => h) (.inl ⟨?_, ?_⟩) T9.out ?_
  · rfl
  · rintro w' ⟨h1, h2, h3⟩
    go_simp
  change wpAnyH _ _ _ _ _ _ _ (Act.put _ (some 8) _) _
  simp only [Act.put, List.setIfInBounds_toArray, List.set_cons_zero, List.set_cons_succ]
  refine wpAnyH_done (by kernel_rfl) ?_ _
  clear r9 r10 r11 r14 r9d r10d k0 hR9 hb9
  obtain ⟨V, hV⟩ : ∃ V, w9.setRow (w.heap.size + 1) #[Value.slice y9.A g9.img.length y9.c, .int .i64 g9.pg, .slice y9.B g9.wear.length y9.d, .bool g9.down, .int .i64 g9.fuse, .slice y9.P g9.picks.length y9.r] = V := ⟨_, rfl⟩
  rw [hV] at HZ9 HV9
  try rw [hV]
  clear hV
  have q1 : (1 : Int) ≤ (c5 : Int) := by omega
  have q4 : IntKind.i64.wrap ((pn : Int) + 1) = (pn : Int) + 1 := wrap_i64_small _ (by omega) (by omega)
  have q5 : IntKind.i64.wrap (s.seq + 1) = s.seq + 1 := wrap_i64_small _ (by omega) (by omega)
  by_cases hc : c5 = 1
  · subst hc
    have r9 := HZ9.out.row 9 rfl
    have r10 := HZ9.out.row 10 rfl
    have z9 := HZ9.out.fz 9
    have z10 := HZ9.out.fz 10
    go_upto_region 15 with (fail)
    go_region
    clear r9 r10 z9 z10
    obtain ⟨V1, hV1⟩ : ∃ V1, ((V.setCell ⟨w.heap.size, 9, none⟩ (.slice (some ⟨bp, op, none⟩) 0 0)).setCell ⟨w.heap.size, 10, none⟩ (.int .i64 ((pn : Int) + 1))).drew = V1 := ⟨_, rfl⟩
    have HZ10 : Hid (Hy w V1 #[Value.int .i64 s.first, .int .i64 s.blocks, .slice q.Q1 s.spec.length q.c1, .slice q.Q2 s.staged.length q.c2, .slice q.Q3 s.saved.length q.c3, .int .i64 s.seq, .int .i64 s.block, .int .i64 s.slot, .slice q.Q4 q.n4 q.c4, .slice (some ⟨bp, op, none⟩) 0 0, .int .i64 ((pn : Int) + 1), .int .i64 (-1), .int .i64 q.nb, .int .i64 q.ns, .bool false] #[Value.slice y9.A g9.img.length y9.c, .int .i64 g9.pg, .slice y9.B g9.wear.length y9.d, .bool g9.down, .int .i64 g9.fuse, .slice y9.P g9.picks.length y9.r]) := by
      rw [← hV1]
      exact ((HZ9.out.set 9 (.slice (some ⟨bp, op, none⟩) 0 0)).set 10 (.int .i64 ((pn : Int) + 1))).later (Below.drew (Below.refl _ _))
    have HR9 : Hid (RAt (XN X w.heap.size) V1 y9 g9) := by
      rw [← hV1]
      exact HV9.out.onlyX (((OnlyX.set V ⟨w.heap.size, 9, none⟩ _ (xn0 _ _)).trans (OnlyX.set _ ⟨w.heap.size, 10, none⟩ _ (xn0 _ _))).trans (OnlyX.of_below (Below.drew (Below.refl _ _))))
    try rw [hV1]
    clear hV1 HZ9 HV9
    have r9 := HZ10.out.row 9 rfl
    go_upto_region 18 with (fail)
    clear r9
    have r8 := HZ10.out.row 8 rfl
    have r5 := HZ10.out.row 5 rfl
    have r12 := HZ10.out.row 12 rfl
    have r13 := HZ10.out.row 13 rfl
    have r4 := HZ10.out.row 4 rfl
    have r6 := HZ10.out.row 6 rfl
    have r7 := HZ10.out.row 7 rfl
    have z4 := HZ10.out.fz 4
    have z5 := HZ10.out.fz 5
    have z6 := HZ10.out.fz 6
    have z7 := HZ10.out.fz 7
    go_upto_region 19 with (fail)
    clear r8 r5 r12 r13 r4 r6 r7 z4 z5 z6 z7
    have HZ11 : Hid (Hy w ((((V1.setCell ⟨w.heap.size, 4, none⟩ (.slice q.Q4 q.n4 q.c4)).setCell ⟨w.heap.size, 5, none⟩ (.int .i64 (s.seq + 1))).setCell ⟨w.heap.size, 6, none⟩ (.int .i64 q.nb)).setCell ⟨w.heap.size, 7, none⟩ (.int .i64 q.ns)) #[Value.int .i64 s.first, .int .i64 s.blocks, .slice q.Q1 s.spec.length q.c1, .slice q.Q2 s.staged.length q.c2, .slice q.Q4 q.n4 q.c4, .int .i64 (s.seq + 1), .int .i64 q.nb, .int .i64 q.ns, .slice q.Q4 q.n4 q.c4, .slice (some ⟨bp, op, none⟩) 0 0, .int .i64 ((pn : Int) + 1), .int .i64 (-1), .int .i64 q.nb, .int .i64 q.ns, .bool false] #[Value.slice y9.A g9.img.length y9.c, .int .i64 g9.pg, .slice y9.B g9.wear.length y9.d, .bool g9.down, .int .i64 g9.fuse, .slice y9.P g9.picks.length y9.r]) := (((HZ10.out.set 4 (.slice q.Q4 q.n4 q.c4)).set 5 (.int .i64 (s.seq + 1))).set 6 (.int .i64 q.nb)).set 7 (.int .i64 q.ns)
    have HR9 := Lib.hid (HR9.out.onlyX ((((OnlyX.set V1 ⟨w.heap.size, 4, none⟩ (.slice q.Q4 q.n4 q.c4) (xn0 _ _)).trans (OnlyX.set _ ⟨w.heap.size, 5, none⟩ (.int .i64 (s.seq + 1)) (xn0 _ _))).trans (OnlyX.set _ ⟨w.heap.size, 6, none⟩ (.int .i64 q.nb) (xn0 _ _))).trans (OnlyX.set _ ⟨w.heap.size, 7, none⟩ (.int .i64 q.ns) (xn0 _ _))))
    obtain ⟨V2, hV2⟩ : ∃ V2, (((V1.setCell ⟨w.heap.size, 4, none⟩ (.slice q.Q4 q.n4 q.c4)).setCell ⟨w.heap.size, 5, none⟩ (.int .i64 (s.seq + 1))).setCell ⟨w.heap.size, 6, none⟩ (.int .i64 q.nb)).setCell ⟨w.heap.size, 7, none⟩ (.int .i64 q.ns) = V2 := ⟨_, rfl⟩
    rw [hV2] at HZ11 HR9
    try rw [hV2]
    clear hV2
    have HYD := Lib.hid ((HZ11.out).later (Below.drew (Below.refl _ _)))
    obtain ⟨old8, ho8, hh8⟩ := HYD.out.h8
    obtain ⟨old9, ho9, hh9⟩ := HYD.out.h9
    refine wp_region_held (S := fun w' => w'.heap[w.heap.size]? = some (.cells #[Value.int .i64 s.first, .int .i64 s.blocks, .slice q.Q1 s.spec.length q.c1, .slice q.Q2 s.staged.length q.c2, .slice q.Q4 q.n4 q.c4, .int .i64 (s.seq + 1), .int .i64 q.nb, .int .i64 q.ns, .slice q.Q4 q.n4 q.c4, .slice (some ⟨bp, op, none⟩) 0 0, .int .i64 ((pn : Int) + 1), .int .i64 (-1), .int .i64 q.nb, .int .i64 q.ns, .bool false] 46 (0, 0)) ∧ w'.heap[w.heap.size + 1]? = some (.cells #[Value.slice y9.A g9.img.length y9.c, .int .i64 g9.pg, .slice y9.B g9.wear.length y9.d, .bool g9.down, .int .i64 g9.fuse, .slice y9.P g9.picks.length y9.r] 37 (0, 0))) (by kernel_rfl) ?_
    refine wpAnyH_take (i := 0) (v := .agg #[Value.int .i64 s.first, .int .i64 s.blocks, .slice q.Q1 s.spec.length q.c1, .slice q.Q2 s.staged.length q.c2, .slice q.Q4 q.n4 q.c4, .int .i64 (s.seq + 1), .int .i64 q.nb, .int .i64 q.ns, .slice q.Q4 q.n4 q.c4, .slice (some ⟨bp, op, none⟩) 0 0, .int .i64 ((pn : Int) + 1), .int .i64 (-1), .int .i64 q.nb, .int .i64 q.ns, .bool false]) rfl (by kernel_rfl) (by kernel_rfl) (by kernel_rfl) (fun _ _ _ h => h) ?_ ⟨HYD.out.h, HYD.out.h4⟩ ?_
    · refine yieldsIf_load_row ?_ 46 _ rfl w.heap.size rfl 46 _ (0, 0) _ (fun _ h => h.1) Try.underlying46 rfl size105
      rfl
    change wpAnyH _ _ _ _ _ _ _ (Act.put _ (some 77) _) _
    simp only [Act.put, List.setIfInBounds_toArray, List.set_cons_zero, List.set_cons_succ]
    refine wpAnyH_take (i := 1) (v := .agg #[Value.slice y9.A g9.img.length y9.c, .int .i64 g9.pg, .slice y9.B g9.wear.length y9.d, .bool g9.down, .int .i64 g9.fuse, .slice y9.P g9.picks.length y9.r]) rfl (by kernel_rfl) (by kernel_rfl) (by kernel_rfl) (fun _ _ _ h => h) ?_ ⟨HYD.out.h, HYD.out.h4⟩ ?_
    · refine yieldsIf_load_row ?_ 37 _ rfl (w.heap.size + 1) rfl 37 _ (0, 0) _ (fun _ h => h.2) Try.underlying37 rfl size60
      rfl
    change wpAnyH _ _ _ _ _ _ _ (Act.put _ (some 78) _) _
    simp only [Act.put, List.setIfInBounds_toArray, List.set_cons_zero, List.set_cons_succ]
    refine wpAnyH_store (i := 2) (by kernel_rfl) rfl (by rfl) rfl 46 _ _ rfl (w.heap.size + 2) #[Value.int .i64 s.first, .int .i64 s.blocks, .slice q.Q1 s.spec.length q.c1, .slice q.Q2 s.staged.length q.c2, .slice q.Q4 q.n4 q.c4, .int .i64 (s.seq + 1), .int .i64 q.nb, .int .i64 q.ns, .slice q.Q4 q.n4 q.c4, .slice (some ⟨bp, op, none⟩) 0 0, .int .i64 ((pn : Int) + 1), .int .i64 (-1), .int .i64 q.nb, .int .i64 q.ns, .bool false] old8 rfl rfl 46 hh8 size105 ho8 (one15 ..) ⟨(setRow_other _ _ _ _ (by omega)).trans HYD.out.h, (setRow_other _ _ _ _ (by omega)).trans HYD.out.h4⟩ ?_
    refine wpAnyH_store (i := 3) (by kernel_rfl) rfl (by rfl) rfl 37 _ _ rfl (w.heap.size + 3) #[Value.slice y9.A g9.img.length y9.c, .int .i64 g9.pg, .slice y9.B g9.wear.length y9.d, .bool g9.down, .int .i64 g9.fuse, .slice y9.P g9.picks.length y9.r] old9 rfl rfl 37 ((setRow_other _ _ _ _ (by omega)).trans hh9) size60 ho9 (one6 ..) ⟨(setRow_other _ _ _ _ (by omega)).trans ((setRow_other _ _ _ _ (by omega)).trans HYD.out.h), (setRow_other _ _ _ _ (by omega)).trans ((setRow_other _ _ _ _ (by omega)).trans HYD.out.h4)⟩ ?_
    refine wpAnyH_take (i := 4) (v := .bool true) rfl (by kernel_rfl) (by kernel_rfl) (by kernel_rfl) (fun _ _ _ h => h) ?_ ⟨(setRow_other _ _ _ _ (by omega)).trans ((setRow_other _ _ _ _ (by omega)).trans HYD.out.h), (setRow_other _ _ _ _ (by omega)).trans ((setRow_other _ _ _ _ (by omega)).trans HYD.out.h4)⟩ ?_
    · refine yieldsIf_assign (x := .const (.bool true)) ?_ rfl
      rfl
    change wpAnyH _ _ _ _ _ _ _ (Act.put _ (some 6) _) _
    simp only [Act.put, List.setIfInBounds_toArray, List.set_cons_zero, List.set_cons_succ]
    refine wpAnyH_take (i := 5) (v := .int .i64 0) rfl (by kernel_rfl) (by kernel_rfl) (by kernel_rfl) (fun _ _ _ h => h) ?_ ⟨(setRow_other _ _ _ _ (by omega)).trans ((setRow_other _ _ _ _ (by omega)).trans HYD.out.h), (setRow_other _ _ _ _ (by omega)).trans ((setRow_other _ _ _ _ (by omega)).trans HYD.out.h4)⟩ ?_
    · refine yieldsIf_assign (x := .const (.int .i64 0)) ?_ rfl
      rfl
    change wpAnyH _ _ _ _ _ _ _ (Act.put _ (some 7) _) _
    simp only [Act.put, List.setIfInBounds_toArray, List.set_cons_zero, List.set_cons_succ]
    refine wpAnyH_done (by kernel_rfl) ?_ _
    go_wp2
    (try simp only [Exit.inBlock, Exit.then])
    refine bodyPost_ret (v := .tuple #[.agg #[Value.int .i64 s.first, .int .i64 s.blocks, .slice q.Q1 s.spec.length q.c1, .slice q.Q2 s.staged.length q.c2, .slice q.Q4 q.n4 q.c4, .int .i64 (s.seq + 1), .int .i64 q.nb, .int .i64 q.ns, .slice q.Q4 q.n4 q.c4, .slice (some ⟨bp, op, none⟩) 0 0, .int .i64 ((pn : Int) + 1), .int .i64 (-1), .int .i64 q.nb, .int .i64 q.ns, .bool false], .agg #[Value.slice y9.A g9.img.length y9.c, .int .i64 g9.pg, .slice y9.B g9.wear.length y9.d, .bool g9.down, .int .i64 g9.fuse, .slice y9.P g9.picks.length y9.r], .bool true, .int .i64 0]) (results_rows (p := 4) (p' := 5) (u := 6) (v := 7) rfl _ _ (w.heap.size + 2) (w.heap.size + 3) 46 37 #[Value.int .i64 s.first, .int .i64 s.blocks, .slice q.Q1 s.spec.length q.c1, .slice q.Q2 s.staged.length q.c2, .slice q.Q4 q.n4 q.c4, .int .i64 (s.seq + 1), .int .i64 q.nb, .int .i64 q.ns, .slice q.Q4 q.n4 q.c4, .slice (some ⟨bp, op, none⟩) 0 0, .int .i64 ((pn : Int) + 1), .int .i64 (-1), .int .i64 q.nb, .int .i64 q.ns, .bool false] #[Value.slice y9.A g9.img.length y9.c, .int .i64 g9.pg, .slice y9.B g9.wear.length y9.d, .bool g9.down, .int .i64 g9.fuse, .slice y9.P g9.picks.length y9.r] _ _ rfl rfl ((setRow_other _ _ _ _ (by omega)).trans (setRow_heap _ _ _ _ _ _ hh8)) (setRow_heap _ _ _ _ _ _ ((setRow_other _ _ _ _ (by omega)).trans hh9)) Try.underlying46 rfl size105 Try.underlying37 rfl size60) rfl ⟨y9, (HR9.out.onlyX (((OnlyX.of_below (Below.drew (Below.refl _ _))).trans (OnlyX.row _ _ _ (xn2 _ _))).trans (OnlyX.row _ _ _ (xn3 _ _)))).ofn, below_setRow (below_setRow HYD.out.below (by omega) _) (by omega) _, ⟨(some ⟨bp, op, none⟩), 0, rfl, by unfold maxLen; omega⟩⟩
  · have r9 := HZ9.out.row 9 rfl
    have r10 := HZ9.out.row 10 rfl
    have z9 := HZ9.out.fz 9
    have z10 := HZ9.out.fz 10
    go_upto_region 15 with (fail)
    go_region
    clear r9 r10 z9 z10
    obtain ⟨V1, hV1⟩ : ∃ V1, ((V.setCell ⟨w.heap.size, 9, none⟩ (.slice (some ⟨bp, op + 1, none⟩) 0 (c5 - 1))).setCell ⟨w.heap.size, 10, none⟩ (.int .i64 ((pn : Int) + 1))).drew = V1 := ⟨_, rfl⟩
    have HZ10 : Hid (Hy w V1 #[Value.int .i64 s.first, .int .i64 s.blocks, .slice q.Q1 s.spec.length q.c1, .slice q.Q2 s.staged.length q.c2, .slice q.Q3 s.saved.length q.c3, .int .i64 s.seq, .int .i64 s.block, .int .i64 s.slot, .slice q.Q4 q.n4 q.c4, .slice (some ⟨bp, op + 1, none⟩) 0 (c5 - 1), .int .i64 ((pn : Int) + 1), .int .i64 (-1), .int .i64 q.nb, .int .i64 q.ns, .bool false] #[Value.slice y9.A g9.img.length y9.c, .int .i64 g9.pg, .slice y9.B g9.wear.length y9.d, .bool g9.down, .int .i64 g9.fuse, .slice y9.P g9.picks.length y9.r]) := by
      rw [← hV1]
      exact ((HZ9.out.set 9 (.slice (some ⟨bp, op + 1, none⟩) 0 (c5 - 1))).set 10 (.int .i64 ((pn : Int) + 1))).later (Below.drew (Below.refl _ _))
    have HR9 : Hid (RAt (XN X w.heap.size) V1 y9 g9) := by
      rw [← hV1]
      exact HV9.out.onlyX (((OnlyX.set V ⟨w.heap.size, 9, none⟩ _ (xn0 _ _)).trans (OnlyX.set _ ⟨w.heap.size, 10, none⟩ _ (xn0 _ _))).trans (OnlyX.of_below (Below.drew (Below.refl _ _))))
    try rw [hV1]
    clear hV1 HZ9 HV9
    have r9 := HZ10.out.row 9 rfl
    go_upto_region 18 with (fail)
    clear r9
    have r8 := HZ10.out.row 8 rfl
    have r5 := HZ10.out.row 5 rfl
    have r12 := HZ10.out.row 12 rfl
    have r13 := HZ10.out.row 13 rfl
    have r4 := HZ10.out.row 4 rfl
    have r6 := HZ10.out.row 6 rfl
    have r7 := HZ10.out.row 7 rfl
    have z4 := HZ10.out.fz 4
    have z5 := HZ10.out.fz 5
    have z6 := HZ10.out.fz 6
    have z7 := HZ10.out.fz 7
    go_upto_region 19 with (fail)
    clear r8 r5 r12 r13 r4 r6 r7 z4 z5 z6 z7
    have HZ11 : Hid (Hy w ((((V1.setCell ⟨w.heap.size, 4, none⟩ (.slice q.Q4 q.n4 q.c4)).setCell ⟨w.heap.size, 5, none⟩ (.int .i64 (s.seq + 1))).setCell ⟨w.heap.size, 6, none⟩ (.int .i64 q.nb)).setCell ⟨w.heap.size, 7, none⟩ (.int .i64 q.ns)) #[Value.int .i64 s.first, .int .i64 s.blocks, .slice q.Q1 s.spec.length q.c1, .slice q.Q2 s.staged.length q.c2, .slice q.Q4 q.n4 q.c4, .int .i64 (s.seq + 1), .int .i64 q.nb, .int .i64 q.ns, .slice q.Q4 q.n4 q.c4, .slice (some ⟨bp, op + 1, none⟩) 0 (c5 - 1), .int .i64 ((pn : Int) + 1), .int .i64 (-1), .int .i64 q.nb, .int .i64 q.ns, .bool false] #[Value.slice y9.A g9.img.length y9.c, .int .i64 g9.pg, .slice y9.B g9.wear.length y9.d, .bool g9.down, .int .i64 g9.fuse, .slice y9.P g9.picks.length y9.r]) := (((HZ10.out.set 4 (.slice q.Q4 q.n4 q.c4)).set 5 (.int .i64 (s.seq + 1))).set 6 (.int .i64 q.nb)).set 7 (.int .i64 q.ns)
    have HR9 := Lib.hid (HR9.out.onlyX ((((OnlyX.set V1 ⟨w.heap.size, 4, none⟩ (.slice q.Q4 q.n4 q.c4) (xn0 _ _)).trans (OnlyX.set _ ⟨w.heap.size, 5, none⟩ (.int .i64 (s.seq + 1)) (xn0 _ _))).trans (OnlyX.set _ ⟨w.heap.size, 6, none⟩ (.int .i64 q.nb) (xn0 _ _))).trans (OnlyX.set _ ⟨w.heap.size, 7, none⟩ (.int .i64 q.ns) (xn0 _ _))))
    obtain ⟨V2, hV2⟩ : ∃ V2, (((V1.setCell ⟨w.heap.size, 4, none⟩ (.slice q.Q4 q.n4 q.c4)).setCell ⟨w.heap.size, 5, none⟩ (.int .i64 (s.seq + 1))).setCell ⟨w.heap.size, 6, none⟩ (.int .i64 q.nb)).setCell ⟨w.heap.size, 7, none⟩ (.int .i64 q.ns) = V2 := ⟨_, rfl⟩
    rw [hV2] at HZ11 HR9
    try rw [hV2]
    clear hV2
    have HYD := Lib.hid ((HZ11.out).later (Below.drew (Below.refl _ _)))
    obtain ⟨old8, ho8, hh8⟩ := HYD.out.h8
    obtain ⟨old9, ho9, hh9⟩ := HYD.out.h9
    refine wp_region_held (S := fun w' => w'.heap[w.heap.size]? = some (.cells #[Value.int .i64 s.first, .int .i64 s.blocks, .slice q.Q1 s.spec.length q.c1, .slice q.Q2 s.staged.length q.c2, .slice q.Q4 q.n4 q.c4, .int .i64 (s.seq + 1), .int .i64 q.nb, .int .i64 q.ns, .slice q.Q4 q.n4 q.c4, .slice (some ⟨bp, op + 1, none⟩) 0 (c5 - 1), .int .i64 ((pn : Int) + 1), .int .i64 (-1), .int .i64 q.nb, .int .i64 q.ns, .bool false] 46 (0, 0)) ∧ w'.heap[w.heap.size + 1]? = some (.cells #[Value.slice y9.A g9.img.length y9.c, .int .i64 g9.pg, .slice y9.B g9.wear.length y9.d, .bool g9.down, .int .i64 g9.fuse, .slice y9.P g9.picks.length y9.r] 37 (0, 0))) (by kernel_rfl) ?_
    refine wpAnyH_take (i := 0) (v := .agg #[Value.int .i64 s.first, .int .i64 s.blocks, .slice q.Q1 s.spec.length q.c1, .slice q.Q2 s.staged.length q.c2, .slice q.Q4 q.n4 q.c4, .int .i64 (s.seq + 1), .int .i64 q.nb, .int .i64 q.ns, .slice q.Q4 q.n4 q.c4, .slice (some ⟨bp, op + 1, none⟩) 0 (c5 - 1), .int .i64 ((pn : Int) + 1), .int .i64 (-1), .int .i64 q.nb, .int .i64 q.ns, .bool false]) rfl (by kernel_rfl) (by kernel_rfl) (by kernel_rfl) (fun _ _ _ h => h) ?_ ⟨HYD.out.h, HYD.out.h4⟩ ?_
    · refine yieldsIf_load_row ?_ 46 _ rfl w.heap.size rfl 46 _ (0, 0) _ (fun _ h => h.1) Try.underlying46 rfl size105
      rfl
    change wpAnyH _ _ _ _ _ _ _ (Act.put _ (some 77) _) _
    simp only [Act.put, List.setIfInBounds_toArray, List.set_cons_zero, List.set_cons_succ]
    refine wpAnyH_take (i := 1) (v := .agg #[Value.slice y9.A g9.img.length y9.c, .int .i64 g9.pg, .slice y9.B g9.wear.length y9.d, .bool g9.down, .int .i64 g9.fuse, .slice y9.P g9.picks.length y9.r]) rfl (by kernel_rfl) (by kernel_rfl) (by kernel_rfl) (fun _ _ _ h => h) ?_ ⟨HYD.out.h, HYD.out.h4⟩ ?_
    · refine yieldsIf_load_row ?_ 37 _ rfl (w.heap.size + 1) rfl 37 _ (0, 0) _ (fun _ h => h.2) Try.underlying37 rfl size60
      rfl
    change wpAnyH _ _ _ _ _ _ _ (Act.put _ (some 78) _) _
    simp only [Act.put, List.setIfInBounds_toArray, List.set_cons_zero, List.set_cons_succ]
    refine wpAnyH_store (i := 2) (by kernel_rfl) rfl (by rfl) rfl 46 _ _ rfl (w.heap.size + 2) #[Value.int .i64 s.first, .int .i64 s.blocks, .slice q.Q1 s.spec.length q.c1, .slice q.Q2 s.staged.length q.c2, .slice q.Q4 q.n4 q.c4, .int .i64 (s.seq + 1), .int .i64 q.nb, .int .i64 q.ns, .slice q.Q4 q.n4 q.c4, .slice (some ⟨bp, op + 1, none⟩) 0 (c5 - 1), .int .i64 ((pn : Int) + 1), .int .i64 (-1), .int .i64 q.nb, .int .i64 q.ns, .bool false] old8 rfl rfl 46 hh8 size105 ho8 (one15 ..) ⟨(setRow_other _ _ _ _ (by omega)).trans HYD.out.h, (setRow_other _ _ _ _ (by omega)).trans HYD.out.h4⟩ ?_
    refine wpAnyH_store (i := 3) (by kernel_rfl) rfl (by rfl) rfl 37 _ _ rfl (w.heap.size + 3) #[Value.slice y9.A g9.img.length y9.c, .int .i64 g9.pg, .slice y9.B g9.wear.length y9.d, .bool g9.down, .int .i64 g9.fuse, .slice y9.P g9.picks.length y9.r] old9 rfl rfl 37 ((setRow_other _ _ _ _ (by omega)).trans hh9) size60 ho9 (one6 ..) ⟨(setRow_other _ _ _ _ (by omega)).trans ((setRow_other _ _ _ _ (by omega)).trans HYD.out.h), (setRow_other _ _ _ _ (by omega)).trans ((setRow_other _ _ _ _ (by omega)).trans HYD.out.h4)⟩ ?_
    refine wpAnyH_take (i := 4) (v := .bool true) rfl (by kernel_rfl) (by kernel_rfl) (by kernel_rfl) (fun _ _ _ h => h) ?_ ⟨(setRow_other _ _ _ _ (by omega)).trans ((setRow_other _ _ _ _ (by omega)).trans HYD.out.h), (setRow_other _ _ _ _ (by omega)).trans ((setRow_other _ _ _ _ (by omega)).trans HYD.out.h4)⟩ ?_
    · refine yieldsIf_assign (x := .const (.bool true)) ?_ rfl
      rfl
    change wpAnyH _ _ _ _ _ _ _ (Act.put _ (some 6) _) _
    simp only [Act.put, List.setIfInBounds_toArray, List.set_cons_zero, List.set_cons_succ]
    refine wpAnyH_take (i := 5) (v := .int .i64 0) rfl (by kernel_rfl) (by kernel_rfl) (by kernel_rfl) (fun _ _ _ h => h) ?_ ⟨(setRow_other _ _ _ _ (by omega)).trans ((setRow_other _ _ _ _ (by omega)).trans HYD.out.h), (setRow_other _ _ _ _ (by omega)).trans ((setRow_other _ _ _ _ (by omega)).trans HYD.out.h4)⟩ ?_
    · refine yieldsIf_assign (x := .const (.int .i64 0)) ?_ rfl
      rfl
    change wpAnyH _ _ _ _ _ _ _ (Act.put _ (some 7) _) _
    simp only [Act.put, List.setIfInBounds_toArray, List.set_cons_zero, List.set_cons_succ]
    refine wpAnyH_done (by kernel_rfl) ?_ _
    go_wp2
    (try simp only [Exit.inBlock, Exit.then])
    refine bodyPost_ret (v := .tuple #[.agg #[Value.int .i64 s.first, .int .i64 s.blocks, .slice q.Q1 s.spec.length q.c1, .slice q.Q2 s.staged.length q.c2, .slice q.Q4 q.n4 q.c4, .int .i64 (s.seq + 1), .int .i64 q.nb, .int .i64 q.ns, .slice q.Q4 q.n4 q.c4, .slice (some ⟨bp, op + 1, none⟩) 0 (c5 - 1), .int .i64 ((pn : Int) + 1), .int .i64 (-1), .int .i64 q.nb, .int .i64 q.ns, .bool false], .agg #[Value.slice y9.A g9.img.length y9.c, .int .i64 g9.pg, .slice y9.B g9.wear.length y9.d, .bool g9.down, .int .i64 g9.fuse, .slice y9.P g9.picks.length y9.r], .bool true, .int .i64 0]) (results_rows (p := 4) (p' := 5) (u := 6) (v := 7) rfl _ _ (w.heap.size + 2) (w.heap.size + 3) 46 37 #[Value.int .i64 s.first, .int .i64 s.blocks, .slice q.Q1 s.spec.length q.c1, .slice q.Q2 s.staged.length q.c2, .slice q.Q4 q.n4 q.c4, .int .i64 (s.seq + 1), .int .i64 q.nb, .int .i64 q.ns, .slice q.Q4 q.n4 q.c4, .slice (some ⟨bp, op + 1, none⟩) 0 (c5 - 1), .int .i64 ((pn : Int) + 1), .int .i64 (-1), .int .i64 q.nb, .int .i64 q.ns, .bool false] #[Value.slice y9.A g9.img.length y9.c, .int .i64 g9.pg, .slice y9.B g9.wear.length y9.d, .bool g9.down, .int .i64 g9.fuse, .slice y9.P g9.picks.length y9.r] _ _ rfl rfl ((setRow_other _ _ _ _ (by omega)).trans (setRow_heap _ _ _ _ _ _ hh8)) (setRow_heap _ _ _ _ _ _ ((setRow_other _ _ _ _ (by omega)).trans hh9)) Try.underlying46 rfl size105 Try.underlying37 rfl size60) rfl ⟨y9, (HR9.out.onlyX (((OnlyX.of_below (Below.drew (Below.refl _ _))).trans (OnlyX.row _ _ _ (xn2 _ _))).trans (OnlyX.row _ _ _ (xn3 _ _)))).ofn, below_setRow (below_setRow HYD.out.below (by omega) _) (by omega) _, ⟨(some ⟨bp, op + 1, none⟩), (c5 - 1), rfl, by unfold maxLen; omega⟩⟩
end Go.Proofs.Ytjdknddnanopaaa
