
/-
  The reference of layer 51: Commit.
-/
import Derived.Test.YtjdknddnanopaaaRW82
namespace Go.Proofs.Ytjdknddnanopaaa
open Go.RowKit
set_option linter.unusedVariables false
set_option linter.unusedSimpArgs false

theorem wpList_value {P : Program} {ops : Array Oper} {rest : List Oper} {o : Oper} {a : Act} {w : World} {Q : Exit → Act → World → Prop} {v : Value} (hg : o.guard = none) (he : (execOp a.eval o).run P w = .ok (.value v) w)
    (h : wpList P ops Q rest (a.put o.dst v) w) : wpList P ops Q (o :: rest) a w :=
  wpList_plain hg fun _ hK => (by unfold Oper.wp; rw [he]; exact hK _ _ h)
theorem wpList_call9 {P : Program} {ops : Array Oper} {rest : List Oper} {o : Oper} {a : Act} {w : World} {Q : Exit → Act → World → Prop} {n : Nat} {al : List Value} (hg : o.guard = none)
    (xl : List Operand) (ats : Array TypeId) (ho : o.op = .call { callee := .value (.func n), args := xl.toArray, argTypes := ats }) (hargs : xl.map a.eval = al) (hent : ∀ (args : Array Value) (w : World), (callFunc n args).run P w = .ok (.enter n args) w)
    (h : Calls P n al.toArray w fun e w' => ∃ v, e = .returned v ∧ wpList P ops Q rest (a.put o.dst v) w') : wpList P ops Q (o :: rest) a w := by
  refine wpList_plain hg fun _ hK => ?_
  have he : (execOp a.eval o).run P w = .ok (.enter n al.toArray) w := by
    obtain ⟨dst, op, ty, pos, after, guard⟩ := o
    simp only at ho
    subst ho
    rw [execOp_call_go, show (#[] ++ xl.toArray.map a.eval ++ #[] : Array Value) = al.toArray by rw [← hargs]; simp]
    exact hent _ _
  unfold Oper.wp
  rw [he, Oper.upon_enter]
  refine h.mono ?_
  rintro e w' ⟨v, rfl, h1⟩
  exact hK _ _ h1
/-- The steps that are left, as the reference's store shows them. -/
def leftR (D : Nat) (w : World) : Nat :=
  (match w.cell? ⟨D, 9, none⟩ with | some (.slice _ n _) => n | _ => 0) + (match w.cell? ⟨D, 11, none⟩ with | some (.int _ k) => (if 0 ≤ k then 1 else 0) | _ => 0)
/-- A commit under way. -/
structure CmR (X : Nat → Prop) (w wr : World) (tot : St × Fl × Int) (n : Nat) (q : Qv) (s : St) (y : Rc) (f : Fl) (p : Nat) : Prop where
  hy : Hy w wr (q.l s).toArray (y.l f).toArray
  rv : RvA (XN X w.heap.size) wr q s p
  rf : RAt (XN X w.heap.size) wr y f
  ok : StOk f s
  b : s.broken = false
  u : s.busy = true
  left : leftS s ≤ n
  run : tot = runS n s f
  pg : f.pg = p
theorem CmR.lf {X : Nat → Prop} {w wr : World} {tot : St × Fl × Int} {n : Nat} {q : Qv} {s : St} {y : Rc} {f : Fl} {p : Nat} (h : CmR X w wr tot n q s y f p) : leftR w.heap.size wr = leftS s := by
  have h9 := h.hy.row 9 (u := .slice q.Q5 q.n5 q.c5) rfl
  have h11 := h.hy.row 11 (u := .int .i64 q.er) rfl
  have hw := h.rv.wr h.b h.u
  unfold leftR leftS
  rw [h9, h11]
  simp only
  have h1 := hw.pl
  rw [List.length_drop] at h1
  rw [← h1, hw.er]
  by_cases he : s.erase = true
  · rw [if_pos he, if_pos he, if_pos (by omega)]
  · rw [if_neg he, if_neg he, if_neg (by decide)]
theorem RvA.xn {X : Nat → Prop} {w w' : World} {q : Qv} {s : St} {p : Nat} (h : RvA X w q s p) (hX : ∀ b, X b → b < w.heap.size) (hb : Below w.heap.size w w') : RvA (XN X w.heap.size) w' q s p := by
  refine (h.newX (Y := XN X w.heap.size) (fun b hb hx => ?_)).below hb
  rcases hx with hx | hx
  · exact hx
  · omega
theorem RvA.weak {X Y : Nat → Prop} {w : World} {q : Qv} {s : St} {p : Nat} (h : RvA X w q s p) (hX : ∀ b, Y b → X b) : RvA Y w q s p := h.newX (fun b _ => hX b)
theorem commitS_no {s : St} {f : Fl} (h : beginE s f ≠ 0) : commitS s f = (beginS s f, f, beginE s f) := by unfold commitS; rw [if_pos h]
theorem commitS_yes {s : St} {f : Fl} (h : beginE s f = 0) : commitS s f = runS 10 (beginS s f) f := by unfold commitS; rw [if_neg (by rw [h]; decide)]
theorem enter68 (args : Array Value) (w : World) : (callFunc 113 args).run Try.prog w = .ok (.enter 113 args) w := by
  go_simp
theorem enter69 (args : Array Value) (w : World) : (callFunc 114 args).run Try.prog w = .ok (.enter 114 args) w := by
  go_simp
theorem step_pg (s : St) (f : Fl) : (stepS s f).2.1.pg = f.pg := (stepS_shape s f).p
set_option maxRecDepth 100000 in
set_option maxHeartbeats 8000000 in
theorem commit_rno {X : Nat → Prop} {w : World} {q : Qv} {s : St} {x : Rc} {g : Fl} (h : RvA X w q s g.pg) (hR : RAt X w x g) (ho : StOk g s) (hX : ∀ b, X b → b < w.heap.size) (hbd : s.broken = g.down) (henc : s.busy = false → encE (s.seq + 1) s.staged.length = 0) (he : beginE s g ≠ 0) :
    Calls Try.prog 74 #[q.v s, x.v g] w fun e w' => ∃ (q' : Qv) (y : Rc), e = .returned (.tuple #[q'.v (commitS s g).1, y.v (commitS s g).2.1, .int .i64 (commitS s g).2.2]) ∧ RvA X w' q' (commitS s g).1 g.pg ∧ RAt X w' y (commitS s g).2.1 ∧ Below w.heap.size w w' := by
  rw [commitS_no he]
  obtain ⟨W, hW⟩ : ∃ W, (((w.alloc (.cells #[Value.int .i64 s.first, .int .i64 s.blocks, .slice q.Q1 s.spec.length q.c1, .slice q.Q2 s.staged.length q.c2, .slice q.Q3 s.saved.length q.c3, .int .i64 s.seq, .int .i64 s.block, .int .i64 s.slot, .slice q.Q4 q.n4 q.c4, .slice q.Q5 q.n5 q.c5, .int .i64 q.pg, .int .i64 q.er, .int .i64 q.nb, .int .i64 q.ns, .bool s.broken] 46)).alloc (.cells #[Value.slice x.A g.img.length x.c, .int .i64 g.pg, .slice x.B g.wear.length x.d, .bool g.down, .int .i64 g.fuse, .slice x.P g.picks.length x.r] 37)).alloc (.cells #[.int .i64 0, .int .i64 0, .slice none 0 0, .slice none 0 0, .slice none 0 0, .int .i64 0, .int .i64 0, .int .i64 0, .slice none 0 0, .slice none 0 0, .int .i64 0, .int .i64 0, .int .i64 0, .int .i64 0, .bool false] 46)).alloc (.cells #[.slice none 0 0, .int .i64 0, .slice none 0 0, .bool false, .int .i64 0, .slice none 0 0] 37) = W := ⟨_, rfl⟩
  have HY := Lib.hid (Hy.new hW.symm ⟨_, rfl, rfl⟩ ⟨_, rfl, rfl⟩)
  have hsz := HY.out.lt
  have HBE := Lib.hid (begin_r (h.xn hX HY.out.below) (hR.xn HY.out.below) ho (XN.lt hX hsz) hbd henc)
  obtain ⟨⟨s1, k1⟩, hb1⟩ : ∃ r, (beginS s g, beginE s g) = r := ⟨_, rfl⟩
  have hbs : beginS s g = s1 := congrArg Prod.fst hb1
  have hbe : beginE s g = k1 := congrArg Prod.snd hb1
  clear hb1
  rw [hbs, hbe] at HBE
  rw [hbs, hbe]
  rw [hbe] at he
  have hk : (k1 != 0) = true := by simpa using he
  have HBW := Lib.hid HY.out.below
  have HRX := Lib.hid hR
  have HXX := Lib.hid hX
  unfold Qv.v Rc.v
  clear h hR ho hX hbd henc hbs hbe he hsz
  go_enter Try.func74, Try.ntmps74
  go_upto_region 1 with (fail)
  try rw [hW]
  clear hW
  refine wp_region_list ?_
  refine wpList_load_row rfl 46 _ rfl w.heap.size rfl 46 #[Value.int .i64 s.first, .int .i64 s.blocks, .slice q.Q1 s.spec.length q.c1, .slice q.Q2 s.staged.length q.c2, .slice q.Q3 s.saved.length q.c3, .int .i64 s.seq, .int .i64 s.block, .int .i64 s.slot, .slice q.Q4 q.n4 q.c4, .slice q.Q5 q.n5 q.c5, .int .i64 q.pg, .int .i64 q.er, .int .i64 q.nb, .int .i64 q.ns, .bool s.broken] (0, 0) _ HY.out.h Try.underlying46 rfl size105 ?_
  refine wpList_load_row rfl 37 _ rfl (w.heap.size + 1) rfl 37 #[Value.slice x.A g.img.length x.c, .int .i64 g.pg, .slice x.B g.wear.length x.d, .bool g.down, .int .i64 g.fuse, .slice x.P g.picks.length x.r] (0, 0) _ HY.out.h4 Try.underlying37 rfl size60 ?_
  simp only [Act.put, List.setIfInBounds_toArray, List.set_cons_zero, List.set_cons_succ]
  refine wpList_call9 (n := 113) (al := [.agg #[Value.int .i64 s.first, .int .i64 s.blocks, .slice q.Q1 s.spec.length q.c1, .slice q.Q2 s.staged.length q.c2, .slice q.Q3 s.saved.length q.c3, .int .i64 s.seq, .int .i64 s.block, .int .i64 s.slot, .slice q.Q4 q.n4 q.c4, .slice q.Q5 q.n5 q.c5, .int .i64 q.pg, .int .i64 q.er, .int .i64 q.nb, .int .i64 q.ns, .bool s.broken], .agg #[Value.slice x.A g.img.length x.c, .int .i64 g.pg, .slice x.B g.wear.length x.d, .bool g.down, .int .i64 g.fuse, .slice x.P g.picks.length x.r]]) rfl _ _ rfl (by rfl) enter68 ?_
  (with_reducible refine HBE.out.mono ?_)
  rintro e w1 ⟨q1, rfl, hv1, hb1⟩
  refine ⟨_, rfl, ?_⟩
  simp only [Act.put, List.setIfInBounds_toArray, List.set_cons_zero, List.set_cons_succ]
  have HY1 := Lib.hid (HY.out.later hb1)
  have HV1 := Lib.hid hv1
  have HF1 := Lib.hid (HRX.out.xn (HBW.out.trans (hb1.mono HBW.out.size)))
  clear hv1 hb1
  refine wpList_value (v := .tuple #[.agg #[Value.int .i64 s1.first, .int .i64 s1.blocks, .slice q1.Q1 s1.spec.length q1.c1, .slice q1.Q2 s1.staged.length q1.c2, .slice q1.Q3 s1.saved.length q1.c3, .int .i64 s1.seq, .int .i64 s1.block, .int .i64 s1.slot, .slice q1.Q4 q1.n4 q1.c4, .slice q1.Q5 q1.n5 q1.c5, .int .i64 q1.pg, .int .i64 q1.er, .int .i64 q1.nb, .int .i64 q1.ns, .bool s1.broken], .int .i64 k1]) rfl (by rfl) ?_
  simp only [Act.put, List.setIfInBounds_toArray, List.set_cons_zero, List.set_cons_succ]
  refine wpList_value (v := .agg #[Value.int .i64 s1.first, .int .i64 s1.blocks, .slice q1.Q1 s1.spec.length q1.c1, .slice q1.Q2 s1.staged.length q1.c2, .slice q1.Q3 s1.saved.length q1.c3, .int .i64 s1.seq, .int .i64 s1.block, .int .i64 s1.slot, .slice q1.Q4 q1.n4 q1.c4, .slice q1.Q5 q1.n5 q1.c5, .int .i64 q1.pg, .int .i64 q1.er, .int .i64 q1.nb, .int .i64 q1.ns, .bool s1.broken]) rfl (by rfl) ?_
  simp only [Act.put, List.setIfInBounds_toArray, List.set_cons_zero, List.set_cons_succ]
  refine wpList_value (v := .int .i64 k1) rfl (by rfl) ?_
  simp only [Act.put, List.setIfInBounds_toArray, List.set_cons_zero, List.set_cons_succ]
  refine wpList_store_row rfl 46 _ _ rfl w.heap.size #[Value.int .i64 s1.first, .int .i64 s1.blocks, .slice q1.Q1 s1.spec.length q1.c1, .slice q1.Q2 s1.staged.length q1.c2, .slice q1.Q3 s1.saved.length q1.c3, .int .i64 s1.seq, .int .i64 s1.block, .int .i64 s1.slot, .slice q1.Q4 q1.n4 q1.c4, .slice q1.Q5 q1.n5 q1.c5, .int .i64 q1.pg, .int .i64 q1.er, .int .i64 q1.nb, .int .i64 q1.ns, .bool s1.broken] rfl rfl 46 #[Value.int .i64 s.first, .int .i64 s.blocks, .slice q.Q1 s.spec.length q.c1, .slice q.Q2 s.staged.length q.c2, .slice q.Q3 s.saved.length q.c3, .int .i64 s.seq, .int .i64 s.block, .int .i64 s.slot, .slice q.Q4 q.n4 q.c4, .slice q.Q5 q.n5 q.c5, .int .i64 q.pg, .int .i64 q.er, .int .i64 q.nb, .int .i64 q.ns, .bool s.broken] HY1.out.h size105 rfl (one15 ..) ?_
  have HY2 := Lib.hid (HY1.out.put #[Value.int .i64 s1.first, .int .i64 s1.blocks, .slice q1.Q1 s1.spec.length q1.c1, .slice q1.Q2 s1.staged.length q1.c2, .slice q1.Q3 s1.saved.length q1.c3, .int .i64 s1.seq, .int .i64 s1.block, .int .i64 s1.slot, .slice q1.Q4 q1.n4 q1.c4, .slice q1.Q5 q1.n5 q1.c5, .int .i64 q1.pg, .int .i64 q1.er, .int .i64 q1.nb, .int .i64 q1.ns, .bool s1.broken])
  have HV2 := Lib.hid (HV1.out.onlyX (OnlyX.row w1 w.heap.size #[Value.int .i64 s1.first, .int .i64 s1.blocks, .slice q1.Q1 s1.spec.length q1.c1, .slice q1.Q2 s1.staged.length q1.c2, .slice q1.Q3 s1.saved.length q1.c3, .int .i64 s1.seq, .int .i64 s1.block, .int .i64 s1.slot, .slice q1.Q4 q1.n4 q1.c4, .slice q1.Q5 q1.n5 q1.c5, .int .i64 q1.pg, .int .i64 q1.er, .int .i64 q1.nb, .int .i64 q1.ns, .bool s1.broken] (xn0 _ _)))
  have HF2 := Lib.hid (HF1.out.onlyX (OnlyX.row w1 w.heap.size #[Value.int .i64 s1.first, .int .i64 s1.blocks, .slice q1.Q1 s1.spec.length q1.c1, .slice q1.Q2 s1.staged.length q1.c2, .slice q1.Q3 s1.saved.length q1.c3, .int .i64 s1.seq, .int .i64 s1.block, .int .i64 s1.slot, .slice q1.Q4 q1.n4 q1.c4, .slice q1.Q5 q1.n5 q1.c5, .int .i64 q1.pg, .int .i64 q1.er, .int .i64 q1.nb, .int .i64 q1.ns, .bool s1.broken] (xn0 X w.heap.size)))
  obtain ⟨W2, hW2⟩ : ∃ W2, w1.setRow w.heap.size #[Value.int .i64 s1.first, .int .i64 s1.blocks, .slice q1.Q1 s1.spec.length q1.c1, .slice q1.Q2 s1.staged.length q1.c2, .slice q1.Q3 s1.saved.length q1.c3, .int .i64 s1.seq, .int .i64 s1.block, .int .i64 s1.slot, .slice q1.Q4 q1.n4 q1.c4, .slice q1.Q5 q1.n5 q1.c5, .int .i64 q1.pg, .int .i64 q1.er, .int .i64 q1.nb, .int .i64 q1.ns, .bool s1.broken] = W2 := ⟨_, rfl⟩
  rw [hW2] at HY2 HV2 HF2
  rw [hW2]
  clear hW2
  go_upto_region 3 with (fail)
  have HYD := Lib.hid ((HY2.out).later (Below.drew (Below.refl _ _)))
  obtain ⟨old8, ho8, hh8⟩ := HYD.out.h8
  obtain ⟨old9, ho9, hh9⟩ := HYD.out.h9
  refine wp_region_held (S := fun w' => w'.heap[w.heap.size]? = some (.cells #[Value.int .i64 s1.first, .int .i64 s1.blocks, .slice q1.Q1 s1.spec.length q1.c1, .slice q1.Q2 s1.staged.length q1.c2, .slice q1.Q3 s1.saved.length q1.c3, .int .i64 s1.seq, .int .i64 s1.block, .int .i64 s1.slot, .slice q1.Q4 q1.n4 q1.c4, .slice q1.Q5 q1.n5 q1.c5, .int .i64 q1.pg, .int .i64 q1.er, .int .i64 q1.nb, .int .i64 q1.ns, .bool s1.broken] 46 (0, 0)) ∧ w'.heap[w.heap.size + 1]? = some (.cells #[Value.slice x.A g.img.length x.c, .int .i64 g.pg, .slice x.B g.wear.length x.d, .bool g.down, .int .i64 g.fuse, .slice x.P g.picks.length x.r] 37 (0, 0))) (by kernel_rfl) ?_
  refine wpAnyH_take (i := 0) (v := .agg #[Value.int .i64 s1.first, .int .i64 s1.blocks, .slice q1.Q1 s1.spec.length q1.c1, .slice q1.Q2 s1.staged.length q1.c2, .slice q1.Q3 s1.saved.length q1.c3, .int .i64 s1.seq, .int .i64 s1.block, .int .i64 s1.slot, .slice q1.Q4 q1.n4 q1.c4, .slice q1.Q5 q1.n5 q1.c5, .int .i64 q1.pg, .int .i64 q1.er, .int .i64 q1.nb, .int .i64 q1.ns, .bool s1.broken]) rfl (by kernel_rfl) (by kernel_rfl) (by kernel_rfl) (fun _ _ _ h => h) ?_ ⟨HYD.out.h, HYD.out.h4⟩ ?_
  · refine yieldsIf_load_row ?_ 46 _ rfl w.heap.size rfl 46 _ (0, 0) _ (fun _ h => h.1) Try.underlying46 rfl size105
    rfl
  change wpAnyH _ _ _ _ _ _ _ (Act.put _ (some 17) _) _
  simp only [Act.put, List.setIfInBounds_toArray, List.set_cons_zero, List.set_cons_succ]
  refine wpAnyH_take (i := 1) (v := .agg #[Value.slice x.A g.img.length x.c, .int .i64 g.pg, .slice x.B g.wear.length x.d, .bool g.down, .int .i64 g.fuse, .slice x.P g.picks.length x.r]) rfl (by kernel_rfl) (by kernel_rfl) (by kernel_rfl) (fun _ _ _ h => h) ?_ ⟨HYD.out.h, HYD.out.h4⟩ ?_
  · refine yieldsIf_load_row ?_ 37 _ rfl (w.heap.size + 1) rfl 37 _ (0, 0) _ (fun _ h => h.2) Try.underlying37 rfl size60
    rfl
  change wpAnyH _ _ _ _ _ _ _ (Act.put _ (some 18) _) _
  simp only [Act.put, List.setIfInBounds_toArray, List.set_cons_zero, List.set_cons_succ]
  refine wpAnyH_take (i := 2) (v := .int .i64 k1) rfl (by kernel_rfl) (by kernel_rfl) (by kernel_rfl) (fun _ _ _ h => h) ?_ ⟨HYD.out.h, HYD.out.h4⟩ ?_
  · refine yieldsIf_move (x := .tmp 7) ?_ rfl
    rfl
  change wpAnyH _ _ _ _ _ _ _ (Act.put _ (some 19) _) _
  simp only [Act.put, List.setIfInBounds_toArray, List.set_cons_zero, List.set_cons_succ]
  refine wpAnyH_store (i := 3) (by kernel_rfl) rfl (by rfl) rfl 46 _ _ rfl (w.heap.size + 2) #[Value.int .i64 s1.first, .int .i64 s1.blocks, .slice q1.Q1 s1.spec.length q1.c1, .slice q1.Q2 s1.staged.length q1.c2, .slice q1.Q3 s1.saved.length q1.c3, .int .i64 s1.seq, .int .i64 s1.block, .int .i64 s1.slot, .slice q1.Q4 q1.n4 q1.c4, .slice q1.Q5 q1.n5 q1.c5, .int .i64 q1.pg, .int .i64 q1.er, .int .i64 q1.nb, .int .i64 q1.ns, .bool s1.broken] old8 rfl rfl 46 hh8 size105 ho8 (one15 ..) ⟨(setRow_other _ _ _ _ (by omega)).trans HYD.out.h, (setRow_other _ _ _ _ (by omega)).trans HYD.out.h4⟩ ?_
  refine wpAnyH_store (i := 4) (by kernel_rfl) rfl (by rfl) rfl 37 _ _ rfl (w.heap.size + 3) #[Value.slice x.A g.img.length x.c, .int .i64 g.pg, .slice x.B g.wear.length x.d, .bool g.down, .int .i64 g.fuse, .slice x.P g.picks.length x.r] old9 rfl rfl 37 ((setRow_other _ _ _ _ (by omega)).trans hh9) size60 ho9 (one6 ..) ⟨(setRow_other _ _ _ _ (by omega)).trans ((setRow_other _ _ _ _ (by omega)).trans HYD.out.h), (setRow_other _ _ _ _ (by omega)).trans ((setRow_other _ _ _ _ (by omega)).trans HYD.out.h4)⟩ ?_
  refine wpAnyH_take (i := 5) (v := .int .i64 k1) rfl (by kernel_rfl) (by kernel_rfl) (by kernel_rfl) (fun _ _ _ h => h) ?_ ⟨(setRow_other _ _ _ _ (by omega)).trans ((setRow_other _ _ _ _ (by omega)).trans HYD.out.h), (setRow_other _ _ _ _ (by omega)).trans ((setRow_other _ _ _ _ (by omega)).trans HYD.out.h4)⟩ ?_
  · refine yieldsIf_assign (x := .tmp 19) ?_ rfl
    rfl
  change wpAnyH _ _ _ _ _ _ _ (Act.put _ (some 6) _) _
  simp only [Act.put, List.setIfInBounds_toArray, List.set_cons_zero, List.set_cons_succ]
  refine wpAnyH_done (by kernel_rfl) ?_ _
  go_wp2
  (try simp only [Exit.inBlock, Exit.then])
  refine bodyPost_ret (v := .tuple #[.agg #[Value.int .i64 s1.first, .int .i64 s1.blocks, .slice q1.Q1 s1.spec.length q1.c1, .slice q1.Q2 s1.staged.length q1.c2, .slice q1.Q3 s1.saved.length q1.c3, .int .i64 s1.seq, .int .i64 s1.block, .int .i64 s1.slot, .slice q1.Q4 q1.n4 q1.c4, .slice q1.Q5 q1.n5 q1.c5, .int .i64 q1.pg, .int .i64 q1.er, .int .i64 q1.nb, .int .i64 q1.ns, .bool s1.broken], .agg #[Value.slice x.A g.img.length x.c, .int .i64 g.pg, .slice x.B g.wear.length x.d, .bool g.down, .int .i64 g.fuse, .slice x.P g.picks.length x.r], .int .i64 k1]) (results_rows3 (p := 4) (p' := 5) (u := 6) rfl _ _ (w.heap.size + 2) (w.heap.size + 3) 46 37 #[Value.int .i64 s1.first, .int .i64 s1.blocks, .slice q1.Q1 s1.spec.length q1.c1, .slice q1.Q2 s1.staged.length q1.c2, .slice q1.Q3 s1.saved.length q1.c3, .int .i64 s1.seq, .int .i64 s1.block, .int .i64 s1.slot, .slice q1.Q4 q1.n4 q1.c4, .slice q1.Q5 q1.n5 q1.c5, .int .i64 q1.pg, .int .i64 q1.er, .int .i64 q1.nb, .int .i64 q1.ns, .bool s1.broken] #[Value.slice x.A g.img.length x.c, .int .i64 g.pg, .slice x.B g.wear.length x.d, .bool g.down, .int .i64 g.fuse, .slice x.P g.picks.length x.r] _ _ rfl rfl ((setRow_other _ _ _ _ (by omega)).trans (setRow_heap _ _ _ _ _ _ hh8)) (setRow_heap _ _ _ _ _ _ ((setRow_other _ _ _ _ (by omega)).trans hh9)) Try.underlying46 rfl size105 Try.underlying37 rfl size60) rfl ⟨q1, x, rfl, (HV2.out.onlyX (((OnlyX.of_below (Below.drew (Below.refl _ _))).trans (OnlyX.row _ _ _ (xn2 _ _))).trans (OnlyX.row _ _ _ (xn3 _ _)))).weak (fun _ => .inl), (HF2.out.onlyX (((OnlyX.of_below (Below.drew (Below.refl _ _))).trans (OnlyX.row _ _ _ (xn2 _ _))).trans (OnlyX.row _ _ _ (xn3 _ _)))).ofn, below_setRow (below_setRow HYD.out.below (by omega) _) (by omega) _⟩
set_option maxRecDepth 100000 in
set_option maxHeartbeats 8000000 in
theorem commit_rgo {X : Nat → Prop} {w : World} {q : Qv} {s : St} {x : Rc} {g : Fl} (h : RvA X w q s g.pg) (hR : RAt X w x g) (ho : StOk g s) (hX : ∀ b, X b → b < w.heap.size) (hbd : s.broken = g.down) (henc : s.busy = false → encE (s.seq + 1) s.staged.length = 0) (he : beginE s g = 0) :
    Calls Try.prog 74 #[q.v s, x.v g] w fun e w' => ∃ (q' : Qv) (y : Rc), e = .returned (.tuple #[q'.v (commitS s g).1, y.v (commitS s g).2.1, .int .i64 (commitS s g).2.2]) ∧ RvA X w' q' (commitS s g).1 g.pg ∧ RAt X w' y (commitS s g).2.1 ∧ Below w.heap.size w w' := by
  have hrun := commitS_yes he
  obtain ⟨tot, htot⟩ : ∃ r, commitS s g = r := ⟨_, rfl⟩
  rw [htot] at hrun ⊢
  have hbf := begin_fields he
  have hbl := begin_left ho he
  have hok1 := beginS_ok (f := g) ho
  have hbr1 : (beginS s g).broken = false := by
    obtain ⟨a, b, _⟩ := beginE_zero he
    unfold beginS
    rw [if_pos he]
    have e : (placeS (brkS s g) g).broken = (brkS s g).broken := (placeS_same (brkS s g) g).2.2.2.2.2.2.2.2
    show (placeS (brkS s g) g).broken = false
    rw [e]
    unfold brkS
    rw [a, b]
    rfl
  obtain ⟨W, hW⟩ : ∃ W, (((w.alloc (.cells #[Value.int .i64 s.first, .int .i64 s.blocks, .slice q.Q1 s.spec.length q.c1, .slice q.Q2 s.staged.length q.c2, .slice q.Q3 s.saved.length q.c3, .int .i64 s.seq, .int .i64 s.block, .int .i64 s.slot, .slice q.Q4 q.n4 q.c4, .slice q.Q5 q.n5 q.c5, .int .i64 q.pg, .int .i64 q.er, .int .i64 q.nb, .int .i64 q.ns, .bool s.broken] 46)).alloc (.cells #[Value.slice x.A g.img.length x.c, .int .i64 g.pg, .slice x.B g.wear.length x.d, .bool g.down, .int .i64 g.fuse, .slice x.P g.picks.length x.r] 37)).alloc (.cells #[.int .i64 0, .int .i64 0, .slice none 0 0, .slice none 0 0, .slice none 0 0, .int .i64 0, .int .i64 0, .int .i64 0, .slice none 0 0, .slice none 0 0, .int .i64 0, .int .i64 0, .int .i64 0, .int .i64 0, .bool false] 46)).alloc (.cells #[.slice none 0 0, .int .i64 0, .slice none 0 0, .bool false, .int .i64 0, .slice none 0 0] 37) = W := ⟨_, rfl⟩
  have HY := Lib.hid (Hy.new hW.symm ⟨_, rfl, rfl⟩ ⟨_, rfl, rfl⟩)
  have hsz := HY.out.lt
  have HBE := Lib.hid (begin_r (h.xn hX HY.out.below) (hR.xn HY.out.below) ho (XN.lt hX hsz) hbd henc)
  obtain ⟨⟨s1, k1⟩, hb1⟩ : ∃ r, (beginS s g, beginE s g) = r := ⟨_, rfl⟩
  have hbs : beginS s g = s1 := congrArg Prod.fst hb1
  have hbe : beginE s g = k1 := congrArg Prod.snd hb1
  clear hb1
  rw [hbs, hbe] at HBE
  rw [hbs] at hrun hbf hbl hok1 hbr1
  rw [hbe] at he
  subst he
  have HBW := Lib.hid HY.out.below
  have HRX := Lib.hid hR
  have HXX := Lib.hid hX
  have HRUN := Lib.hid hrun
  have HBF := Lib.hid hbf.1
  have HLB := Lib.hid hbl
  have HOK1 := Lib.hid hok1
  have HBR1 := Lib.hid hbr1
  unfold Qv.v Rc.v
  clear h hR ho hX hbd henc hbs hbe hsz hrun hbf hbl hok1 hbr1 htot
  go_enter Try.func74, Try.ntmps74
  go_upto_region 1 with (fail)
  try rw [hW]
  clear hW
  refine wp_region_list ?_
  refine wpList_load_row rfl 46 _ rfl w.heap.size rfl 46 #[Value.int .i64 s.first, .int .i64 s.blocks, .slice q.Q1 s.spec.length q.c1, .slice q.Q2 s.staged.length q.c2, .slice q.Q3 s.saved.length q.c3, .int .i64 s.seq, .int .i64 s.block, .int .i64 s.slot, .slice q.Q4 q.n4 q.c4, .slice q.Q5 q.n5 q.c5, .int .i64 q.pg, .int .i64 q.er, .int .i64 q.nb, .int .i64 q.ns, .bool s.broken] (0, 0) _ HY.out.h Try.underlying46 rfl size105 ?_
  refine wpList_load_row rfl 37 _ rfl (w.heap.size + 1) rfl 37 #[Value.slice x.A g.img.length x.c, .int .i64 g.pg, .slice x.B g.wear.length x.d, .bool g.down, .int .i64 g.fuse, .slice x.P g.picks.length x.r] (0, 0) _ HY.out.h4 Try.underlying37 rfl size60 ?_
  simp only [Act.put, List.setIfInBounds_toArray, List.set_cons_zero, List.set_cons_succ]
  refine wpList_call9 (n := 113) (al := [.agg #[Value.int .i64 s.first, .int .i64 s.blocks, .slice q.Q1 s.spec.length q.c1, .slice q.Q2 s.staged.length q.c2, .slice q.Q3 s.saved.length q.c3, .int .i64 s.seq, .int .i64 s.block, .int .i64 s.slot, .slice q.Q4 q.n4 q.c4, .slice q.Q5 q.n5 q.c5, .int .i64 q.pg, .int .i64 q.er, .int .i64 q.nb, .int .i64 q.ns, .bool s.broken], .agg #[Value.slice x.A g.img.length x.c, .int .i64 g.pg, .slice x.B g.wear.length x.d, .bool g.down, .int .i64 g.fuse, .slice x.P g.picks.length x.r]]) rfl _ _ rfl (by rfl) enter68 ?_
  (with_reducible refine HBE.out.mono ?_)
  rintro e w1 ⟨q1, rfl, hv1, hb1⟩
  refine ⟨_, rfl, ?_⟩
  simp only [Act.put, List.setIfInBounds_toArray, List.set_cons_zero, List.set_cons_succ]
  have HY1 := Lib.hid (HY.out.later hb1)
  have HV1 := Lib.hid hv1
  have HF1 := Lib.hid (HRX.out.xn (HBW.out.trans (hb1.mono HBW.out.size)))
  clear hv1 hb1
  refine wpList_value (v := .tuple #[.agg #[Value.int .i64 s1.first, .int .i64 s1.blocks, .slice q1.Q1 s1.spec.length q1.c1, .slice q1.Q2 s1.staged.length q1.c2, .slice q1.Q3 s1.saved.length q1.c3, .int .i64 s1.seq, .int .i64 s1.block, .int .i64 s1.slot, .slice q1.Q4 q1.n4 q1.c4, .slice q1.Q5 q1.n5 q1.c5, .int .i64 q1.pg, .int .i64 q1.er, .int .i64 q1.nb, .int .i64 q1.ns, .bool s1.broken], .int .i64 0]) rfl (by rfl) ?_
  simp only [Act.put, List.setIfInBounds_toArray, List.set_cons_zero, List.set_cons_succ]
  refine wpList_value (v := .agg #[Value.int .i64 s1.first, .int .i64 s1.blocks, .slice q1.Q1 s1.spec.length q1.c1, .slice q1.Q2 s1.staged.length q1.c2, .slice q1.Q3 s1.saved.length q1.c3, .int .i64 s1.seq, .int .i64 s1.block, .int .i64 s1.slot, .slice q1.Q4 q1.n4 q1.c4, .slice q1.Q5 q1.n5 q1.c5, .int .i64 q1.pg, .int .i64 q1.er, .int .i64 q1.nb, .int .i64 q1.ns, .bool s1.broken]) rfl (by rfl) ?_
  simp only [Act.put, List.setIfInBounds_toArray, List.set_cons_zero, List.set_cons_succ]
  refine wpList_value (v := .int .i64 0) rfl (by rfl) ?_
  simp only [Act.put, List.setIfInBounds_toArray, List.set_cons_zero, List.set_cons_succ]
  refine wpList_store_row rfl 46 _ _ rfl w.heap.size #[Value.int .i64 s1.first, .int .i64 s1.blocks, .slice q1.Q1 s1.spec.length q1.c1, .slice q1.Q2 s1.staged.length q1.c2, .slice q1.Q3 s1.saved.length q1.c3, .int .i64 s1.seq, .int .i64 s1.block, .int .i64 s1.slot, .slice q1.Q4 q1.n4 q1.c4, .slice q1.Q5 q1.n5 q1.c5, .int .i64 q1.pg, .int .i64 q1.er, .int .i64 q1.nb, .int .i64 q1.ns, .bool s1.broken] rfl rfl 46 #[Value.int .i64 s.first, .int .i64 s.blocks, .slice q.Q1 s.spec.length q.c1, .slice q.Q2 s.staged.length q.c2, .slice q.Q3 s.saved.length q.c3, .int .i64 s.seq, .int .i64 s.block, .int .i64 s.slot, .slice q.Q4 q.n4 q.c4, .slice q.Q5 q.n5 q.c5, .int .i64 q.pg, .int .i64 q.er, .int .i64 q.nb, .int .i64 q.ns, .bool s.broken] HY1.out.h size105 rfl (one15 ..) ?_
  have HY2 := Lib.hid (HY1.out.put #[Value.int .i64 s1.first, .int .i64 s1.blocks, .slice q1.Q1 s1.spec.length q1.c1, .slice q1.Q2 s1.staged.length q1.c2, .slice q1.Q3 s1.saved.length q1.c3, .int .i64 s1.seq, .int .i64 s1.block, .int .i64 s1.slot, .slice q1.Q4 q1.n4 q1.c4, .slice q1.Q5 q1.n5 q1.c5, .int .i64 q1.pg, .int .i64 q1.er, .int .i64 q1.nb, .int .i64 q1.ns, .bool s1.broken])
  have HV2 := Lib.hid (HV1.out.onlyX (OnlyX.row w1 w.heap.size #[Value.int .i64 s1.first, .int .i64 s1.blocks, .slice q1.Q1 s1.spec.length q1.c1, .slice q1.Q2 s1.staged.length q1.c2, .slice q1.Q3 s1.saved.length q1.c3, .int .i64 s1.seq, .int .i64 s1.block, .int .i64 s1.slot, .slice q1.Q4 q1.n4 q1.c4, .slice q1.Q5 q1.n5 q1.c5, .int .i64 q1.pg, .int .i64 q1.er, .int .i64 q1.nb, .int .i64 q1.ns, .bool s1.broken] (xn0 _ _)))
  have HF2 := Lib.hid (HF1.out.onlyX (OnlyX.row w1 w.heap.size #[Value.int .i64 s1.first, .int .i64 s1.blocks, .slice q1.Q1 s1.spec.length q1.c1, .slice q1.Q2 s1.staged.length q1.c2, .slice q1.Q3 s1.saved.length q1.c3, .int .i64 s1.seq, .int .i64 s1.block, .int .i64 s1.slot, .slice q1.Q4 q1.n4 q1.c4, .slice q1.Q5 q1.n5 q1.c5, .int .i64 q1.pg, .int .i64 q1.er, .int .i64 q1.nb, .int .i64 q1.ns, .bool s1.broken] (xn0 X w.heap.size)))
  obtain ⟨W2, hW2⟩ : ∃ W2, w1.setRow w.heap.size #[Value.int .i64 s1.first, .int .i64 s1.blocks, .slice q1.Q1 s1.spec.length q1.c1, .slice q1.Q2 s1.staged.length q1.c2, .slice q1.Q3 s1.saved.length q1.c3, .int .i64 s1.seq, .int .i64 s1.block, .int .i64 s1.slot, .slice q1.Q4 q1.n4 q1.c4, .slice q1.Q5 q1.n5 q1.c5, .int .i64 q1.pg, .int .i64 q1.er, .int .i64 q1.nb, .int .i64 q1.ns, .bool s1.broken] = W2 := ⟨_, rfl⟩
  rw [hW2] at HY2 HV2 HF2
  rw [hW2]
  clear hW2
  have HC : Hid (CmR X w W2 tot 10 q1 s1 x g g.pg) := ⟨HY2.out, HV2.out, HF2.out, HOK1.out, HBR1.out, HBF.out, HLB.out, HRUN.out, rfl⟩
  clear HY1 HV1 HF1 HY2 HV2 HF2 HOK1 HBR1 HBF HLB HRUN
  obtain ⟨p, hp⟩ : ∃ p, g.pg = p := ⟨_, rfl⟩
  rw [hp] at HC
  go_upto_region 4 with (fail)
  go_loopw [7, 8] (fun _ _ wr => ∃ n q' s' y' f', CmR X w wr tot n q' s' y' f' p) (fun _ _ wr => leftR w.heap.size wr)
  case atStart => exact ⟨_, _, _, _, _, HC.out⟩
  case round =>
    obtain ⟨n, q2, s2, y2, f2, hC⟩ := hrel
    have HCM := Lib.hid hC
    have HLF := Lib.hid hC.lf
    have hn : 1 ≤ n := Nat.le_trans (left_pos hC.ok hC.b hC.u) hC.left
    obtain ⟨m, rfl⟩ : ∃ m, n = m + 1 := ⟨n - 1, by omega⟩
    have HST := Lib.hid (step_r (by rw [hC.pg]; exact hC.rv) hC.rf hC.ok (XN.lt HXX.out hC.hy.lt))
    rw [hC.pg] at HST
    have HRUN := Lib.hid hC.run
    rw [runS_succ] at HRUN
    have HLS := Lib.hid (left_step hC.ok hC.b hC.u)
    have HOK := Lib.hid (stepS_ok hC.ok)
    have HPG : Hid ((stepS s2 f2).2.1.pg = p) := (step_pg s2 f2).trans hC.pg
    have HMB : Hid (leftS s2 ≤ m + 1) := hC.left
    obtain ⟨r, hr⟩ : ∃ r, stepS s2 f2 = r := ⟨_, rfl⟩
    rw [hr] at HST HRUN HLS HOK HPG
    obtain ⟨s3, f3, rd, re⟩ := r
    have HR9 := Lib.hid hr
    simp only at HST HRUN HLS HOK HPG
    clear hr hC hn
    go_upto_region 5 with (fail)
    refine wp_region_list ?_
    refine wpList_load_row rfl 46 _ rfl w.heap.size rfl 46 #[Value.int .i64 s2.first, .int .i64 s2.blocks, .slice q2.Q1 s2.spec.length q2.c1, .slice q2.Q2 s2.staged.length q2.c2, .slice q2.Q3 s2.saved.length q2.c3, .int .i64 s2.seq, .int .i64 s2.block, .int .i64 s2.slot, .slice q2.Q4 q2.n4 q2.c4, .slice q2.Q5 q2.n5 q2.c5, .int .i64 q2.pg, .int .i64 q2.er, .int .i64 q2.nb, .int .i64 q2.ns, .bool s2.broken] (0, 0) _ HCM.out.hy.h Try.underlying46 rfl size105 ?_
    refine wpList_load_row rfl 37 _ rfl (w.heap.size + 1) rfl 37 #[Value.slice y2.A f2.img.length y2.c, .int .i64 f2.pg, .slice y2.B f2.wear.length y2.d, .bool f2.down, .int .i64 f2.fuse, .slice y2.P f2.picks.length y2.r] (0, 0) _ HCM.out.hy.h4 Try.underlying37 rfl size60 ?_
    simp only [Act.put, List.setIfInBounds_toArray, List.set_cons_zero, List.set_cons_succ]
    refine wpList_call9 (n := 114) (al := [.agg #[Value.int .i64 s2.first, .int .i64 s2.blocks, .slice q2.Q1 s2.spec.length q2.c1, .slice q2.Q2 s2.staged.length q2.c2, .slice q2.Q3 s2.saved.length q2.c3, .int .i64 s2.seq, .int .i64 s2.block, .int .i64 s2.slot, .slice q2.Q4 q2.n4 q2.c4, .slice q2.Q5 q2.n5 q2.c5, .int .i64 q2.pg, .int .i64 q2.er, .int .i64 q2.nb, .int .i64 q2.ns, .bool s2.broken], .agg #[Value.slice y2.A f2.img.length y2.c, .int .i64 f2.pg, .slice y2.B f2.wear.length y2.d, .bool f2.down, .int .i64 f2.fuse, .slice y2.P f2.picks.length y2.r]]) rfl _ _ rfl (by rfl) enter69 ?_
    (with_reducible refine HST.out.mono ?_)
    rintro e w9 ⟨q3, y3, rfl, hv9, hf9, hb9⟩
    refine ⟨_, rfl, ?_⟩
    simp only [Act.put, List.setIfInBounds_toArray, List.set_cons_zero, List.set_cons_succ]
    have HY9 := Lib.hid (HCM.out.hy.later hb9)
    have HV9 := Lib.hid hv9
    have HF9 := Lib.hid hf9
    clear hv9 hf9 hb9
    refine wpList_value (v := .tuple #[.agg #[Value.int .i64 s3.first, .int .i64 s3.blocks, .slice q3.Q1 s3.spec.length q3.c1, .slice q3.Q2 s3.staged.length q3.c2, .slice q3.Q3 s3.saved.length q3.c3, .int .i64 s3.seq, .int .i64 s3.block, .int .i64 s3.slot, .slice q3.Q4 q3.n4 q3.c4, .slice q3.Q5 q3.n5 q3.c5, .int .i64 q3.pg, .int .i64 q3.er, .int .i64 q3.nb, .int .i64 q3.ns, .bool s3.broken], .agg #[Value.slice y3.A f3.img.length y3.c, .int .i64 f3.pg, .slice y3.B f3.wear.length y3.d, .bool f3.down, .int .i64 f3.fuse, .slice y3.P f3.picks.length y3.r], .bool rd, .int .i64 re]) rfl (by rfl) ?_
    simp only [Act.put, List.setIfInBounds_toArray, List.set_cons_zero, List.set_cons_succ]
    refine wpList_value (v := .agg #[Value.int .i64 s3.first, .int .i64 s3.blocks, .slice q3.Q1 s3.spec.length q3.c1, .slice q3.Q2 s3.staged.length q3.c2, .slice q3.Q3 s3.saved.length q3.c3, .int .i64 s3.seq, .int .i64 s3.block, .int .i64 s3.slot, .slice q3.Q4 q3.n4 q3.c4, .slice q3.Q5 q3.n5 q3.c5, .int .i64 q3.pg, .int .i64 q3.er, .int .i64 q3.nb, .int .i64 q3.ns, .bool s3.broken]) rfl (by rfl) ?_
    simp only [Act.put, List.setIfInBounds_toArray, List.set_cons_zero, List.set_cons_succ]
    refine wpList_value (v := .agg #[Value.slice y3.A f3.img.length y3.c, .int .i64 f3.pg, .slice y3.B f3.wear.length y3.d, .bool f3.down, .int .i64 f3.fuse, .slice y3.P f3.picks.length y3.r]) rfl (by rfl) ?_
    simp only [Act.put, List.setIfInBounds_toArray, List.set_cons_zero, List.set_cons_succ]
    refine wpList_value (v := .bool rd) rfl (by rfl) ?_
    simp only [Act.put, List.setIfInBounds_toArray, List.set_cons_zero, List.set_cons_succ]
    refine wpList_value (v := .int .i64 re) rfl (by rfl) ?_
    simp only [Act.put, List.setIfInBounds_toArray, List.set_cons_zero, List.set_cons_succ]
    refine wpList_store_row rfl 46 _ _ rfl w.heap.size #[Value.int .i64 s3.first, .int .i64 s3.blocks, .slice q3.Q1 s3.spec.length q3.c1, .slice q3.Q2 s3.staged.length q3.c2, .slice q3.Q3 s3.saved.length q3.c3, .int .i64 s3.seq, .int .i64 s3.block, .int .i64 s3.slot, .slice q3.Q4 q3.n4 q3.c4, .slice q3.Q5 q3.n5 q3.c5, .int .i64 q3.pg, .int .i64 q3.er, .int .i64 q3.nb, .int .i64 q3.ns, .bool s3.broken] rfl rfl 46 #[Value.int .i64 s2.first, .int .i64 s2.blocks, .slice q2.Q1 s2.spec.length q2.c1, .slice q2.Q2 s2.staged.length q2.c2, .slice q2.Q3 s2.saved.length q2.c3, .int .i64 s2.seq, .int .i64 s2.block, .int .i64 s2.slot, .slice q2.Q4 q2.n4 q2.c4, .slice q2.Q5 q2.n5 q2.c5, .int .i64 q2.pg, .int .i64 q2.er, .int .i64 q2.nb, .int .i64 q2.ns, .bool s2.broken] HY9.out.h size105 rfl (one15 ..) ?_
    refine wpList_store_row rfl 37 _ _ rfl (w.heap.size + 1) #[Value.slice y3.A f3.img.length y3.c, .int .i64 f3.pg, .slice y3.B f3.wear.length y3.d, .bool f3.down, .int .i64 f3.fuse, .slice y3.P f3.picks.length y3.r] rfl rfl 37 #[Value.slice y2.A f2.img.length y2.c, .int .i64 f2.pg, .slice y2.B f2.wear.length y2.d, .bool f2.down, .int .i64 f2.fuse, .slice y2.P f2.picks.length y2.r] ((setRow_other _ _ _ _ (by omega)).trans HY9.out.h4) size60 rfl (one6 ..) ?_
    have HYA := Lib.hid ((HY9.out.put #[Value.int .i64 s3.first, .int .i64 s3.blocks, .slice q3.Q1 s3.spec.length q3.c1, .slice q3.Q2 s3.staged.length q3.c2, .slice q3.Q3 s3.saved.length q3.c3, .int .i64 s3.seq, .int .i64 s3.block, .int .i64 s3.slot, .slice q3.Q4 q3.n4 q3.c4, .slice q3.Q5 q3.n5 q3.c5, .int .i64 q3.pg, .int .i64 q3.er, .int .i64 q3.nb, .int .i64 q3.ns, .bool s3.broken]).put4 #[Value.slice y3.A f3.img.length y3.c, .int .i64 f3.pg, .slice y3.B f3.wear.length y3.d, .bool f3.down, .int .i64 f3.fuse, .slice y3.P f3.picks.length y3.r])
    have HVA := Lib.hid (HV9.out.onlyX ((OnlyX.row w9 w.heap.size #[Value.int .i64 s3.first, .int .i64 s3.blocks, .slice q3.Q1 s3.spec.length q3.c1, .slice q3.Q2 s3.staged.length q3.c2, .slice q3.Q3 s3.saved.length q3.c3, .int .i64 s3.seq, .int .i64 s3.block, .int .i64 s3.slot, .slice q3.Q4 q3.n4 q3.c4, .slice q3.Q5 q3.n5 q3.c5, .int .i64 q3.pg, .int .i64 q3.er, .int .i64 q3.nb, .int .i64 q3.ns, .bool s3.broken] (xn0 _ _)).trans (OnlyX.row _ (w.heap.size + 1) #[Value.slice y3.A f3.img.length y3.c, .int .i64 f3.pg, .slice y3.B f3.wear.length y3.d, .bool f3.down, .int .i64 f3.fuse, .slice y3.P f3.picks.length y3.r] (xn1 _ _))))
    have HFA := Lib.hid (HF9.out.onlyX ((OnlyX.row w9 w.heap.size #[Value.int .i64 s3.first, .int .i64 s3.blocks, .slice q3.Q1 s3.spec.length q3.c1, .slice q3.Q2 s3.staged.length q3.c2, .slice q3.Q3 s3.saved.length q3.c3, .int .i64 s3.seq, .int .i64 s3.block, .int .i64 s3.slot, .slice q3.Q4 q3.n4 q3.c4, .slice q3.Q5 q3.n5 q3.c5, .int .i64 q3.pg, .int .i64 q3.er, .int .i64 q3.nb, .int .i64 q3.ns, .bool s3.broken] (xn0 _ _)).trans (OnlyX.row _ (w.heap.size + 1) #[Value.slice y3.A f3.img.length y3.c, .int .i64 f3.pg, .slice y3.B f3.wear.length y3.d, .bool f3.down, .int .i64 f3.fuse, .slice y3.P f3.picks.length y3.r] (xn1 _ _))))
    obtain ⟨WA, hWA⟩ : ∃ W2, (w9.setRow w.heap.size #[Value.int .i64 s3.first, .int .i64 s3.blocks, .slice q3.Q1 s3.spec.length q3.c1, .slice q3.Q2 s3.staged.length q3.c2, .slice q3.Q3 s3.saved.length q3.c3, .int .i64 s3.seq, .int .i64 s3.block, .int .i64 s3.slot, .slice q3.Q4 q3.n4 q3.c4, .slice q3.Q5 q3.n5 q3.c5, .int .i64 q3.pg, .int .i64 q3.er, .int .i64 q3.nb, .int .i64 q3.ns, .bool s3.broken]).setRow (w.heap.size + 1) #[Value.slice y3.A f3.img.length y3.c, .int .i64 f3.pg, .slice y3.B f3.wear.length y3.d, .bool f3.down, .int .i64 f3.fuse, .slice y3.P f3.picks.length y3.r] = W2 := ⟨_, rfl⟩
    rw [hWA] at HYA HVA HFA
    rw [hWA]
    clear hWA HY9 HV9 HF9
    by_cases hdn : rd = true
    · subst hdn
      have HTOT : Hid (tot = (s3, f3, re)) := by rw [Hid, HRUN.out, if_pos (.inl rfl)]
      go_upto_region 7 with (fail)
      have HYD := Lib.hid ((HYA.out).later (Below.drew (Below.refl _ _)))
      obtain ⟨old8, ho8, hh8⟩ := HYD.out.h8
      obtain ⟨old9, ho9, hh9⟩ := HYD.out.h9
      refine wp_region_held (S := fun w' => w'.heap[w.heap.size]? = some (.cells #[Value.int .i64 s3.first, .int .i64 s3.blocks, .slice q3.Q1 s3.spec.length q3.c1, .slice q3.Q2 s3.staged.length q3.c2, .slice q3.Q3 s3.saved.length q3.c3, .int .i64 s3.seq, .int .i64 s3.block, .int .i64 s3.slot, .slice q3.Q4 q3.n4 q3.c4, .slice q3.Q5 q3.n5 q3.c5, .int .i64 q3.pg, .int .i64 q3.er, .int .i64 q3.nb, .int .i64 q3.ns, .bool s3.broken] 46 (0, 0)) ∧ w'.heap[w.heap.size + 1]? = some (.cells #[Value.slice y3.A f3.img.length y3.c, .int .i64 f3.pg, .slice y3.B f3.wear.length y3.d, .bool f3.down, .int .i64 f3.fuse, .slice y3.P f3.picks.length y3.r] 37 (0, 0))) (by kernel_rfl) ?_
      refine wpAnyH_take (i := 0) (v := .agg #[Value.int .i64 s3.first, .int .i64 s3.blocks, .slice q3.Q1 s3.spec.length q3.c1, .slice q3.Q2 s3.staged.length q3.c2, .slice q3.Q3 s3.saved.length q3.c3, .int .i64 s3.seq, .int .i64 s3.block, .int .i64 s3.slot, .slice q3.Q4 q3.n4 q3.c4, .slice q3.Q5 q3.n5 q3.c5, .int .i64 q3.pg, .int .i64 q3.er, .int .i64 q3.nb, .int .i64 q3.ns, .bool s3.broken]) rfl (by kernel_rfl) (by kernel_rfl) (by kernel_rfl) (fun _ _ _ h => h) ?_ ⟨HYD.out.h, HYD.out.h4⟩ ?_
      · refine yieldsIf_load_row ?_ 46 _ rfl w.heap.size rfl 46 _ (0, 0) _ (fun _ h => h.1) Try.underlying46 rfl size105
        rfl
      change wpAnyH _ _ _ _ _ _ _ (Act.put _ (some 33) _) _
      simp only [Act.put, List.setIfInBounds_toArray, List.set_cons_zero, List.set_cons_succ]
      refine wpAnyH_take (i := 1) (v := .agg #[Value.slice y3.A f3.img.length y3.c, .int .i64 f3.pg, .slice y3.B f3.wear.length y3.d, .bool f3.down, .int .i64 f3.fuse, .slice y3.P f3.picks.length y3.r]) rfl (by kernel_rfl) (by kernel_rfl) (by kernel_rfl) (fun _ _ _ h => h) ?_ ⟨HYD.out.h, HYD.out.h4⟩ ?_
      · refine yieldsIf_load_row ?_ 37 _ rfl (w.heap.size + 1) rfl 37 _ (0, 0) _ (fun _ h => h.2) Try.underlying37 rfl size60
        rfl
      change wpAnyH _ _ _ _ _ _ _ (Act.put _ (some 34) _) _
      simp only [Act.put, List.setIfInBounds_toArray, List.set_cons_zero, List.set_cons_succ]
      refine wpAnyH_take (i := 2) (v := .int .i64 re) rfl (by kernel_rfl) (by kernel_rfl) (by kernel_rfl) (fun _ _ _ h => h) ?_ ⟨HYD.out.h, HYD.out.h4⟩ ?_
      · refine yieldsIf_move (x := .tmp 7) ?_ rfl
        rfl
      change wpAnyH _ _ _ _ _ _ _ (Act.put _ (some 35) _) _
      simp only [Act.put, List.setIfInBounds_toArray, List.set_cons_zero, List.set_cons_succ]
      refine wpAnyH_store (i := 3) (by kernel_rfl) rfl (by rfl) rfl 46 _ _ rfl (w.heap.size + 2) #[Value.int .i64 s3.first, .int .i64 s3.blocks, .slice q3.Q1 s3.spec.length q3.c1, .slice q3.Q2 s3.staged.length q3.c2, .slice q3.Q3 s3.saved.length q3.c3, .int .i64 s3.seq, .int .i64 s3.block, .int .i64 s3.slot, .slice q3.Q4 q3.n4 q3.c4, .slice q3.Q5 q3.n5 q3.c5, .int .i64 q3.pg, .int .i64 q3.er, .int .i64 q3.nb, .int .i64 q3.ns, .bool s3.broken] old8 rfl rfl 46 hh8 size105 ho8 (one15 ..) ⟨(setRow_other _ _ _ _ (by omega)).trans HYD.out.h, (setRow_other _ _ _ _ (by omega)).trans HYD.out.h4⟩ ?_
      refine wpAnyH_store (i := 4) (by kernel_rfl) rfl (by rfl) rfl 37 _ _ rfl (w.heap.size + 3) #[Value.slice y3.A f3.img.length y3.c, .int .i64 f3.pg, .slice y3.B f3.wear.length y3.d, .bool f3.down, .int .i64 f3.fuse, .slice y3.P f3.picks.length y3.r] old9 rfl rfl 37 ((setRow_other _ _ _ _ (by omega)).trans hh9) size60 ho9 (one6 ..) ⟨(setRow_other _ _ _ _ (by omega)).trans ((setRow_other _ _ _ _ (by omega)).trans HYD.out.h), (setRow_other _ _ _ _ (by omega)).trans ((setRow_other _ _ _ _ (by omega)).trans HYD.out.h4)⟩ ?_
      refine wpAnyH_take (i := 5) (v := .int .i64 re) rfl (by kernel_rfl) (by kernel_rfl) (by kernel_rfl) (fun _ _ _ h => h) ?_ ⟨(setRow_other _ _ _ _ (by omega)).trans ((setRow_other _ _ _ _ (by omega)).trans HYD.out.h), (setRow_other _ _ _ _ (by omega)).trans ((setRow_other _ _ _ _ (by omega)).trans HYD.out.h4)⟩ ?_
      · refine yieldsIf_assign (x := .tmp 35) ?_ rfl
        rfl
      change wpAnyH _ _ _ _ _ _ _ (Act.put _ (some 6) _) _
      simp only [Act.put, List.setIfInBounds_toArray, List.set_cons_zero, List.set_cons_succ]
      refine wpAnyH_done (by kernel_rfl) ?_ _
      go_wp2
      (try simp only [Exit.inBlock, Exit.then])
      refine bodyPost_ret (v := .tuple #[.agg #[Value.int .i64 s3.first, .int .i64 s3.blocks, .slice q3.Q1 s3.spec.length q3.c1, .slice q3.Q2 s3.staged.length q3.c2, .slice q3.Q3 s3.saved.length q3.c3, .int .i64 s3.seq, .int .i64 s3.block, .int .i64 s3.slot, .slice q3.Q4 q3.n4 q3.c4, .slice q3.Q5 q3.n5 q3.c5, .int .i64 q3.pg, .int .i64 q3.er, .int .i64 q3.nb, .int .i64 q3.ns, .bool s3.broken], .agg #[Value.slice y3.A f3.img.length y3.c, .int .i64 f3.pg, .slice y3.B f3.wear.length y3.d, .bool f3.down, .int .i64 f3.fuse, .slice y3.P f3.picks.length y3.r], .int .i64 re]) (results_rows3 (p := 4) (p' := 5) (u := 6) rfl _ _ (w.heap.size + 2) (w.heap.size + 3) 46 37 #[Value.int .i64 s3.first, .int .i64 s3.blocks, .slice q3.Q1 s3.spec.length q3.c1, .slice q3.Q2 s3.staged.length q3.c2, .slice q3.Q3 s3.saved.length q3.c3, .int .i64 s3.seq, .int .i64 s3.block, .int .i64 s3.slot, .slice q3.Q4 q3.n4 q3.c4, .slice q3.Q5 q3.n5 q3.c5, .int .i64 q3.pg, .int .i64 q3.er, .int .i64 q3.nb, .int .i64 q3.ns, .bool s3.broken] #[Value.slice y3.A f3.img.length y3.c, .int .i64 f3.pg, .slice y3.B f3.wear.length y3.d, .bool f3.down, .int .i64 f3.fuse, .slice y3.P f3.picks.length y3.r] _ _ rfl rfl ((setRow_other _ _ _ _ (by omega)).trans (setRow_heap _ _ _ _ _ _ hh8)) (setRow_heap _ _ _ _ _ _ ((setRow_other _ _ _ _ (by omega)).trans hh9)) Try.underlying46 rfl size105 Try.underlying37 rfl size60) rfl ⟨q3, y3, by rw [HTOT.out], by rw [HTOT.out]; exact (HVA.out.onlyX (((OnlyX.of_below (Below.drew (Below.refl _ _))).trans (OnlyX.row _ _ _ (xn2 _ _))).trans (OnlyX.row _ _ _ (xn3 _ _)))).weak (fun _ => .inl), by rw [HTOT.out]; exact (HFA.out.onlyX (((OnlyX.of_below (Below.drew (Below.refl _ _))).trans (OnlyX.row _ _ _ (xn2 _ _))).trans (OnlyX.row _ _ _ (xn3 _ _)))).ofn, below_setRow (below_setRow HYD.out.below (by omega) _) (by omega) _⟩
    · have hdn' : rd = false := by simpa using hdn
      subst hdn'
      by_cases hre : re = 0
      · subst hre
        have HLL := Lib.hid (HLS.out rfl rfl)
        have HCN : Hid (CmR X w WA tot m q3 s3 y3 f3 p) := ⟨HYA.out, HVA.out, HFA.out, HOK.out, HLL.out.2.2, HLL.out.2.1, by have := HLL.out.1; have := HMB.out; omega, by rw [HRUN.out, if_neg (by simp)], HPG.out⟩
        have HLN := Lib.hid HCN.out.lf
        go_wp2
        go_roundw
        case rel => exact ⟨_, _, _, _, _, HCN.out⟩
        case measure =>
          rw [HLN.out, HLF.out]
          have := HLL.out.1
          have h1 := left_pos HCM.out.ok HCM.out.b HCM.out.u
          omega
      · have HTOT : Hid (tot = (s3, f3, re)) := by rw [Hid, HRUN.out, if_pos (.inr hre)]
        have hre2 : (re != 0) = true := by simpa using hre
        clear hre
        go_upto_region 7 with (fail)
        have HYD := Lib.hid ((HYA.out).later (Below.drew (Below.refl _ _)))
        obtain ⟨old8, ho8, hh8⟩ := HYD.out.h8
        obtain ⟨old9, ho9, hh9⟩ := HYD.out.h9
        refine wp_region_held (S := fun w' => w'.heap[w.heap.size]? = some (.cells #[Value.int .i64 s3.first, .int .i64 s3.blocks, .slice q3.Q1 s3.spec.length q3.c1, .slice q3.Q2 s3.staged.length q3.c2, .slice q3.Q3 s3.saved.length q3.c3, .int .i64 s3.seq, .int .i64 s3.block, .int .i64 s3.slot, .slice q3.Q4 q3.n4 q3.c4, .slice q3.Q5 q3.n5 q3.c5, .int .i64 q3.pg, .int .i64 q3.er, .int .i64 q3.nb, .int .i64 q3.ns, .bool s3.broken] 46 (0, 0)) ∧ w'.heap[w.heap.size + 1]? = some (.cells #[Value.slice y3.A f3.img.length y3.c, .int .i64 f3.pg, .slice y3.B f3.wear.length y3.d, .bool f3.down, .int .i64 f3.fuse, .slice y3.P f3.picks.length y3.r] 37 (0, 0))) (by kernel_rfl) ?_
        refine wpAnyH_take (i := 0) (v := .agg #[Value.int .i64 s3.first, .int .i64 s3.blocks, .slice q3.Q1 s3.spec.length q3.c1, .slice q3.Q2 s3.staged.length q3.c2, .slice q3.Q3 s3.saved.length q3.c3, .int .i64 s3.seq, .int .i64 s3.block, .int .i64 s3.slot, .slice q3.Q4 q3.n4 q3.c4, .slice q3.Q5 q3.n5 q3.c5, .int .i64 q3.pg, .int .i64 q3.er, .int .i64 q3.nb, .int .i64 q3.ns, .bool s3.broken]) rfl (by kernel_rfl) (by kernel_rfl) (by kernel_rfl) (fun _ _ _ h => h) ?_ ⟨HYD.out.h, HYD.out.h4⟩ ?_
        · refine yieldsIf_load_row ?_ 46 _ rfl w.heap.size rfl 46 _ (0, 0) _ (fun _ h => h.1) Try.underlying46 rfl size105
          rfl
        change wpAnyH _ _ _ _ _ _ _ (Act.put _ (some 33) _) _
        simp only [Act.put, List.setIfInBounds_toArray, List.set_cons_zero, List.set_cons_succ]
        refine wpAnyH_take (i := 1) (v := .agg #[Value.slice y3.A f3.img.length y3.c, .int .i64 f3.pg, .slice y3.B f3.wear.length y3.d, .bool f3.down, .int .i64 f3.fuse, .slice y3.P f3.picks.length y3.r]) rfl (by kernel_rfl) (by kernel_rfl) (by kernel_rfl) (fun _ _ _ h => h) ?_ ⟨HYD.out.h, HYD.out.h4⟩ ?_
        · refine yieldsIf_load_row ?_ 37 _ rfl (w.heap.size + 1) rfl 37 _ (0, 0) _ (fun _ h => h.2) Try.underlying37 rfl size60
          rfl
        change wpAnyH _ _ _ _ _ _ _ (Act.put _ (some 34) _) _
        simp only [Act.put, List.setIfInBounds_toArray, List.set_cons_zero, List.set_cons_succ]
        refine wpAnyH_take (i := 2) (v := .int .i64 re) rfl (by kernel_rfl) (by kernel_rfl) (by kernel_rfl) (fun _ _ _ h => h) ?_ ⟨HYD.out.h, HYD.out.h4⟩ ?_
        · refine yieldsIf_move (x := .tmp 7) ?_ rfl
          rfl
        change wpAnyH _ _ _ _ _ _ _ (Act.put _ (some 35) _) _
        simp only [Act.put, List.setIfInBounds_toArray, List.set_cons_zero, List.set_cons_succ]
        refine wpAnyH_store (i := 3) (by kernel_rfl) rfl (by rfl) rfl 46 _ _ rfl (w.heap.size + 2) #[Value.int .i64 s3.first, .int .i64 s3.blocks, .slice q3.Q1 s3.spec.length q3.c1, .slice q3.Q2 s3.staged.length q3.c2, .slice q3.Q3 s3.saved.length q3.c3, .int .i64 s3.seq, .int .i64 s3.block, .int .i64 s3.slot, .slice q3.Q4 q3.n4 q3.c4, .slice q3.Q5 q3.n5 q3.c5, .int .i64 q3.pg, .int .i64 q3.er, .int .i64 q3.nb, .int .i64 q3.ns, .bool s3.broken] old8 rfl rfl 46 hh8 size105 ho8 (one15 ..) ⟨(setRow_other _ _ _ _ (by omega)).trans HYD.out.h, (setRow_other _ _ _ _ (by omega)).trans HYD.out.h4⟩ ?_
        refine wpAnyH_store (i := 4) (by kernel_rfl) rfl (by rfl) rfl 37 _ _ rfl (w.heap.size + 3) #[Value.slice y3.A f3.img.length y3.c, .int .i64 f3.pg, .slice y3.B f3.wear.length y3.d, .bool f3.down, .int .i64 f3.fuse, .slice y3.P f3.picks.length y3.r] old9 rfl rfl 37 ((setRow_other _ _ _ _ (by omega)).trans hh9) size60 ho9 (one6 ..) ⟨(setRow_other _ _ _ _ (by omega)).trans ((setRow_other _ _ _ _ (by omega)).trans HYD.out.h), (setRow_other _ _ _ _ (by omega)).trans ((setRow_other _ _ _ _ (by omega)).trans HYD.out.h4)⟩ ?_
        refine wpAnyH_take (i := 5) (v := .int .i64 re) rfl (by kernel_rfl) (by kernel_rfl) (by kernel_rfl) (fun _ _ _ h => h) ?_ ⟨(setRow_other _ _ _ _ (by omega)).trans ((setRow_other _ _ _ _ (by omega)).trans HYD.out.h), (setRow_other _ _ _ _ (by omega)).trans ((setRow_other _ _ _ _ (by omega)).trans HYD.out.h4)⟩ ?_
        · refine yieldsIf_assign (x := .tmp 35) ?_ rfl
          rfl
        change wpAnyH _ _ _ _ _ _ _ (Act.put _ (some 6) _) _
        simp only [Act.put, List.setIfInBounds_toArray, List.set_cons_zero, List.set_cons_succ]
        refine wpAnyH_done (by kernel_rfl) ?_ _
        go_wp2
        (try simp only [Exit.inBlock, Exit.then])
        refine bodyPost_ret (v := .tuple #[.agg #[Value.int .i64 s3.first, .int .i64 s3.blocks, .slice q3.Q1 s3.spec.length q3.c1, .slice q3.Q2 s3.staged.length q3.c2, .slice q3.Q3 s3.saved.length q3.c3, .int .i64 s3.seq, .int .i64 s3.block, .int .i64 s3.slot, .slice q3.Q4 q3.n4 q3.c4, .slice q3.Q5 q3.n5 q3.c5, .int .i64 q3.pg, .int .i64 q3.er, .int .i64 q3.nb, .int .i64 q3.ns, .bool s3.broken], .agg #[Value.slice y3.A f3.img.length y3.c, .int .i64 f3.pg, .slice y3.B f3.wear.length y3.d, .bool f3.down, .int .i64 f3.fuse, .slice y3.P f3.picks.length y3.r], .int .i64 re]) (results_rows3 (p := 4) (p' := 5) (u := 6) rfl _ _ (w.heap.size + 2) (w.heap.size + 3) 46 37 #[Value.int .i64 s3.first, .int .i64 s3.blocks, .slice q3.Q1 s3.spec.length q3.c1, .slice q3.Q2 s3.staged.length q3.c2, .slice q3.Q3 s3.saved.length q3.c3, .int .i64 s3.seq, .int .i64 s3.block, .int .i64 s3.slot, .slice q3.Q4 q3.n4 q3.c4, .slice q3.Q5 q3.n5 q3.c5, .int .i64 q3.pg, .int .i64 q3.er, .int .i64 q3.nb, .int .i64 q3.ns, .bool s3.broken] #[Value.slice y3.A f3.img.length y3.c, .int .i64 f3.pg, .slice y3.B f3.wear.length y3.d, .bool f3.down, .int .i64 f3.fuse, .slice y3.P f3.picks.length y3.r] _ _ rfl rfl ((setRow_other _ _ _ _ (by omega)).trans (setRow_heap _ _ _ _ _ _ hh8)) (setRow_heap _ _ _ _ _ _ ((setRow_other _ _ _ _ (by omega)).trans hh9)) Try.underlying46 rfl size105 Try.underlying37 rfl size60) rfl ⟨q3, y3, by rw [HTOT.out], by rw [HTOT.out]; exact (HVA.out.onlyX (((OnlyX.of_below (Below.drew (Below.refl _ _))).trans (OnlyX.row _ _ _ (xn2 _ _))).trans (OnlyX.row _ _ _ (xn3 _ _)))).weak (fun _ => .inl), by rw [HTOT.out]; exact (HFA.out.onlyX (((OnlyX.of_below (Below.drew (Below.refl _ _))).trans (OnlyX.row _ _ _ (xn2 _ _))).trans (OnlyX.row _ _ _ (xn3 _ _)))).ofn, below_setRow (below_setRow HYD.out.below (by omega) _) (by omega) _⟩

/-- Commit, one contract. -/
theorem commit_r {X : Nat → Prop} {w : World} {q : Qv} {s : St} {x : Rc} {g : Fl} (h : RvA X w q s g.pg) (hR : RAt X w x g) (ho : StOk g s) (hX : ∀ b, X b → b < w.heap.size) (hbd : s.broken = g.down) (henc : s.busy = false → encE (s.seq + 1) s.staged.length = 0) :
    Calls Try.prog 74 #[q.v s, x.v g] w fun e w' => ∃ (q' : Qv) (y : Rc), e = .returned (.tuple #[q'.v (commitS s g).1, y.v (commitS s g).2.1, .int .i64 (commitS s g).2.2]) ∧ RvA X w' q' (commitS s g).1 g.pg ∧ RAt X w' y (commitS s g).2.1 ∧ Below w.heap.size w w' := by
  by_cases he : beginE s g = 0
  · exact commit_rgo h hR ho hX hbd henc he
  · exact commit_rno h hR ho hX hbd henc he
end Go.Proofs.Ytjdknddnanopaaa
