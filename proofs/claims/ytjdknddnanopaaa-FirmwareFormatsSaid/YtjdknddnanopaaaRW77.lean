
/-
  A struct's box as one row: loads, stores, results. The reference of layer 51: Set.
-/
import Derived.Test.YtjdknddnanopaaaRW76
import Derived.Test.YtjdknddnanopaaaRW22
import Derived.Test.YtjdknddnanopaaaRW23
import Derived.Laws.Rows
import Derived.Laws.CopyOwn
import Derived.Laws.Tables
namespace Go.Proofs.Ytjdknddnanopaaa
open Go.RowKit
set_option linter.unusedVariables false
set_option linter.unusedSimpArgs false

theorem results_row_tmp {P : Program} {fn : Func} {p u : Tmp} {ty : TypeId} (h : fn.results = #[.cell p ty, .tmp u]) (tmps : Array Value) (w : World) (g : Nat) (t : TypeId) (cs : Array Value) (fr : Nat × Nat) (d : TypeDesc)
    (hp : tmps.getD p undef = .pointer (some ⟨g, 0, none⟩)) (hg : w.heap[g]? = some (.cells cs t fr))
    (hu : P.underlying ty = some d) (hd : (match d with | .struct _ | .array _ _ => true | _ => false) = true) (hi : (P.info? ty).map (·.size) = some cs.size) :
    (results fn tmps).run P w = .ok (.tuple #[.agg cs, tmps.getD u undef]) w := by
  rw [results_cell_tmp h, hp]
  show ((loadVar ty ⟨g, 0, none⟩).run P w).andThen _ = _
  rw [run_loadVar_row w g t ty cs fr d hg hu hd hi]
  rfl
theorem size105 : (Try.prog.info? 46).map (·.size) = some 15 := by kernel_rfl
theorem size60 : (Try.prog.info? 37).map (·.size) = some 6 := by kernel_rfl

/-- The box of a store, as a row, and that of the result. -/
structure Hx (w wr : World) (D D8 : Nat) (l : Array Value) : Prop where
  below : Below w.heap.size w wr
  h8 : ∃ old : Array Value, old.size = 15 ∧ wr.heap[D8]? = some (.cells old 46 (0, 0))
  h : wr.heap[D]? = some (.cells l 46 (0, 0))
  big : w.heap.size ≤ D ∧ w.heap.size ≤ D8
  ne : D ≠ D8
section
variable {w wr w' : World} {D D8 : Nat} {l : Array Value}
theorem Hx.lt (h : Hx w wr D D8 l) : D < wr.heap.size ∧ D8 < wr.heap.size := by
  obtain ⟨old, _, h8⟩ := h.h8
  exact ⟨(Array.getElem?_eq_some_iff.1 h.h).1, (Array.getElem?_eq_some_iff.1 h8).1⟩
theorem Hx.later (h : Hx w wr D D8 l) (hb : Below wr.heap.size wr w') : Hx w w' D D8 l := by
  obtain ⟨old, ho, h8⟩ := h.h8
  exact ⟨h.below.trans (hb.mono h.below.size), ⟨old, ho, (hb.block D8 h.lt.2).trans h8⟩, (hb.block D h.lt.1).trans h.h, h.big, h.ne⟩
theorem Hx.row (h : Hx w wr D D8 l) (j : Nat) {u : Value} (hj : l[j]? = some u) : wr.cell? ⟨D, j, none⟩ = some u := (cell_of_row wr D j l 46 (0, 0) h.h).trans hj
theorem Hx.fz (h : Hx w wr D D8 l) (j : Nat) : wr.frozen? ⟨D, j, none⟩ = false := frozen_of_row wr D j l 46 h.h
theorem Hx.set (h : Hx w wr D D8 l) (i : Nat) (v : Value) : Hx w (wr.setCell ⟨D, i, none⟩ v) D D8 (l.setIfInBounds i v) := by
  obtain ⟨old, ho, h8⟩ := h.h8
  exact ⟨h.below.setCell (p := ⟨D, i, none⟩) h.big.1 _, ⟨old, ho, (heap_setCell_other wr ⟨D, i, none⟩ D8 v (fun e => h.ne e.symm)).trans h8⟩, heap_setCell_same wr D i l 46 v h.h, h.big, h.ne⟩
theorem Hx.far (h : Hx w wr D D8 l) {g i : Nat} (v : Value) (hg : w.heap.size ≤ g) (h1 : D ≠ g) (h2 : D8 ≠ g) : Hx w (wr.setCell ⟨g, i, none⟩ v) D D8 l := by
  obtain ⟨old, ho, h8⟩ := h.h8
  exact ⟨h.below.setCell (p := ⟨g, i, none⟩) hg _, ⟨old, ho, (heap_setCell_other wr ⟨g, i, none⟩ D8 v h2).trans h8⟩, (heap_setCell_other wr ⟨g, i, none⟩ D v h1).trans h.h, h.big, h.ne⟩
theorem Hx.grown (h : Hx w wr D D8 l) {row : Option Nat} (hg : wr.grownBy w' row) (h1 : row ≠ some D) (h2 : row ≠ some D8) (hr : ∀ k, row = some k → w.heap.size ≤ k) : Hx w w' D D8 l := by
  obtain ⟨old, ho, h8⟩ := h.h8
  exact ⟨h.below.grown hg h.below.size hr, ⟨old, ho, (hg.block D8 h.lt.2 (fun e => h2 e.symm)).trans h8⟩, (hg.block D h.lt.1 (fun e => h1 e.symm)).trans h.h, h.big, h.ne⟩
theorem Hx.new {w V : World} {o : Obj} (hV : V = (w.alloc (.cells l 46)).alloc o) (ho : ∃ old : Array Value, old.size = 15 ∧ o = .cells old 46) : Hx w V w.heap.size (w.heap.size + 1) l := by
  obtain ⟨old, h1, rfl⟩ := ho
  subst hV
  exact ⟨below_two _ _ _, ⟨old, h1, heap_alloc2_new _ _ _⟩, heap_alloc2_old _ _ _, ⟨Nat.le_refl _, Nat.le_succ _⟩, by omega⟩
end
theorem one15 (a0 a1 a5 a6 a7 a10 a11 a12 a13 : Int) (Q2 Q3 Q4 Q8 Q9 : Option Addr) (n2 c2 n3 c3 n4 c4 n8 c8 n9 c9 : Nat) (b : Bool) :
    (#[Value.int .i64 a0, .int .i64 a1, .slice Q2 n2 c2, .slice Q3 n3 c3, .slice Q4 n4 c4, .int .i64 a5, .int .i64 a6, .int .i64 a7, .slice Q8 n8 c8, .slice Q9 n9 c9, .int .i64 a10, .int .i64 a11, .int .i64 a12, .int .i64 a13, .bool b].all (·.oneCell')) = true := by
  simp [Value.oneCell']
theorem setE_zero {s : St} {i v : Int} {p : Par} {k : Nat} (hb : s.broken = false) (hi : i = k) (hk : k < s.spec.length) (hp : s.spec[k]? = some p) : setE s i v = if p.lo ≤ v ∧ v ≤ p.hi then 0 else 3 := by
  subst hi
  unfold setE inPar
  rw [hb, if_neg (by decide), if_neg (by omega), Int.toNat_natCast, hp]
  simp only [Option.getD_some]
  by_cases h : p.lo ≤ v ∧ v ≤ p.hi
  · rw [if_pos h, if_neg (by simpa using h)]
  · rw [if_neg h, if_pos (by simpa using h)]
theorem own_apart {w : World} {base g n cap D : Nat} {e t : TypeId} {size : Nat} {xs : List Value} {cells : Array Value} (h : w.ownsRow base e size (.slice (some ⟨g, 0, none⟩) n cap) n xs) (hD : w.heap[D]? = some (.cells cells t (0, 0))) (ht : e ≠ t) : ¬ D = g := by
  intro e9
  subst e9
  rcases h.2 with ⟨h1, _⟩ | ⟨g', cap', cur, h1, _, hg, _⟩
  · cases h1
  · injection h1 with h1 _ _
    injection h1 with h1
    injection h1 with h1
    subst h1
    rw [hD] at hg
    injection hg with hg
    injection hg with _ hg _
    exact ht hg.symm
theorem own_blk77 {w w' : World} {base g n cap : Nat} {e : TypeId} {size : Nat} {xs : List Value} (h : w.ownsRow base e size (.slice (some ⟨g, 0, none⟩) n cap) n xs) (hb : w'.heap[g]? = w.heap[g]?) : w'.ownsRow base e size (.slice (some ⟨g, 0, none⟩) n cap) n xs := by
  refine ⟨h.1, ?_⟩
  rcases h.2 with h1 | ⟨g', cap', cur, h1, h2, hg, h3⟩
  · exact .inl h1
  · refine .inr ⟨g', cap', cur, h1, h2, ?_, h3⟩
    injection h1 with h1 _ _
    injection h1 with h1
    injection h1 with h1
    subst h1
    rw [hb]
    exact hg
theorem own_far {w : World} {base g n cap D j : Nat} {e : TypeId} {size : Nat} {xs : List Value} {u : Value} (h : w.ownsRow base e size (.slice (some ⟨g, 0, none⟩) n cap) n xs) (hD : ¬ D = g) : (w.setCell ⟨D, j, none⟩ u).ownsRow base e size (.slice (some ⟨g, 0, none⟩) n cap) n xs :=
  own_blk77 h (heap_setCell_other w ⟨D, j, none⟩ g u (fun e => hD e.symm))
theorem own_setRow {w : World} {base g n cap D : Nat} {e : TypeId} {size : Nat} {xs : List Value} (h : w.ownsRow base e size (.slice (some ⟨g, 0, none⟩) n cap) n xs) (hD : ¬ D = g) (cs : Array Value) : (w.setRow D cs).ownsRow base e size (.slice (some ⟨g, 0, none⟩) n cap) n xs :=
  own_blk77 h (setRow_other w D g cs (fun e => hD e.symm))
set_option maxRecDepth 100000 in
set_option maxHeartbeats 4000000 in
/-- Set: refused, the store broken. -/
theorem set_rb (w : World) (q : Qv) (s : St) (i v : Int) :
    Calls Try.prog 73 #[.agg #[Value.int .i64 s.first, .int .i64 s.blocks, .slice q.Q1 s.spec.length q.c1, .slice q.Q2 s.staged.length q.c2, .slice q.Q3 s.saved.length q.c3, .int .i64 s.seq, .int .i64 s.block, .int .i64 s.slot, .slice q.Q4 q.n4 q.c4, .slice q.Q5 q.n5 q.c5, .int .i64 q.pg, .int .i64 q.er, .int .i64 q.nb, .int .i64 q.ns, .bool true], .int .i64 i, .int .i64 v] w fun e w' => e = .returned (.tuple #[.agg #[Value.int .i64 s.first, .int .i64 s.blocks, .slice q.Q1 s.spec.length q.c1, .slice q.Q2 s.staged.length q.c2, .slice q.Q3 s.saved.length q.c3, .int .i64 s.seq, .int .i64 s.block, .int .i64 s.slot, .slice q.Q4 q.n4 q.c4, .slice q.Q5 q.n5 q.c5, .int .i64 q.pg, .int .i64 q.er, .int .i64 q.nb, .int .i64 q.ns, .bool true], .int .i64 20]) ∧ Below w.heap.size w w' := by
  obtain ⟨W, hW⟩ : ∃ W, (w.alloc (.cells #[Value.int .i64 s.first, .int .i64 s.blocks, .slice q.Q1 s.spec.length q.c1, .slice q.Q2 s.staged.length q.c2, .slice q.Q3 s.saved.length q.c3, .int .i64 s.seq, .int .i64 s.block, .int .i64 s.slot, .slice q.Q4 q.n4 q.c4, .slice q.Q5 q.n5 q.c5, .int .i64 q.pg, .int .i64 q.er, .int .i64 q.nb, .int .i64 q.ns, .bool true] 46)).alloc (.cells #[.int .i64 0, .int .i64 0, .slice none 0 0, .slice none 0 0, .slice none 0 0, .int .i64 0, .int .i64 0, .int .i64 0, .slice none 0 0, .slice none 0 0, .int .i64 0, .int .i64 0, .int .i64 0, .int .i64 0, .bool false] 46) = W := ⟨_, rfl⟩
  have HX := Lib.hid (Hx.new hW.symm ⟨_, rfl, rfl⟩)
  have r14 := HX.out.row 14 rfl
  go_enter Try.func73, Try.ntmps73
  go_upto_region 2 with (fail)
  try rw [hW]
  clear hW
  refine wp_region_list ?_
  refine wpList_load_row rfl 46 _ rfl w.heap.size rfl 46 _ (0, 0) _ HX.out.h Try.underlying46 rfl size105 ?_
  obtain ⟨old8, ho8, hh8⟩ := HX.out.h8
  refine wpList_store_row rfl 46 _ _ rfl (w.heap.size + 1) _ rfl rfl 46 old8 hh8 size105 ho8 (one15 ..) ?_
  go_wp2
  (try simp only [Exit.inBlock, Exit.then])
  refine bodyPost_ret (v := .tuple #[.agg #[Value.int .i64 s.first, .int .i64 s.blocks, .slice q.Q1 s.spec.length q.c1, .slice q.Q2 s.staged.length q.c2, .slice q.Q3 s.saved.length q.c3, .int .i64 s.seq, .int .i64 s.block, .int .i64 s.slot, .slice q.Q4 q.n4 q.c4, .slice q.Q5 q.n5 q.c5, .int .i64 q.pg, .int .i64 q.er, .int .i64 q.nb, .int .i64 q.ns, .bool true], .int .i64 20]) (results_row_tmp (p := 6) (u := 7) rfl _ _ (w.heap.size + 1) 46 #[Value.int .i64 s.first, .int .i64 s.blocks, .slice q.Q1 s.spec.length q.c1, .slice q.Q2 s.staged.length q.c2, .slice q.Q3 s.saved.length q.c3, .int .i64 s.seq, .int .i64 s.block, .int .i64 s.slot, .slice q.Q4 q.n4 q.c4, .slice q.Q5 q.n5 q.c5, .int .i64 q.pg, .int .i64 q.er, .int .i64 q.nb, .int .i64 q.ns, .bool true] (0, 0) _ rfl (setRow_heap _ _ _ _ _ _ hh8) Try.underlying46 rfl size105) rfl ⟨rfl, below_setRow HX.out.below HX.out.big.2 _⟩
set_option maxRecDepth 100000 in
set_option maxHeartbeats 4000000 in
/-- Set: refused, no such parameter. -/
theorem set_ri (w : World) (q : Qv) (s : St) (i v : Int) (hn : s.spec.length ≤ 48) (hi : i < 0 ∨ (s.spec.length : Int) ≤ i) :
    Calls Try.prog 73 #[.agg #[Value.int .i64 s.first, .int .i64 s.blocks, .slice q.Q1 s.spec.length q.c1, .slice q.Q2 s.staged.length q.c2, .slice q.Q3 s.saved.length q.c3, .int .i64 s.seq, .int .i64 s.block, .int .i64 s.slot, .slice q.Q4 q.n4 q.c4, .slice q.Q5 q.n5 q.c5, .int .i64 q.pg, .int .i64 q.er, .int .i64 q.nb, .int .i64 q.ns, .bool false], .int .i64 i, .int .i64 v] w fun e w' => e = .returned (.tuple #[.agg #[Value.int .i64 s.first, .int .i64 s.blocks, .slice q.Q1 s.spec.length q.c1, .slice q.Q2 s.staged.length q.c2, .slice q.Q3 s.saved.length q.c3, .int .i64 s.seq, .int .i64 s.block, .int .i64 s.slot, .slice q.Q4 q.n4 q.c4, .slice q.Q5 q.n5 q.c5, .int .i64 q.pg, .int .i64 q.er, .int .i64 q.nb, .int .i64 q.ns, .bool false], .int .i64 10]) ∧ Below w.heap.size w w' := by
  obtain ⟨n, hsn⟩ : ∃ n, s.spec.length = n := ⟨_, rfl⟩
  rw [hsn] at hn hi ⊢
  clear hsn
  obtain ⟨W, hW⟩ : ∃ W, (w.alloc (.cells #[Value.int .i64 s.first, .int .i64 s.blocks, .slice q.Q1 n q.c1, .slice q.Q2 s.staged.length q.c2, .slice q.Q3 s.saved.length q.c3, .int .i64 s.seq, .int .i64 s.block, .int .i64 s.slot, .slice q.Q4 q.n4 q.c4, .slice q.Q5 q.n5 q.c5, .int .i64 q.pg, .int .i64 q.er, .int .i64 q.nb, .int .i64 q.ns, .bool false] 46)).alloc (.cells #[.int .i64 0, .int .i64 0, .slice none 0 0, .slice none 0 0, .slice none 0 0, .int .i64 0, .int .i64 0, .int .i64 0, .slice none 0 0, .slice none 0 0, .int .i64 0, .int .i64 0, .int .i64 0, .int .i64 0, .bool false] 46) = W := ⟨_, rfl⟩
  have HX := Lib.hid (Hx.new hW.symm ⟨_, rfl, rfl⟩)
  have r14 := HX.out.row 14 rfl
  have r2 := HX.out.row 2 rfl
  by_cases h0 : i < 0
  all_goals
    have h0' : decide (i < 0) = decide (i < 0) := rfl
    have h1 : ¬ i < 0 → (n : Int) ≤ i := by omega
  · clear hi h1 h0'
    go_enter Try.func73, Try.ntmps73
    go_upto_region 4 with (fail)
    try rw [hW]
    clear hW
    refine wp_region_list ?_
    refine wpList_load_row rfl 46 _ rfl w.heap.size rfl 46 _ (0, 0) _ HX.out.h Try.underlying46 rfl size105 ?_
    obtain ⟨old8, ho8, hh8⟩ := HX.out.h8
    refine wpList_store_row rfl 46 _ _ rfl (w.heap.size + 1) _ rfl rfl 46 old8 hh8 size105 ho8 (one15 ..) ?_
    go_wp2
    (try simp only [Exit.inBlock, Exit.then])
    refine bodyPost_ret (v := .tuple #[.agg #[Value.int .i64 s.first, .int .i64 s.blocks, .slice q.Q1 n q.c1, .slice q.Q2 s.staged.length q.c2, .slice q.Q3 s.saved.length q.c3, .int .i64 s.seq, .int .i64 s.block, .int .i64 s.slot, .slice q.Q4 q.n4 q.c4, .slice q.Q5 q.n5 q.c5, .int .i64 q.pg, .int .i64 q.er, .int .i64 q.nb, .int .i64 q.ns, .bool false], .int .i64 10]) (results_row_tmp (p := 6) (u := 7) rfl _ _ (w.heap.size + 1) 46 #[Value.int .i64 s.first, .int .i64 s.blocks, .slice q.Q1 n q.c1, .slice q.Q2 s.staged.length q.c2, .slice q.Q3 s.saved.length q.c3, .int .i64 s.seq, .int .i64 s.block, .int .i64 s.slot, .slice q.Q4 q.n4 q.c4, .slice q.Q5 q.n5 q.c5, .int .i64 q.pg, .int .i64 q.er, .int .i64 q.nb, .int .i64 q.ns, .bool false] (0, 0) _ rfl (setRow_heap _ _ _ _ _ _ hh8) Try.underlying46 rfl size105) rfl ⟨rfl, below_setRow HX.out.below HX.out.big.2 _⟩
  · have h2 := h1 h0
    have h3 : decide (i < 0) = false := by simpa using h0
    clear hi h1 h0'
    go_enter Try.func73, Try.ntmps73
    go_upto_region 4 with (fail)
    try rw [hW]
    clear hW
    refine wp_region_list ?_
    refine wpList_load_row rfl 46 _ rfl w.heap.size rfl 46 _ (0, 0) _ HX.out.h Try.underlying46 rfl size105 ?_
    obtain ⟨old8, ho8, hh8⟩ := HX.out.h8
    refine wpList_store_row rfl 46 _ _ rfl (w.heap.size + 1) _ rfl rfl 46 old8 hh8 size105 ho8 (one15 ..) ?_
    go_wp2
    (try simp only [Exit.inBlock, Exit.then])
    refine bodyPost_ret (v := .tuple #[.agg #[Value.int .i64 s.first, .int .i64 s.blocks, .slice q.Q1 n q.c1, .slice q.Q2 s.staged.length q.c2, .slice q.Q3 s.saved.length q.c3, .int .i64 s.seq, .int .i64 s.block, .int .i64 s.slot, .slice q.Q4 q.n4 q.c4, .slice q.Q5 q.n5 q.c5, .int .i64 q.pg, .int .i64 q.er, .int .i64 q.nb, .int .i64 q.ns, .bool false], .int .i64 10]) (results_row_tmp (p := 6) (u := 7) rfl _ _ (w.heap.size + 1) 46 #[Value.int .i64 s.first, .int .i64 s.blocks, .slice q.Q1 n q.c1, .slice q.Q2 s.staged.length q.c2, .slice q.Q3 s.saved.length q.c3, .int .i64 s.seq, .int .i64 s.block, .int .i64 s.slot, .slice q.Q4 q.n4 q.c4, .slice q.Q5 q.n5 q.c5, .int .i64 q.pg, .int .i64 q.er, .int .i64 q.nb, .int .i64 q.ns, .bool false] (0, 0) _ rfl (setRow_heap _ _ _ _ _ _ hh8) Try.underlying46 rfl size105) rfl ⟨rfl, below_setRow HX.out.below HX.out.big.2 _⟩
set_option maxRecDepth 100000 in
set_option maxHeartbeats 4000000 in
/-- Set: refused, out of range. -/
theorem set_rr {X : Nat → Prop} (w : World) (q : Qv) (s : St) (i : Nat) (v : Int) (p : Par) (hn : s.spec.length ≤ 48) (hA : RdX X w q.Q1 (pcells s.spec)) (hp : s.spec[i]? = some p) (hv : v < p.lo ∨ p.hi < v) :
    Calls Try.prog 73 #[.agg #[Value.int .i64 s.first, .int .i64 s.blocks, .slice q.Q1 s.spec.length q.c1, .slice q.Q2 s.staged.length q.c2, .slice q.Q3 s.saved.length q.c3, .int .i64 s.seq, .int .i64 s.block, .int .i64 s.slot, .slice q.Q4 q.n4 q.c4, .slice q.Q5 q.n5 q.c5, .int .i64 q.pg, .int .i64 q.er, .int .i64 q.nb, .int .i64 q.ns, .bool false], .int .i64 (i : Int), .int .i64 v] w fun e w' => e = .returned (.tuple #[.agg #[Value.int .i64 s.first, .int .i64 s.blocks, .slice q.Q1 s.spec.length q.c1, .slice q.Q2 s.staged.length q.c2, .slice q.Q3 s.saved.length q.c3, .int .i64 s.seq, .int .i64 s.block, .int .i64 s.slot, .slice q.Q4 q.n4 q.c4, .slice q.Q5 q.n5 q.c5, .int .i64 q.pg, .int .i64 q.er, .int .i64 q.nb, .int .i64 q.ns, .bool false], .int .i64 3]) ∧ Below w.heap.size w w' := by
  have hi := (List.getElem?_eq_some_iff.1 hp).1
  obtain ⟨b, off, hQ, c0, c1, c2⟩ := hA.rd.par69 hp
  rw [hQ]
  have HQ := Lib.hid hQ
  have HP := Lib.hid hp
  have HA := Lib.hid hA
  obtain ⟨n, hsn⟩ : ∃ n, s.spec.length = n := ⟨_, rfl⟩
  rw [hsn] at hn hi ⊢
  clear hsn hQ hp hA
  obtain ⟨W, hW⟩ : ∃ W, (w.alloc (.cells #[Value.int .i64 s.first, .int .i64 s.blocks, .slice (some ⟨b, off, none⟩) n q.c1, .slice q.Q2 s.staged.length q.c2, .slice q.Q3 s.saved.length q.c3, .int .i64 s.seq, .int .i64 s.block, .int .i64 s.slot, .slice q.Q4 q.n4 q.c4, .slice q.Q5 q.n5 q.c5, .int .i64 q.pg, .int .i64 q.er, .int .i64 q.nb, .int .i64 q.ns, .bool false] 46)).alloc (.cells #[.int .i64 0, .int .i64 0, .slice none 0 0, .slice none 0 0, .slice none 0 0, .int .i64 0, .int .i64 0, .int .i64 0, .slice none 0 0, .slice none 0 0, .int .i64 0, .int .i64 0, .int .i64 0, .int .i64 0, .bool false] 46) = W := ⟨_, rfl⟩
  have HX := Lib.hid (Hx.new hW.symm ⟨_, rfl, rfl⟩)
  have r14 := HX.out.row 14 rfl
  have r2 := HX.out.row 2 rfl
  have HB := HX.out.below
  have g0 := (HB.cell (p := ⟨b, off + i * 3, none⟩) (World.block_lt_of_cell? w _ c0)).trans c0
  have g1 := (HB.cell (p := ⟨b, off + i * 3 + 1, none⟩) (World.block_lt_of_cell? w _ c1)).trans c1
  have HBB := Lib.hid HB
  have hi0 : decide ((i : Int) < 0) = false := by simp
  have hi1 : decide (n ≤ i) = false := by simpa using hi
  by_cases h0 : v < p.lo
  · clear hv c0 c1 c2 HB
    go_enter Try.func73, Try.ntmps73
    go_upto_region 6 with (fail)
    try rw [hW]
    clear hW
    refine wp_region_list ?_
    refine wpList_load_row rfl 46 _ rfl w.heap.size rfl 46 _ (0, 0) _ HX.out.h Try.underlying46 rfl size105 ?_
    obtain ⟨old8, ho8, hh8⟩ := HX.out.h8
    refine wpList_store_row rfl 46 _ _ rfl (w.heap.size + 1) _ rfl rfl 46 old8 hh8 size105 ho8 (one15 ..) ?_
    go_wp2
    (try simp only [Exit.inBlock, Exit.then])
    refine bodyPost_ret (v := .tuple #[.agg #[Value.int .i64 s.first, .int .i64 s.blocks, .slice (some ⟨b, off, none⟩) n q.c1, .slice q.Q2 s.staged.length q.c2, .slice q.Q3 s.saved.length q.c3, .int .i64 s.seq, .int .i64 s.block, .int .i64 s.slot, .slice q.Q4 q.n4 q.c4, .slice q.Q5 q.n5 q.c5, .int .i64 q.pg, .int .i64 q.er, .int .i64 q.nb, .int .i64 q.ns, .bool false], .int .i64 3]) (results_row_tmp (p := 6) (u := 7) rfl _ _ (w.heap.size + 1) 46 #[Value.int .i64 s.first, .int .i64 s.blocks, .slice (some ⟨b, off, none⟩) n q.c1, .slice q.Q2 s.staged.length q.c2, .slice q.Q3 s.saved.length q.c3, .int .i64 s.seq, .int .i64 s.block, .int .i64 s.slot, .slice q.Q4 q.n4 q.c4, .slice q.Q5 q.n5 q.c5, .int .i64 q.pg, .int .i64 q.er, .int .i64 q.nb, .int .i64 q.ns, .bool false] (0, 0) _ rfl (setRow_heap _ _ _ _ _ _ hh8) Try.underlying46 rfl size105) rfl ⟨rfl, below_setRow HX.out.below HX.out.big.2 _⟩
  · have h2 : p.hi < v := by omega
    have h3 : decide (v < p.lo) = false := by simpa using h0
    clear hv c0 c1 c2 HB
    go_enter Try.func73, Try.ntmps73
    go_upto_region 6 with (fail)
    try rw [hW]
    clear hW
    refine wp_region_list ?_
    refine wpList_load_row rfl 46 _ rfl w.heap.size rfl 46 _ (0, 0) _ HX.out.h Try.underlying46 rfl size105 ?_
    obtain ⟨old8, ho8, hh8⟩ := HX.out.h8
    refine wpList_store_row rfl 46 _ _ rfl (w.heap.size + 1) _ rfl rfl 46 old8 hh8 size105 ho8 (one15 ..) ?_
    go_wp2
    (try simp only [Exit.inBlock, Exit.then])
    refine bodyPost_ret (v := .tuple #[.agg #[Value.int .i64 s.first, .int .i64 s.blocks, .slice (some ⟨b, off, none⟩) n q.c1, .slice q.Q2 s.staged.length q.c2, .slice q.Q3 s.saved.length q.c3, .int .i64 s.seq, .int .i64 s.block, .int .i64 s.slot, .slice q.Q4 q.n4 q.c4, .slice q.Q5 q.n5 q.c5, .int .i64 q.pg, .int .i64 q.er, .int .i64 q.nb, .int .i64 q.ns, .bool false], .int .i64 3]) (results_row_tmp (p := 6) (u := 7) rfl _ _ (w.heap.size + 1) 46 #[Value.int .i64 s.first, .int .i64 s.blocks, .slice (some ⟨b, off, none⟩) n q.c1, .slice q.Q2 s.staged.length q.c2, .slice q.Q3 s.saved.length q.c3, .int .i64 s.seq, .int .i64 s.block, .int .i64 s.slot, .slice q.Q4 q.n4 q.c4, .slice q.Q5 q.n5 q.c5, .int .i64 q.pg, .int .i64 q.er, .int .i64 q.nb, .int .i64 q.ns, .bool false] (0, 0) _ rfl (setRow_heap _ _ _ _ _ _ hh8) Try.underlying46 rfl size105) rfl ⟨rfl, below_setRow HX.out.below HX.out.big.2 _⟩
set_option maxRecDepth 100000 in
set_option maxHeartbeats 4000000 in
/-- Set: done. -/
theorem set_ro {X : Nat → Prop} (w : World) (q : Qv) (s : St) (i : Nat) (v : Int) (p : Par) (hX : ∀ b, X b → b < w.heap.size) (hn : s.spec.length ≤ 48) (hst : s.staged.length = s.spec.length) (hA : RdX X w q.Q1 (pcells s.spec)) (hS : RdX X w q.Q2 (icells s.staged)) (hc1 : s.staged.length ≤ q.c2) (hc2 : q.c2 ≤ maxLen)
    (hp : s.spec[i]? = some p) (hv : p.lo ≤ v ∧ v ≤ p.hi) :
    Calls Try.prog 73 #[.agg #[Value.int .i64 s.first, .int .i64 s.blocks, .slice q.Q1 s.spec.length q.c1, .slice q.Q2 s.staged.length q.c2, .slice q.Q3 s.saved.length q.c3, .int .i64 s.seq, .int .i64 s.block, .int .i64 s.slot, .slice q.Q4 q.n4 q.c4, .slice q.Q5 q.n5 q.c5, .int .i64 q.pg, .int .i64 q.er, .int .i64 q.nb, .int .i64 q.ns, .bool false], .int .i64 (i : Int), .int .i64 v] w fun e w' => ∃ g c', e = .returned (.tuple #[.agg #[Value.int .i64 s.first, .int .i64 s.blocks, .slice q.Q1 s.spec.length q.c1, .slice (some ⟨g, 0, none⟩) s.staged.length c', .slice q.Q3 s.saved.length q.c3, .int .i64 s.seq, .int .i64 s.block, .int .i64 s.slot, .slice q.Q4 q.n4 q.c4, .slice q.Q5 q.n5 q.c5, .int .i64 q.pg, .int .i64 q.er, .int .i64 q.nb, .int .i64 q.ns, .bool false], .int .i64 0]) ∧ Below w.heap.size w w' ∧ RdX X w' (some ⟨g, 0, none⟩) (icells (s.staged.set i v)) ∧ s.staged.length ≤ c' ∧ c' ≤ maxLen := by
  have hi := (List.getElem?_eq_some_iff.1 hp).1
  obtain ⟨b, off, hQ, c0, c1, c2⟩ := hA.rd.par69 hp
  rw [hQ]
  have HQ := Lib.hid hQ
  have HP := Lib.hid hp
  have HS := Lib.hid hS
  have HXX := Lib.hid hX
  obtain ⟨n, hsn⟩ : ∃ n, s.spec.length = n := ⟨_, rfl⟩
  rw [hst]
  rw [hst] at hc1
  rw [hsn] at hn hi hst hc1 ⊢
  have HST := Lib.hid hst
  have HKL : Hid ((icells s.staged).length = n * 1) := by rw [Hid, icells_length, hst]; omega
  obtain ⟨x, hx⟩ := getElem?_of_lt (l := s.staged) (k := i) (by rw [hst]; exact hi)
  have HXI := Lib.hid hx
  obtain ⟨i3, hi3, hz30, hz31, hz32⟩ := info_parts info3
  have hm0 : 0 ≤ maxLen := Nat.zero_le _
  unfold maxLen at hc2
  obtain ⟨W, hW⟩ : ∃ W, (w.alloc (.cells #[Value.int .i64 s.first, .int .i64 s.blocks, .slice (some ⟨b, off, none⟩) n q.c1, .slice q.Q2 n q.c2, .slice q.Q3 s.saved.length q.c3, .int .i64 s.seq, .int .i64 s.block, .int .i64 s.slot, .slice q.Q4 q.n4 q.c4, .slice q.Q5 q.n5 q.c5, .int .i64 q.pg, .int .i64 q.er, .int .i64 q.nb, .int .i64 q.ns, .bool false] 46)).alloc (.cells #[.int .i64 0, .int .i64 0, .slice none 0 0, .slice none 0 0, .slice none 0 0, .int .i64 0, .int .i64 0, .int .i64 0, .slice none 0 0, .slice none 0 0, .int .i64 0, .int .i64 0, .int .i64 0, .int .i64 0, .bool false] 46) = W := ⟨_, rfl⟩
  have HX := Lib.hid (Hx.new hW.symm ⟨_, rfl, rfl⟩)
  have r14 := HX.out.row 14 rfl
  have r2 := HX.out.row 2 rfl
  have r3 := HX.out.row 3 rfl
  have HB := HX.out.below
  have g0 := (HB.cell (p := ⟨b, off + i * 3, none⟩) (World.block_lt_of_cell? w _ c0)).trans c0
  have g1 := (HB.cell (p := ⟨b, off + i * 3 + 1, none⟩) (World.block_lt_of_cell? w _ c1)).trans c1
  have HBB := Lib.hid HB
  have hi0 : decide ((i : Int) < 0) = false := by simp
  have hi1 : decide (n ≤ i) = false := by simpa using hi
  obtain ⟨hv1, hv2⟩ := hv
  have hv3 : decide (v < p.lo) = false := by simpa using hv1
  have hv4 : decide (p.hi < v) = false := by simpa using hv2
  have r3a : (W.alloc (.cells #[] 3)).cell? ⟨w.heap.size, 3, none⟩ = some (.slice q.Q2 n q.c2) := ((below_one W _).cell (p := ⟨w.heap.size, 3, none⟩) (World.block_lt_of_cell? W _ r3)).trans r3
  clear c0 c1 c2 HB hsn hst hp hA hS hX hQ hx hv1 hv2
  go_enter Try.func73, Try.ntmps73
  go_upto_region 7 with (fail)
  try rw [hW]
  clear hW
  go_wp2_with (at_builtin; refine wpList_append_rd _ rfl _ _ 35 rfl w.heap.size 3 i3 (.int .i64 0) 1 8 Try.underlying35 hi3 hz30 hz31 hz32 rfl (by omega) _ 0 [] rfl (World.ownsRow_lit W #[] 0 HBB.out.size hm0 rfl) w.heap.size _ n q.c2 (icells s.staged) rfl ((HS.out.rd.below HBB.out (Nat.le_refl _)).below (below_one W _) HBB.out.size) HKL.out (icells_one _) (by unfold maxLen; omega) (by omega) (by have := HBB.out.size; simp; omega) ?_)
  intro v5 w5 hown5 hgrow5 _
  have ho5 : w5.ownsRow w.heap.size 3 1 v5 n (icells s.staged) := by simpa using hown5
  have HX5 : Hid (Hx w w5 w.heap.size (w.heap.size + 1) #[Value.int .i64 s.first, .int .i64 s.blocks, .slice (some ⟨b, off, none⟩) n q.c1, .slice q.Q2 n q.c2, .slice q.Q3 s.saved.length q.c3, .int .i64 s.seq, .int .i64 s.block, .int .i64 s.slot, .slice q.Q4 q.n4 q.c4, .slice q.Q5 q.n5 q.c5, .int .i64 q.pg, .int .i64 q.er, .int .i64 q.nb, .int .i64 q.ns, .bool false]) :=
    (HX.out.later (below_one W _)).grown hgrow5 (fun e => by have hk' : some W.heap.size = some w.heap.size := e; injection hk' with hk'; have := HX.out.lt.1; omega) (fun e => by have hk' : some W.heap.size = some (w.heap.size + 1) := e; injection hk' with hk'; have := HX.out.lt.2; omega) (fun k e => by have hk' : some W.heap.size = some k := e; injection hk' with hk'; have := HX.out.lt.1; omega)
  obtain ⟨Q, cq, rfl, hq1, hq2, hq3⟩ := own_form ho5
  obtain ⟨g, rfl, hg1, hg2⟩ := hq3 (by omega)
  have hD1 : ¬ w.heap.size = g := own_apart ho5 HX5.out.h (by decide)
  have hD2 : ¬ w.heap.size + 1 = g := by
    obtain ⟨old, _, h8⟩ := HX5.out.h8
    exact own_apart ho5 h8 (by decide)
  have hD1' : ¬ g = w.heap.size := fun e => hD1 e.symm
  have z3 := HX5.out.row 3 rfl
  have zf := HX5.out.fz 3
  have y0 := own_i HST.out ho5 HXI.out
  have yf : w5.frozen? ⟨g, i, none⟩ = false := ho5.frozenAt i
  have HO5 := Lib.hid ho5
  clear hown5 hgrow5 ho5 r2 r3 r14 r3a g0 g1
  go_upto_region 9 with (fail)
  have HX9 : Hid (Hx w ((w5.setCell ⟨w.heap.size, 3, none⟩ (.slice (some ⟨g, 0, none⟩) n cq)).setCell ⟨g, i, none⟩ (.int .i64 v)) w.heap.size (w.heap.size + 1) #[Value.int .i64 s.first, .int .i64 s.blocks, .slice (some ⟨b, off, none⟩) n q.c1, .slice (some ⟨g, 0, none⟩) n cq, .slice q.Q3 s.saved.length q.c3, .int .i64 s.seq, .int .i64 s.block, .int .i64 s.slot, .slice q.Q4 q.n4 q.c4, .slice q.Q5 q.n5 q.c5, .int .i64 q.pg, .int .i64 q.er, .int .i64 q.nb, .int .i64 q.ns, .bool false]) :=
    (HX5.out.set 3 (.slice (some ⟨g, 0, none⟩) n cq)).far (.int .i64 v) hg1 hD1 hD2
  have HO9 : Hid (((w5.setCell ⟨w.heap.size, 3, none⟩ (.slice (some ⟨g, 0, none⟩) n cq)).setCell ⟨g, i, none⟩ (.int .i64 v)).ownsRow w.heap.size 3 1 (.slice (some ⟨g, 0, none⟩) n cq) n (icells (s.staged.set i v))) :=
    own_set_i (own_far HO5.out hD1) i v
  obtain ⟨W9, hW9⟩ : ∃ W9, (w5.setCell ⟨w.heap.size, 3, none⟩ (.slice (some ⟨g, 0, none⟩) n cq)).setCell ⟨g, i, none⟩ (.int .i64 v) = W9 := ⟨_, rfl⟩
  rw [hW9] at HX9 HO9
  try rw [hW9]
  clear hW9 z3 zf y0 yf
  refine wp_region_list ?_
  refine wpList_load_row rfl 46 _ rfl w.heap.size rfl 46 _ (0, 0) _ HX9.out.h Try.underlying46 rfl size105 ?_
  obtain ⟨old8, ho8, hh8⟩ := HX9.out.h8
  refine wpList_store_row rfl 46 _ _ rfl (w.heap.size + 1) _ rfl rfl 46 old8 hh8 size105 ho8 (one15 ..) ?_
  go_wp2
  (try simp only [Exit.inBlock, Exit.then])
  refine bodyPost_ret (v := .tuple #[.agg #[Value.int .i64 s.first, .int .i64 s.blocks, .slice (some ⟨b, off, none⟩) n q.c1, .slice (some ⟨g, 0, none⟩) n cq, .slice q.Q3 s.saved.length q.c3, .int .i64 s.seq, .int .i64 s.block, .int .i64 s.slot, .slice q.Q4 q.n4 q.c4, .slice q.Q5 q.n5 q.c5, .int .i64 q.pg, .int .i64 q.er, .int .i64 q.nb, .int .i64 q.ns, .bool false], .int .i64 0]) (results_row_tmp (p := 6) (u := 7) rfl _ _ (w.heap.size + 1) 46 #[Value.int .i64 s.first, .int .i64 s.blocks, .slice (some ⟨b, off, none⟩) n q.c1, .slice (some ⟨g, 0, none⟩) n cq, .slice q.Q3 s.saved.length q.c3, .int .i64 s.seq, .int .i64 s.block, .int .i64 s.slot, .slice q.Q4 q.n4 q.c4, .slice q.Q5 q.n5 q.c5, .int .i64 q.pg, .int .i64 q.er, .int .i64 q.nb, .int .i64 q.ns, .bool false] (0, 0) _ rfl (setRow_heap _ _ _ _ _ _ hh8) Try.underlying46 rfl size105) rfl ⟨g, cq, rfl, below_setRow HX9.out.below HX9.out.big.2 _, ?_, hq1, hq2⟩
  refine RdX.own (by rw [icells_length, List.length_set]; exact HST.out) (own_setRow HO9.out hD2 _) (fun k hk hx => ?_)
  have e : g = k := by simpa [Value.ownBlock] using hk
  have := HXX.out k hx
  omega

/-- Set, one contract. -/
theorem set_r {X : Nat → Prop} {f : Fl} {w : World} {q : Qv} {s : St} {p : Nat} (h : RvA X w q s p) (ho : StOk f s) (hX : ∀ b, X b → b < w.heap.size) (i v : Int) :
    Calls Try.prog 73 #[q.v s, .int .i64 i, .int .i64 v] w fun e w' => ∃ q' : Qv, e = .returned (.tuple #[q'.v (setF s i v), .int .i64 (setE s i v)]) ∧ RvA X w' q' (setF s i v) p ∧ Below w.heap.size w w' := by
  have stay : ∀ k : Int, setE s i v = k → k ≠ 0 → setF s i v = s := fun k e hk => by unfold setF; rw [e, if_neg hk]
  by_cases hb : s.broken = true
  · have he : setE s i v = 20 := by unfold setE; rw [if_pos hb]
    rw [stay 20 he (by decide), he]
    have := set_rb w q s i v
    unfold Qv.v
    rw [hb]
    exact this.mono fun e w' ⟨h1, h2⟩ => ⟨q, h1, h.below h2, h2⟩
  have hb' : s.broken = false := by simpa using hb
  by_cases hi : i < 0 ∨ (s.spec.length : Int) ≤ i
  · have he : setE s i v = 10 := by unfold setE; rw [if_neg hb, if_pos hi]
    rw [stay 10 he (by decide), he]
    have := set_ri w q s i v ho.n2 hi
    unfold Qv.v
    rw [hb']
    exact this.mono fun e w' ⟨h1, h2⟩ => ⟨q, h1, h.below h2, h2⟩
  obtain ⟨k, rfl⟩ := Int.eq_ofNat_of_zero_le (a := i) (by omega)
  obtain ⟨pr, hp⟩ := getElem?_of_lt (l := s.spec) (k := k) (by omega)
  have he := setE_zero (v := v) hb' rfl (by omega) hp
  by_cases hv : pr.lo ≤ v ∧ v ≤ pr.hi
  · rw [if_pos hv] at he
    have hs : setF s k v = { s with staged := s.staged.set k v } := by unfold setF; rw [if_pos he, Int.toNat_natCast]
    rw [hs, he]
    have := set_ro w q s k v pr hX ho.n2 ho.tl h.a h.b h.b1 h.b2 hp hv
    unfold Qv.v
    rw [hb']
    refine this.mono fun e w' ⟨g, c', h1, h2, h3, h4, h5⟩ => ⟨{ q with Q2 := some ⟨g, 0, none⟩, c2 := c' }, ?_, ?_, h2⟩
    · rw [h1]
      simp only [List.length_set, hb']
    · have hl := h.below h2
      exact ⟨hl.a, hl.a1, hl.a2, h3, by simpa using h4, h5, hl.c, hl.cc1, hl.cc2, hl.d1, hl.d2, hl.e1, hl.e2, fun _ e2 => ⟨(hl.wr hb' e2).vr, (hl.wr hb' e2).vl, (hl.wr hb' e2).pr, (hl.wr hb' e2).pl, (hl.wr hb' e2).at', (hl.wr hb' e2).er, (hl.wr hb' e2).nb, (hl.wr hb' e2).ns⟩, fun _ e2 => hl.no hb' e2⟩
  · rw [if_neg hv] at he
    rw [stay 3 he (by decide), he]
    have := set_rr w q s k v pr ho.n2 h.a hp (by omega)
    unfold Qv.v
    rw [hb']
    exact this.mono fun e w' ⟨h1, h2⟩ => ⟨q, h1, h.below h2, h2⟩
end Go.Proofs.Ytjdknddnanopaaa
