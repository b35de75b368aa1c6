
/-
  The reference of layer 51: Begin.
-/
import Derived.Test.YtjdknddnanopaaaRW79
namespace Go.Proofs.Ytjdknddnanopaaa
open Go.RowKit
set_option linter.unusedVariables false
set_option linter.unusedSimpArgs false

theorem enter103 (args : Array Value) (w : World) : (callFunc 104 args).run Try.prog w = .ok (.enter 104 args) w := by
  go_simp
theorem enter104 (args : Array Value) (w : World) : (callFunc 133 args).run Try.prog w = .ok (.enter 133 args) w := by
  go_simp
/-- X, and three blocks. -/
def X3 (X : Nat → Prop) (N : Nat) (b : Nat) : Prop := X b ∨ (N ≤ b ∧ b ≤ N + 2)
theorem X3.lt {X : Nat → Prop} {N M : Nat} (h : ∀ b, X b → b < N) (hM : N + 2 < M) : ∀ b, X3 X N b → b < M := fun b hb => by
  rcases hb with h1 | h1
  · have := h b h1
    omega
  · omega
theorem x30 (X : Nat → Prop) (N : Nat) : X3 X N N := .inr ⟨Nat.le_refl _, Nat.le_add_right _ _⟩
theorem x31 (X : Nat → Prop) (N : Nat) : X3 X N (N + 1) := .inr ⟨Nat.le_add_right _ _, by omega⟩
theorem x32 (X : Nat → Prop) (N : Nat) : X3 X N (N + 2) := .inr ⟨Nat.le_add_right _ _, by omega⟩
/-- The boxes of a store and of a flash, and that of the result. -/
structure Hz (w wr : World) (l f : Array Value) : Prop where
  below : Below w.heap.size w wr
  h : wr.heap[w.heap.size]? = some (.cells l 46 (0, 0))
  h4 : wr.heap[w.heap.size + 1]? = some (.cells f 37 (0, 0))
  h8 : ∃ old : Array Value, old.size = 15 ∧ wr.heap[w.heap.size + 2]? = some (.cells old 46 (0, 0))
section
variable {w wr w' : World} {l f : Array Value}
theorem Hz.lt (h : Hz w wr l f) : w.heap.size + 2 < wr.heap.size := by
  obtain ⟨old, _, h8⟩ := h.h8
  exact (Array.getElem?_eq_some_iff.1 h8).1
theorem Hz.later (h : Hz w wr l f) (hb : Below wr.heap.size wr w') : Hz w w' l f := by
  have hl := h.lt
  obtain ⟨old, ho, h8⟩ := h.h8
  exact ⟨h.below.trans (hb.mono h.below.size), (hb.block _ (by omega)).trans h.h, (hb.block _ (by omega)).trans h.h4, ⟨old, ho, (hb.block _ hl).trans h8⟩⟩
theorem Hz.row (h : Hz w wr l f) (j : Nat) {u : Value} (hj : l[j]? = some u) : wr.cell? ⟨w.heap.size, j, none⟩ = some u := (cell_of_row wr _ j l 46 (0, 0) h.h).trans hj
theorem Hz.fz (h : Hz w wr l f) (j : Nat) : wr.frozen? ⟨w.heap.size, j, none⟩ = false := frozen_of_row wr _ j l 46 h.h
theorem Hz.frow (h : Hz w wr l f) (j : Nat) {u : Value} (hj : f[j]? = some u) : wr.cell? ⟨w.heap.size + 1, j, none⟩ = some u := (cell_of_row wr _ j f 37 (0, 0) h.h4).trans hj
theorem Hz.set (h : Hz w wr l f) (i : Nat) (v : Value) : Hz w (wr.setCell ⟨w.heap.size, i, none⟩ v) (l.setIfInBounds i v) f := by
  obtain ⟨old, ho, h8⟩ := h.h8
  exact ⟨h.below.setCell (p := ⟨w.heap.size, i, none⟩) (Nat.le_refl _) _, heap_setCell_same wr _ i l 46 v h.h, (heap_setCell_other wr ⟨w.heap.size, i, none⟩ _ v (by simp)).trans h.h4, ⟨old, ho, (heap_setCell_other wr ⟨w.heap.size, i, none⟩ _ v (by simp)).trans h8⟩⟩
theorem Hz.grown (h : Hz w wr l f) {row : Option Nat} (hg : wr.grownBy w' row) (hr : ∀ k, row = some k → w.heap.size + 2 < k) : Hz w w' l f := by
  have hl := h.lt
  obtain ⟨old, ho, h8⟩ := h.h8
  exact ⟨h.below.grown hg h.below.size (fun k hk => by have := hr k hk; omega), (hg.block _ (by omega) (fun e => by have := hr _ e.symm; omega)).trans h.h, (hg.block _ (by omega) (fun e => by have := hr _ e.symm; omega)).trans h.h4, ⟨old, ho, (hg.block _ hl (fun e => by have := hr _ e.symm; omega)).trans h8⟩⟩
theorem Hz.new {w V : World} {o : Obj} (hV : V = ((w.alloc (.cells l 46)).alloc (.cells f 37)).alloc o) (ho : ∃ old : Array Value, old.size = 15 ∧ o = .cells old 46) : Hz w V l f := by
  obtain ⟨old, h1, rfl⟩ := ho
  subst hV
  have s1 : ∀ (w : World) (o : Obj), (w.alloc o).heap.size = w.heap.size + 1 := fun w o => Array.size_push _
  have hA := fun (w : World) (o : Obj) (i : Nat) (hi : i < w.heap.size) => heap_alloc_old w o hi
  have hN := fun (w : World) (o : Obj) => heap_alloc_new w o
  refine ⟨?_, ?_, ?_, ⟨old, h1, ?_⟩⟩
  · exact ((below_two w _ _).alloc (by rw [s1, s1]; omega) _)
  · rw [hA _ _ _ (by rw [s1, s1]; omega), hA _ _ _ (by rw [s1]; omega)]
    exact hN _ _
  · rw [hA _ _ _ (by rw [s1, s1]; omega)]
    have := hN (w.alloc (.cells l 46)) (.cells f 37)
    rw [s1] at this
    exact this
  · have := hN ((w.alloc (.cells l 46)).alloc (.cells f 37)) (.cells old 46)
    rw [s1, s1] at this
    exact this
end
theorem RdX.x3 {X : Nat → Prop} {w w' : World} {A : Option Addr} {xs : List Value} (h : RdX X w A xs) (hb : Below w.heap.size w w') : RdX (X3 X w.heap.size) w' A xs := fun hx => by
  obtain ⟨b, off, e, hlt, hn, hc⟩ := h hx
  refine ⟨b, off, e, Nat.lt_of_lt_of_le hlt hb.size, fun hk => ?_, fun j u hu => (hb.cell (p := ⟨b, off + j, none⟩) hlt).trans (hc j u hu)⟩
  rcases hk with h1 | h1
  · exact hn h1
  · omega
theorem RAt.x3 {X : Nat → Prop} {w w' : World} {x : Rc} {g : Fl} (h : RAt X w x g) (hb : Below w.heap.size w w') : RAt (X3 X w.heap.size) w' x g :=
  ⟨h.ok, h.a.x3 hb, h.a1, h.a2, h.b.x3 hb, h.b1, h.b2, h.p.x3 hb, h.p1, h.p2⟩
def sameB (a b : List Int) (k : Nat) : Bool := decide (a.take k = b.take k)
theorem sameB_step {a b : List Int} {k : Nat} {x y : Int} (hx : a[k]? = some x) (hy : b[k]? = some y) : sameB a b (k + 1) = (sameB a b k && (x == y)) := by
  unfold sameB
  rw [take_snoc_get a k x hx, take_snoc_get b k y hy]
  by_cases h1 : a.take k = b.take k
  · by_cases h2 : x = y
    · subst h2; simp [h1]
    · simp [h1, h2]
  · have : ¬ (a.take k ++ [x] = b.take k ++ [y]) := fun e => h1 (List.append_inj_left' e rfl)
    simp [h1, this]
theorem sameB_end {a b : List Int} {k : Nat} (ha : a.length = k) (hb : b.length = k) : sameB a b k = decide (a = b) := by
  unfold sameB
  rw [List.take_of_length_le (by omega), List.take_of_length_le (by omega)]
set_option maxRecDepth 100000 in
set_option maxHeartbeats 8000000 in
theorem begin_rb (w : World) (q : Qv) (s : St) (x : Rc) (g : Fl) :
    Calls Try.prog 113 #[.agg #[Value.int .i64 s.first, .int .i64 s.blocks, .slice q.Q1 s.spec.length q.c1, .slice q.Q2 s.staged.length q.c2, .slice q.Q3 s.saved.length q.c3, .int .i64 s.seq, .int .i64 s.block, .int .i64 s.slot, .slice q.Q4 q.n4 q.c4, .slice q.Q5 q.n5 q.c5, .int .i64 q.pg, .int .i64 q.er, .int .i64 q.nb, .int .i64 q.ns, .bool true], .agg #[Value.slice x.A g.img.length x.c, .int .i64 g.pg, .slice x.B g.wear.length x.d, .bool g.down, .int .i64 g.fuse, .slice x.P g.picks.length x.r]] w fun e w' => e = .returned (.tuple #[.agg #[Value.int .i64 s.first, .int .i64 s.blocks, .slice q.Q1 s.spec.length q.c1, .slice q.Q2 s.staged.length q.c2, .slice q.Q3 s.saved.length q.c3, .int .i64 s.seq, .int .i64 s.block, .int .i64 s.slot, .slice q.Q4 q.n4 q.c4, .slice q.Q5 q.n5 q.c5, .int .i64 q.pg, .int .i64 q.er, .int .i64 q.nb, .int .i64 q.ns, .bool true], .int .i64 20]) ∧ Below w.heap.size w w' := by
  obtain ⟨W, hW⟩ : ∃ W, ((w.alloc (.cells #[Value.int .i64 s.first, .int .i64 s.blocks, .slice q.Q1 s.spec.length q.c1, .slice q.Q2 s.staged.length q.c2, .slice q.Q3 s.saved.length q.c3, .int .i64 s.seq, .int .i64 s.block, .int .i64 s.slot, .slice q.Q4 q.n4 q.c4, .slice q.Q5 q.n5 q.c5, .int .i64 q.pg, .int .i64 q.er, .int .i64 q.nb, .int .i64 q.ns, .bool true] 46)).alloc (.cells #[Value.slice x.A g.img.length x.c, .int .i64 g.pg, .slice x.B g.wear.length x.d, .bool g.down, .int .i64 g.fuse, .slice x.P g.picks.length x.r] 37)).alloc (.cells #[.int .i64 0, .int .i64 0, .slice none 0 0, .slice none 0 0, .slice none 0 0, .int .i64 0, .int .i64 0, .int .i64 0, .slice none 0 0, .slice none 0 0, .int .i64 0, .int .i64 0, .int .i64 0, .int .i64 0, .bool false] 46) = W := ⟨_, rfl⟩
  have HZ := Lib.hid (Hz.new hW.symm ⟨_, rfl, rfl⟩)
  have r14 := HZ.out.row 14 rfl
  have z14 := HZ.out.fz 14
  go_enter Try.func113, Try.ntmps113
  go_upto_region 3 with (fail)
  try rw [hW]
  clear hW
  have HZ3 : Hid (Hz w (W.setCell ⟨w.heap.size, 14, none⟩ (.bool true)) #[Value.int .i64 s.first, .int .i64 s.blocks, .slice q.Q1 s.spec.length q.c1, .slice q.Q2 s.staged.length q.c2, .slice q.Q3 s.saved.length q.c3, .int .i64 s.seq, .int .i64 s.block, .int .i64 s.slot, .slice q.Q4 q.n4 q.c4, .slice q.Q5 q.n5 q.c5, .int .i64 q.pg, .int .i64 q.er, .int .i64 q.nb, .int .i64 q.ns, .bool true] #[Value.slice x.A g.img.length x.c, .int .i64 g.pg, .slice x.B g.wear.length x.d, .bool g.down, .int .i64 g.fuse, .slice x.P g.picks.length x.r]) := HZ.out.set 14 (.bool true)
  obtain ⟨V, hV⟩ : ∃ V, W.setCell ⟨w.heap.size, 14, none⟩ (.bool true) = V := ⟨_, rfl⟩
  rw [hV] at HZ3
  try rw [hV]
  clear hV r14 z14
  refine wp_region_list ?_
  refine wpList_load_row rfl 46 _ rfl w.heap.size rfl 46 #[Value.int .i64 s.first, .int .i64 s.blocks, .slice q.Q1 s.spec.length q.c1, .slice q.Q2 s.staged.length q.c2, .slice q.Q3 s.saved.length q.c3, .int .i64 s.seq, .int .i64 s.block, .int .i64 s.slot, .slice q.Q4 q.n4 q.c4, .slice q.Q5 q.n5 q.c5, .int .i64 q.pg, .int .i64 q.er, .int .i64 q.nb, .int .i64 q.ns, .bool true] (0, 0) _ HZ3.out.h Try.underlying46 rfl size105 ?_
  obtain ⟨old8, ho8, hh8⟩ := HZ3.out.h8
  refine wpList_store_row rfl 46 _ _ rfl (w.heap.size + 2) #[Value.int .i64 s.first, .int .i64 s.blocks, .slice q.Q1 s.spec.length q.c1, .slice q.Q2 s.staged.length q.c2, .slice q.Q3 s.saved.length q.c3, .int .i64 s.seq, .int .i64 s.block, .int .i64 s.slot, .slice q.Q4 q.n4 q.c4, .slice q.Q5 q.n5 q.c5, .int .i64 q.pg, .int .i64 q.er, .int .i64 q.nb, .int .i64 q.ns, .bool true] rfl rfl 46 old8 hh8 size105 ho8 (one15 ..) ?_
  go_wp2
  (try simp only [Exit.inBlock, Exit.then])
  refine bodyPost_ret (v := .tuple #[.agg #[Value.int .i64 s.first, .int .i64 s.blocks, .slice q.Q1 s.spec.length q.c1, .slice q.Q2 s.staged.length q.c2, .slice q.Q3 s.saved.length q.c3, .int .i64 s.seq, .int .i64 s.block, .int .i64 s.slot, .slice q.Q4 q.n4 q.c4, .slice q.Q5 q.n5 q.c5, .int .i64 q.pg, .int .i64 q.er, .int .i64 q.nb, .int .i64 q.ns, .bool true], .int .i64 20]) (results_row_tmp (p := 4) (u := 5) rfl _ _ (w.heap.size + 2) 46 #[Value.int .i64 s.first, .int .i64 s.blocks, .slice q.Q1 s.spec.length q.c1, .slice q.Q2 s.staged.length q.c2, .slice q.Q3 s.saved.length q.c3, .int .i64 s.seq, .int .i64 s.block, .int .i64 s.slot, .slice q.Q4 q.n4 q.c4, .slice q.Q5 q.n5 q.c5, .int .i64 q.pg, .int .i64 q.er, .int .i64 q.nb, .int .i64 q.ns, .bool true] (0, 0) _ rfl (setRow_heap _ _ _ _ _ _ hh8) Try.underlying46 rfl size105) rfl ⟨rfl, below_setRow HZ3.out.below (by omega) _⟩
set_option maxRecDepth 100000 in
set_option maxHeartbeats 8000000 in
theorem begin_ru (w : World) (q : Qv) (s : St) (x : Rc) (g : Fl) (m c5 : Nat) (hm : 0 < m) (hm8 : m ≤ 8) :
    Calls Try.prog 113 #[.agg #[Value.int .i64 s.first, .int .i64 s.blocks, .slice q.Q1 s.spec.length q.c1, .slice q.Q2 s.staged.length q.c2, .slice q.Q3 s.saved.length q.c3, .int .i64 s.seq, .int .i64 s.block, .int .i64 s.slot, .slice q.Q4 q.n4 q.c4, .slice q.Q5 m c5, .int .i64 q.pg, .int .i64 q.er, .int .i64 q.nb, .int .i64 q.ns, .bool false], .agg #[Value.slice x.A g.img.length x.c, .int .i64 g.pg, .slice x.B g.wear.length x.d, .bool false, .int .i64 g.fuse, .slice x.P g.picks.length x.r]] w fun e w' => e = .returned (.tuple #[.agg #[Value.int .i64 s.first, .int .i64 s.blocks, .slice q.Q1 s.spec.length q.c1, .slice q.Q2 s.staged.length q.c2, .slice q.Q3 s.saved.length q.c3, .int .i64 s.seq, .int .i64 s.block, .int .i64 s.slot, .slice q.Q4 q.n4 q.c4, .slice q.Q5 m c5, .int .i64 q.pg, .int .i64 q.er, .int .i64 q.nb, .int .i64 q.ns, .bool false], .int .i64 14]) ∧ Below w.heap.size w w' := by
  obtain ⟨W, hW⟩ : ∃ W, ((w.alloc (.cells #[Value.int .i64 s.first, .int .i64 s.blocks, .slice q.Q1 s.spec.length q.c1, .slice q.Q2 s.staged.length q.c2, .slice q.Q3 s.saved.length q.c3, .int .i64 s.seq, .int .i64 s.block, .int .i64 s.slot, .slice q.Q4 q.n4 q.c4, .slice q.Q5 m c5, .int .i64 q.pg, .int .i64 q.er, .int .i64 q.nb, .int .i64 q.ns, .bool false] 46)).alloc (.cells #[Value.slice x.A g.img.length x.c, .int .i64 g.pg, .slice x.B g.wear.length x.d, .bool false, .int .i64 g.fuse, .slice x.P g.picks.length x.r] 37)).alloc (.cells #[.int .i64 0, .int .i64 0, .slice none 0 0, .slice none 0 0, .slice none 0 0, .int .i64 0, .int .i64 0, .int .i64 0, .slice none 0 0, .slice none 0 0, .int .i64 0, .int .i64 0, .int .i64 0, .int .i64 0, .bool false] 46) = W := ⟨_, rfl⟩
  have HZ := Lib.hid (Hz.new hW.symm ⟨_, rfl, rfl⟩)
  have r14 := HZ.out.row 14 rfl
  have r9 := HZ.out.row 9 rfl
  have f3 := HZ.out.frow 3 rfl
  have hm0 : (0 : Int) < (m : Int) := by omega
  go_enter Try.func113, Try.ntmps113
  go_upto_region 5 with (fail)
  try rw [hW]
  clear hW
  refine wp_region_list ?_
  refine wpList_load_row rfl 46 _ rfl w.heap.size rfl 46 #[Value.int .i64 s.first, .int .i64 s.blocks, .slice q.Q1 s.spec.length q.c1, .slice q.Q2 s.staged.length q.c2, .slice q.Q3 s.saved.length q.c3, .int .i64 s.seq, .int .i64 s.block, .int .i64 s.slot, .slice q.Q4 q.n4 q.c4, .slice q.Q5 m c5, .int .i64 q.pg, .int .i64 q.er, .int .i64 q.nb, .int .i64 q.ns, .bool false] (0, 0) _ HZ.out.h Try.underlying46 rfl size105 ?_
  obtain ⟨old8, ho8, hh8⟩ := HZ.out.h8
  refine wpList_store_row rfl 46 _ _ rfl (w.heap.size + 2) #[Value.int .i64 s.first, .int .i64 s.blocks, .slice q.Q1 s.spec.length q.c1, .slice q.Q2 s.staged.length q.c2, .slice q.Q3 s.saved.length q.c3, .int .i64 s.seq, .int .i64 s.block, .int .i64 s.slot, .slice q.Q4 q.n4 q.c4, .slice q.Q5 m c5, .int .i64 q.pg, .int .i64 q.er, .int .i64 q.nb, .int .i64 q.ns, .bool false] rfl rfl 46 old8 hh8 size105 ho8 (one15 ..) ?_
  go_wp2
  (try simp only [Exit.inBlock, Exit.then])
  refine bodyPost_ret (v := .tuple #[.agg #[Value.int .i64 s.first, .int .i64 s.blocks, .slice q.Q1 s.spec.length q.c1, .slice q.Q2 s.staged.length q.c2, .slice q.Q3 s.saved.length q.c3, .int .i64 s.seq, .int .i64 s.block, .int .i64 s.slot, .slice q.Q4 q.n4 q.c4, .slice q.Q5 m c5, .int .i64 q.pg, .int .i64 q.er, .int .i64 q.nb, .int .i64 q.ns, .bool false], .int .i64 14]) (results_row_tmp (p := 4) (u := 5) rfl _ _ (w.heap.size + 2) 46 #[Value.int .i64 s.first, .int .i64 s.blocks, .slice q.Q1 s.spec.length q.c1, .slice q.Q2 s.staged.length q.c2, .slice q.Q3 s.saved.length q.c3, .int .i64 s.seq, .int .i64 s.block, .int .i64 s.slot, .slice q.Q4 q.n4 q.c4, .slice q.Q5 m c5, .int .i64 q.pg, .int .i64 q.er, .int .i64 q.nb, .int .i64 q.ns, .bool false] (0, 0) _ rfl (setRow_heap _ _ _ _ _ _ hh8) Try.underlying46 rfl size105) rfl ⟨rfl, below_setRow HZ.out.below (by omega) _⟩
set_option maxRecDepth 100000 in
set_option maxHeartbeats 8000000 in
theorem begin_rs {X : Nat → Prop} (w : World) (q : Qv) (s : St) (x : Rc) (g : Fl) (n c5 : Nat) (hn48 : n ≤ 48) (hA : RdX X w q.Q2 (icells s.staged)) (hB : RdX X w q.Q3 (icells s.saved)) (htl : s.staged.length = n) (hsl : s.saved.length = n) (hsame : s.staged = s.saved) :
    Calls Try.prog 113 #[.agg #[Value.int .i64 s.first, .int .i64 s.blocks, .slice q.Q1 n q.c1, .slice q.Q2 n q.c2, .slice q.Q3 n q.c3, .int .i64 s.seq, .int .i64 s.block, .int .i64 s.slot, .slice q.Q4 q.n4 q.c4, .slice q.Q5 0 c5, .int .i64 q.pg, .int .i64 q.er, .int .i64 q.nb, .int .i64 q.ns, .bool false], .agg #[Value.slice x.A g.img.length x.c, .int .i64 g.pg, .slice x.B g.wear.length x.d, .bool false, .int .i64 g.fuse, .slice x.P g.picks.length x.r]] w fun e w' => e = .returned (.tuple #[.agg #[Value.int .i64 s.first, .int .i64 s.blocks, .slice q.Q1 n q.c1, .slice q.Q2 n q.c2, .slice q.Q3 n q.c3, .int .i64 s.seq, .int .i64 s.block, .int .i64 s.slot, .slice q.Q4 q.n4 q.c4, .slice q.Q5 0 c5, .int .i64 q.pg, .int .i64 q.er, .int .i64 q.nb, .int .i64 q.ns, .bool false], .int .i64 12]) ∧ Below w.heap.size w w' := by
  have HSM := Lib.hid hsame
  clear hsame
  obtain ⟨W, hW⟩ : ∃ W, ((w.alloc (.cells #[Value.int .i64 s.first, .int .i64 s.blocks, .slice q.Q1 n q.c1, .slice q.Q2 n q.c2, .slice q.Q3 n q.c3, .int .i64 s.seq, .int .i64 s.block, .int .i64 s.slot, .slice q.Q4 q.n4 q.c4, .slice q.Q5 0 c5, .int .i64 q.pg, .int .i64 q.er, .int .i64 q.nb, .int .i64 q.ns, .bool false] 46)).alloc (.cells #[Value.slice x.A g.img.length x.c, .int .i64 g.pg, .slice x.B g.wear.length x.d, .bool false, .int .i64 g.fuse, .slice x.P g.picks.length x.r] 37)).alloc (.cells #[.int .i64 0, .int .i64 0, .slice none 0 0, .slice none 0 0, .slice none 0 0, .int .i64 0, .int .i64 0, .int .i64 0, .slice none 0 0, .slice none 0 0, .int .i64 0, .int .i64 0, .int .i64 0, .int .i64 0, .bool false] 46) = W := ⟨_, rfl⟩
  have HZ := Lib.hid (Hz.new hW.symm ⟨_, rfl, rfl⟩)
  have HA := Lib.hid hA
  have HB := Lib.hid hB
  have HTL := Lib.hid htl
  have HSL := Lib.hid hsl
  have r14 := HZ.out.row 14 rfl
  have r9 := HZ.out.row 9 rfl
  have f3 := HZ.out.frow 3 rfl
  have r3 := HZ.out.row 3 rfl
  clear hA hB htl hsl
  go_enter Try.func113, Try.ntmps113
  go_upto_region 8 with (fail)
  try rw [hW]
  clear hW r14 r9 f3 r3
  go_loopw [6, 7, 26] (fun b i7 i wr => ∃ k : Nat, k ≤ n ∧ i = .int .i64 k ∧ b = .bool (sameB s.staged s.saved k) ∧ Hz w wr #[Value.int .i64 s.first, .int .i64 s.blocks, .slice q.Q1 n q.c1, .slice q.Q2 n q.c2, .slice q.Q3 n q.c3, .int .i64 s.seq, .int .i64 s.block, .int .i64 s.slot, .slice q.Q4 q.n4 q.c4, .slice q.Q5 0 c5, .int .i64 q.pg, .int .i64 q.er, .int .i64 q.nb, .int .i64 q.ns, .bool false] #[Value.slice x.A g.img.length x.c, .int .i64 g.pg, .slice x.B g.wear.length x.d, .bool false, .int .i64 g.fuse, .slice x.P g.picks.length x.r]) (fun _ _ i _ => n - (intOf i).toNat)
  case atStart => exact ⟨0, Nat.zero_le _, rfl, rfl, HZ.out⟩
  case round =>
    obtain ⟨k, hk, rfl, rfl, hz⟩ := hrel
    have HZR := Lib.hid hz
    clear hz
    by_cases hlt : k < n
    · obtain ⟨a, ha⟩ := getElem?_of_lt (l := s.staged) (k := k) (by rw [HTL.out]; exact hlt)
      obtain ⟨b, hb⟩ := getElem?_of_lt (l := s.saved) (k := k) (by rw [HSL.out]; exact hlt)
      have HST := Lib.hid (sameB_step ha hb)
      obtain ⟨ba, oa, e1, _, c0⟩ := ((HA.out.below HZR.out.below).rd).int ha
      obtain ⟨bb, ob, e2, _, c1⟩ := ((HB.out.below HZR.out.below).rd).int hb
      have r3 := HZR.out.row 3 rfl
      have r4 := HZR.out.row 4 rfl
      rw [e1] at r3
      rw [e2] at r4
      clear ha hb e1 e2
      have hkn : decide (n ≤ k) = false := by simpa using hlt
      cases hsb : sameB s.staged s.saved k
      · have HSB := Lib.hid hsb
        clear hsb
        go_upto_region 10 with (fail)
        go_quiet (fail)
        go_wp2
        go_roundw
        case rel => exact ⟨k + 1, by omega, by go_num, by rw [HST.out, HSB.out]; rfl, HZR.out.later (Below.drewN (Below.refl _ _) _)⟩
        case measure => simp [intOf]; omega
      · have HSB := Lib.hid hsb
        clear hsb
        go_upto_region 10 with (fail)
        go_quiet (fail)
        go_wp2
        go_roundw
        case rel => exact ⟨k + 1, by omega, by go_num, by rw [HST.out, HSB.out]; rfl, HZR.out.later (Below.drewN (Below.refl _ _) _)⟩
        case measure => simp [intOf]; omega
    · have hkn : k = n := by omega
      subst hkn
      have HSE := Lib.hid (sameB_end HTL.out HSL.out)
      rw [HSM.out, decide_eq_true rfl] at HSE
      have hse : sameB s.staged s.saved k = true := by rw [HSM.out]; exact HSE.out
      rw [hse]
      clear hse
      go_upto_region 13 with (fail)
      refine wp_region_list ?_
      refine wpList_load_row rfl 46 _ rfl w.heap.size rfl 46 #[Value.int .i64 s.first, .int .i64 s.blocks, .slice q.Q1 k q.c1, .slice q.Q2 k q.c2, .slice q.Q3 k q.c3, .int .i64 s.seq, .int .i64 s.block, .int .i64 s.slot, .slice q.Q4 q.n4 q.c4, .slice q.Q5 0 c5, .int .i64 q.pg, .int .i64 q.er, .int .i64 q.nb, .int .i64 q.ns, .bool false] (0, 0) _ HZR.out.h Try.underlying46 rfl size105 ?_
      obtain ⟨old8, ho8, hh8⟩ := HZR.out.h8
      refine wpList_store_row rfl 46 _ _ rfl (w.heap.size + 2) #[Value.int .i64 s.first, .int .i64 s.blocks, .slice q.Q1 k q.c1, .slice q.Q2 k q.c2, .slice q.Q3 k q.c3, .int .i64 s.seq, .int .i64 s.block, .int .i64 s.slot, .slice q.Q4 q.n4 q.c4, .slice q.Q5 0 c5, .int .i64 q.pg, .int .i64 q.er, .int .i64 q.nb, .int .i64 q.ns, .bool false] rfl rfl 46 old8 hh8 size105 ho8 (one15 ..) ?_
      go_wp2
      (try simp only [Exit.inBlock, Exit.then])
      refine bodyPost_ret (v := .tuple #[.agg #[Value.int .i64 s.first, .int .i64 s.blocks, .slice q.Q1 k q.c1, .slice q.Q2 k q.c2, .slice q.Q3 k q.c3, .int .i64 s.seq, .int .i64 s.block, .int .i64 s.slot, .slice q.Q4 q.n4 q.c4, .slice q.Q5 0 c5, .int .i64 q.pg, .int .i64 q.er, .int .i64 q.nb, .int .i64 q.ns, .bool false], .int .i64 12]) (results_row_tmp (p := 4) (u := 5) rfl _ _ (w.heap.size + 2) 46 #[Value.int .i64 s.first, .int .i64 s.blocks, .slice q.Q1 k q.c1, .slice q.Q2 k q.c2, .slice q.Q3 k q.c3, .int .i64 s.seq, .int .i64 s.block, .int .i64 s.slot, .slice q.Q4 q.n4 q.c4, .slice q.Q5 0 c5, .int .i64 q.pg, .int .i64 q.er, .int .i64 q.nb, .int .i64 q.ns, .bool false] (0, 0) _ rfl (setRow_heap _ _ _ _ _ _ hh8) Try.underlying46 rfl size105) rfl ⟨rfl, below_setRow HZR.out.below (by omega) _⟩
end Go.Proofs.Ytjdknddnanopaaa
