/-
  The reference of layer 52: Open.
-/
import Derived.Test.YtjdknddnanopaaaJ1
import Derived.Test.YtjdknddnanopaaaRW83
import Derived.Test.YtjdknddnanopaaaF8
import Derived.Deep.RegionHeld3
namespace Go.Proofs.Ytjdknddnanopaaa
open Go.RowKit
set_option linter.unusedVariables false
set_option linter.unusedSimpArgs false

/-- What a reference's bank has beside the bank that it shows. -/
structure Rb where
  q : Qv
  E : Option Addr
  ne : Nat
  ce : Nat
  P : Option Addr
  np : Nat
  cp : Nat
abbrev Rb.l (r : Rb) (b : Bk) : List Value := [.int .i64 b.first, .int .i64 b.blocks, .int .i64 b.st.first, .int .i64 b.st.blocks, .slice r.q.Q1 b.st.spec.length r.q.c1, .slice r.q.Q2 b.st.staged.length r.q.c2, .slice r.q.Q3 b.st.saved.length r.q.c3, .int .i64 b.st.seq, .int .i64 b.st.block, .int .i64 b.st.slot, .slice r.q.Q4 r.q.n4 r.q.c4, .slice r.q.Q5 r.q.n5 r.q.c5, .int .i64 r.q.pg, .int .i64 r.q.er, .int .i64 r.q.nb, .int .i64 r.q.ns, .bool b.st.broken,
  .int .i64 b.slot, .bool b.broken, .bool b.upload, .int .i64 b.dst, .int .i64 b.version, .int .i64 b.length, .int .i64 b.fed, .slice r.E r.ne r.ce, .slice r.P r.np r.cp]
abbrev Rb.v (r : Rb) (b : Bk) : Value := .agg #[.int .i64 b.first, .int .i64 b.blocks, .int .i64 b.st.first, .int .i64 b.st.blocks, .slice r.q.Q1 b.st.spec.length r.q.c1, .slice r.q.Q2 b.st.staged.length r.q.c2, .slice r.q.Q3 b.st.saved.length r.q.c3, .int .i64 b.st.seq, .int .i64 b.st.block, .int .i64 b.st.slot, .slice r.q.Q4 r.q.n4 r.q.c4, .slice r.q.Q5 r.q.n5 r.q.c5, .int .i64 r.q.pg, .int .i64 r.q.er, .int .i64 r.q.nb, .int .i64 r.q.ns, .bool b.st.broken,
  .int .i64 b.slot, .bool b.broken, .bool b.upload, .int .i64 b.dst, .int .i64 b.version, .int .i64 b.length, .int .i64 b.fed, .slice r.E r.ne r.ce, .slice r.P r.np r.cp]
def zeroB : Array Value := #[.int .i64 0, .int .i64 0, .int .i64 0, .int .i64 0, .slice none 0 0, .slice none 0 0, .slice none 0 0, .int .i64 0, .int .i64 0, .int .i64 0, .slice none 0 0, .slice none 0 0, .int .i64 0, .int .i64 0, .int .i64 0, .int .i64 0, .bool false, .int .i64 0, .bool false, .bool false, .int .i64 0, .int .i64 0, .int .i64 0, .int .i64 0, .slice none 0 0, .slice none 0 0]
theorem size48 : (Try.prog.info? 48).map (·.size) = some 26 := by kernel_rfl

/-- The boxes of a call that takes a flash and makes a bank. -/
structure Ob (w wr : World) (a b c d e f : Value) : Prop where
  below : Below w.heap.size w wr
  six : six wr w.heap.size a b c d e f
  h6 : ∃ old : Array Value, old.size = 26 ∧ wr.heap[w.heap.size + 1]? = some (.cells old 48 (0, 0))
theorem Ob.later {w wr w' : World} {a b c d e f : Value} (h : Ob w wr a b c d e f) (hb : Below wr.heap.size wr w') : Ob w w' a b c d e f := by
  obtain ⟨old, h1, h2⟩ := h.h6
  exact ⟨h.below.trans (hb.mono h.below.size), h.six.below hb h.six.lt, old, h1, (hb.block _ (Array.getElem?_eq_some_iff.1 h2).1).trans h2⟩
theorem Ob.new {w W : World} {a b c d e f : Value} {l : Array Value} (hl : l.size = 26) (h : (w.alloc (.cells #[a, b, c, d, e, f] 37)).alloc (.cells l 48) = W) : Ob w W a b c d e f := by
  subst h
  have hs : (w.alloc (.cells #[a, b, c, d, e, f] 37)).heap.size = w.heap.size + 1 := Array.size_push _
  refine ⟨below_two _ _ _, (six_new w a b c d e f 37 _ rfl).below ((Below.refl _ _).alloc (Nat.le_refl _) _) (by rw [hs]; omega), l, hl, ?_⟩
  rw [← hs]
  exact heap_alloc_new _ _

/-- The reference's Open of the state's store. -/
theorem ropen51 {X : Nat → Prop} {w : World} {x : Rc} {g : Fl} (h : RAt X w x g) (hX : ∀ b, X b → b < w.heap.size) {first blocks : Int} (hE : regE g first blocks = 0) {a : Nat} (hfa : first = a) {N : Nat} (hN : N ≤ 1000000) (A : Option Addr) (c : Nat) (hA : Rd w w.heap.size A (pcells (fwSpec N))) (hc : 9 ≤ c) (hcm : c ≤ maxLen) :
    Calls Try.prog 59 #[x.v g, .int .i64 first, .int .i64 2, .slice A 9 c] w fun e w' => ∃ q : Qv, e = .returned (.tuple #[q.v (openF g a 2 (fwSpec N)), .int .i64 0]) ∧ Below w.heap.size w w' ∧ RvA X w' q (openF g a 2 (fwSpec N)) g.pg := by
  have ho := reg_open hE N
  obtain ⟨hd, a', k, hfa', hbl, k1, k8, hw, hp⟩ := regE_zero hE
  have haa : a' = a := by omega
  subst haa
  subst hfa
  refine (open_ok9 h hX a' 2 A 9 c (fwSpec N) hA rfl hc hcm (fwSpec_ok hN) hd (by omega) (by omega) (by omega) (by omega) (by omega) (fwSpec_bad N) (by simp only [fwSpec, List.length_cons, List.length_nil, pgs]; omega)).mono ?_
  rintro e w' ⟨v, rfl, hb, h1, h2⟩
  have hs := openF_sch (fwSpec_ok hN) ho
  obtain ⟨q, hq1, hq2⟩ := (h1 ho).rv (p := g.pg) hs.re.1 hs.re.2.2.2.2.2.2.2
  exact ⟨q, by rw [hq1, ho], hb, hq2⟩

/-- What the reference's Open leaves. -/
def RFO (X : Nat → Prop) (w : World) (g : Fl) (first blocks : Int) (e : Ending) (w' : World) : Prop :=
  ∃ v, e = .returned (.tuple #[v, .int .i64 (fwOpenE g first blocks)]) ∧ Below w.heap.size w w' ∧ (fwOpenE g first blocks ≠ 0 → v = .agg zeroB) ∧ (fwOpenE g first blocks = 0 → ∃ r : Rb, v = r.v (fwOpenB g first blocks) ∧ r.ne = 0 ∧ r.np = 0 ∧ r.ce = 0 ∧ r.P = none ∧ r.cp = 0 ∧ RvA X w' r.q (fwOpenB g first blocks).st g.pg)
theorem one26z : (zeroB.all (·.oneCell')) = true := by unfold zeroB; simp [Value.oneCell']
theorem wpList_buildV {P : Program} {ops : Array Oper} {rest : List Oper} {o : Oper} {a : Act} {w : World} {Q : Exit → Act → World → Prop} (hg : o.guard = none) (t : TypeId) (parts : Array (Nat × Operand)) (ho : o.op = .build t parts)
    (vs : List (Nat × Value)) (hv : (parts.map fun (i, x) => (i, a.eval x)).toList = vs) (cs : Array Value) (hb : P.built t vs = some cs)
    (h : wpList P ops Q rest (a.put o.dst (.agg cs)) w) : wpList P ops Q (o :: rest) a w := by
  refine wpList_build hg t parts ho (by rw [hv, hb]; rfl) ?_
  rw [hv, hb]
  exact h
theorem built48 : Try.prog.built 48 [] = some zeroB := by kernel_rfl
set_option maxRecDepth 100000 in
set_option maxHeartbeats 8000000 in
theorem ropen16_no {X : Nat → Prop} {w : World} {x : Rc} {g : Fl} (h : RAt X w x g) (first blocks : Int) (hf1 : I64 first) (hb1 : I64 blocks) (hE : regE g first blocks ≠ 0) :
    Calls Try.prog 16 #[x.v g, .int .i64 first, .int .i64 blocks] w (RFO X w g first blocks) := by
  have HR := Lib.hid (fun w2 => rregion_r h first blocks hf1 hb1 w2)
  have HE : Hid (fwOpenE g first blocks = regE g first blocks) := by unfold fwOpenE; rw [Hid, if_pos hE]
  have HNE := Lib.hid hE
  obtain ⟨k, hk⟩ : ∃ k, regE g first blocks = k := ⟨_, rfl⟩
  have HK := Lib.hid hk
  rw [hk] at HR hE
  have hk0 : (k == 0) = false := by simpa using hE
  obtain ⟨A, c, B, d, P, r⟩ := x
  obtain ⟨n1, e1⟩ : ∃ n, g.img.length = n := ⟨_, rfl⟩
  obtain ⟨n2, e2⟩ : ∃ n, g.wear.length = n := ⟨_, rfl⟩
  obtain ⟨n3, e3⟩ : ∃ n, g.picks.length = n := ⟨_, rfl⟩
  simp only [Rc.v] at HR ⊢
  rw [e1, e2, e3] at HR ⊢
  obtain ⟨W, hW⟩ : ∃ W, (w.alloc (.cells #[.slice A n1 c, .int .i64 g.pg, .slice B n2 d, .bool g.down, .int .i64 g.fuse, .slice P n3 r] 37)).alloc (.cells zeroB 48) = W := ⟨_, rfl⟩
  have HO := Lib.hid (Ob.new rfl hW)
  obtain ⟨d0, d1, d2, d3, d4, d5, -⟩ := HO.out.six
  unfold zeroB at hW
  clear h hk hE e1 e2 e3
  go_enter Try.func16, Try.ntmps16
  go_wp2_with (fail)
  try rw [hW]
  clear hW
  (with_reducible refine (HR.out W).mono ?_)
  rintro e w1 ⟨rfl, hb⟩
  have HO1 := Lib.hid (HO.out.later hb)
  clear hb d0 d1 d2 d3 d4 d5
  obtain ⟨old, ho1, ho2⟩ := HO1.out.h6
  go_upto_region 3 with (fail)
  refine wp_region_list ?_
  refine wpList_buildV rfl 48 #[] rfl [] (by simp) zeroB built48 ?_
  refine wpList_value (v := .int .i64 k) rfl (by rfl) ?_
  refine wpList_store_row rfl 48 _ _ rfl (w.heap.size + 1) zeroB rfl rfl 48 old ho2 size48 (ho1.trans rfl) one26z ?_
  go_wp2
  (try simp only [Exit.inBlock, Exit.then])
  refine bodyPost_ret (v := .tuple #[.agg zeroB, .int .i64 k]) (results_row_tmp (p := 6) (u := 7) rfl _ _ (w.heap.size + 1) 48 zeroB (0, 0) _ rfl (setRow_heap _ _ _ _ _ _ ho2) Try.underlying48 rfl size48) rfl ⟨.agg zeroB, by rw [HE.out, HK.out], below_setRow HO1.out.below (Nat.le_succ _) _, fun _ => rfl, fun e => absurd (HE.out.symm.trans e) HNE.out⟩
/-- The cells of a box of a store that is new. -/
theorem fifteen {w : World} {B : Nat} (h : w.heap[B]? = some (.cells #[.int .i64 0, .int .i64 0, .slice none 0 0, .slice none 0 0, .slice none 0 0, .int .i64 0, .int .i64 0, .int .i64 0, .slice none 0 0, .slice none 0 0, .int .i64 0, .int .i64 0, .int .i64 0, .int .i64 0, .bool false] 46 (0, 0))) : w.cell? ⟨B, 0, none⟩ = some (.int .i64 0) ∧ w.cell? ⟨B, 1, none⟩ = some (.int .i64 0) ∧ w.cell? ⟨B, 2, none⟩ = some (.slice none 0 0) ∧ w.cell? ⟨B, 3, none⟩ = some (.slice none 0 0) ∧ w.cell? ⟨B, 4, none⟩ = some (.slice none 0 0) ∧ w.cell? ⟨B, 5, none⟩ = some (.int .i64 0) ∧ w.cell? ⟨B, 6, none⟩ = some (.int .i64 0) ∧ w.cell? ⟨B, 7, none⟩ = some (.int .i64 0) ∧ w.cell? ⟨B, 8, none⟩ = some (.slice none 0 0) ∧ w.cell? ⟨B, 9, none⟩ = some (.slice none 0 0) ∧ w.cell? ⟨B, 10, none⟩ = some (.int .i64 0) ∧ w.cell? ⟨B, 11, none⟩ = some (.int .i64 0) ∧ w.cell? ⟨B, 12, none⟩ = some (.int .i64 0) ∧ w.cell? ⟨B, 13, none⟩ = some (.int .i64 0) ∧ w.cell? ⟨B, 14, none⟩ = some (.bool false) ∧ ∀ j, w.frozen? ⟨B, j, none⟩ = false := by
  refine ⟨?_, ?_, ?_, ?_, ?_, ?_, ?_, ?_, ?_, ?_, ?_, ?_, ?_, ?_, ?_, fun j => frozen_of_row w B j _ 46 h⟩
  all_goals (rw [cell_of_row w B _ _ 46 (0, 0) h]; rfl)
theorem below_set15 {N B : Nat} {w0 w : World} (h : Below N w0 w) (hB : N ≤ B) (v0 v1 v2 v3 v4 v5 v6 v7 v8 v9 v10 v11 v12 v13 v14 : Value) : Below N w0 (((((((((((((((w.setCell ⟨B, 0, none⟩ v0).setCell ⟨B, 1, none⟩ v1).setCell ⟨B, 2, none⟩ v2).setCell ⟨B, 3, none⟩ v3).setCell ⟨B, 4, none⟩ v4).setCell ⟨B, 5, none⟩ v5).setCell ⟨B, 6, none⟩ v6).setCell ⟨B, 7, none⟩ v7).setCell ⟨B, 8, none⟩ v8).setCell ⟨B, 9, none⟩ v9).setCell ⟨B, 10, none⟩ v10).setCell ⟨B, 11, none⟩ v11).setCell ⟨B, 12, none⟩ v12).setCell ⟨B, 13, none⟩ v13).setCell ⟨B, 14, none⟩ v14) :=
  (((((((((((((((h.setCell (p := ⟨B, 0, none⟩) hB v0).setCell (p := ⟨B, 1, none⟩) hB v1).setCell (p := ⟨B, 2, none⟩) hB v2).setCell (p := ⟨B, 3, none⟩) hB v3).setCell (p := ⟨B, 4, none⟩) hB v4).setCell (p := ⟨B, 5, none⟩) hB v5).setCell (p := ⟨B, 6, none⟩) hB v6).setCell (p := ⟨B, 7, none⟩) hB v7).setCell (p := ⟨B, 8, none⟩) hB v8).setCell (p := ⟨B, 9, none⟩) hB v9).setCell (p := ⟨B, 10, none⟩) hB v10).setCell (p := ⟨B, 11, none⟩) hB v11).setCell (p := ⟨B, 12, none⟩) hB v12).setCell (p := ⟨B, 13, none⟩) hB v13).setCell (p := ⟨B, 14, none⟩) hB v14)
def put15 (w : World) (B : Nat) (v0 v1 v2 v3 v4 v5 v6 v7 v8 v9 v10 v11 v12 v13 v14 : Value) : World := (((((((((((((((w.setCell ⟨B, 0, none⟩ v0).setCell ⟨B, 1, none⟩ v1).setCell ⟨B, 2, none⟩ v2).setCell ⟨B, 3, none⟩ v3).setCell ⟨B, 4, none⟩ v4).setCell ⟨B, 5, none⟩ v5).setCell ⟨B, 6, none⟩ v6).setCell ⟨B, 7, none⟩ v7).setCell ⟨B, 8, none⟩ v8).setCell ⟨B, 9, none⟩ v9).setCell ⟨B, 10, none⟩ v10).setCell ⟨B, 11, none⟩ v11).setCell ⟨B, 12, none⟩ v12).setCell ⟨B, 13, none⟩ v13).setCell ⟨B, 14, none⟩ v14)
theorem put15_row {w : World} {B : Nat} {u0 u1 u2 u3 u4 u5 u6 u7 u8 u9 u10 u11 u12 u13 u14 : Value} (h : w.heap[B]? = some (.cells #[u0, u1, u2, u3, u4, u5, u6, u7, u8, u9, u10, u11, u12, u13, u14] 46 (0, 0))) (v0 v1 v2 v3 v4 v5 v6 v7 v8 v9 v10 v11 v12 v13 v14 : Value) : (put15 w B v0 v1 v2 v3 v4 v5 v6 v7 v8 v9 v10 v11 v12 v13 v14).heap[B]? = some (.cells #[v0, v1, v2, v3, v4, v5, v6, v7, v8, v9, v10, v11, v12, v13, v14] 46 (0, 0)) := by
  unfold put15
  have h : (w.setCell ⟨B, 0, none⟩ v0).heap[B]? = some (.cells #[v0, u1, u2, u3, u4, u5, u6, u7, u8, u9, u10, u11, u12, u13, u14] 46 (0, 0)) := heap_setCell_same _ _ 0 _ 46 v0 h
  have h : ((w.setCell ⟨B, 0, none⟩ v0).setCell ⟨B, 1, none⟩ v1).heap[B]? = some (.cells #[v0, v1, u2, u3, u4, u5, u6, u7, u8, u9, u10, u11, u12, u13, u14] 46 (0, 0)) := heap_setCell_same _ _ 1 _ 46 v1 h
  have h : (((w.setCell ⟨B, 0, none⟩ v0).setCell ⟨B, 1, none⟩ v1).setCell ⟨B, 2, none⟩ v2).heap[B]? = some (.cells #[v0, v1, v2, u3, u4, u5, u6, u7, u8, u9, u10, u11, u12, u13, u14] 46 (0, 0)) := heap_setCell_same _ _ 2 _ 46 v2 h
  have h : ((((w.setCell ⟨B, 0, none⟩ v0).setCell ⟨B, 1, none⟩ v1).setCell ⟨B, 2, none⟩ v2).setCell ⟨B, 3, none⟩ v3).heap[B]? = some (.cells #[v0, v1, v2, v3, u4, u5, u6, u7, u8, u9, u10, u11, u12, u13, u14] 46 (0, 0)) := heap_setCell_same _ _ 3 _ 46 v3 h
  have h : (((((w.setCell ⟨B, 0, none⟩ v0).setCell ⟨B, 1, none⟩ v1).setCell ⟨B, 2, none⟩ v2).setCell ⟨B, 3, none⟩ v3).setCell ⟨B, 4, none⟩ v4).heap[B]? = some (.cells #[v0, v1, v2, v3, v4, u5, u6, u7, u8, u9, u10, u11, u12, u13, u14] 46 (0, 0)) := heap_setCell_same _ _ 4 _ 46 v4 h
  have h : ((((((w.setCell ⟨B, 0, none⟩ v0).setCell ⟨B, 1, none⟩ v1).setCell ⟨B, 2, none⟩ v2).setCell ⟨B, 3, none⟩ v3).setCell ⟨B, 4, none⟩ v4).setCell ⟨B, 5, none⟩ v5).heap[B]? = some (.cells #[v0, v1, v2, v3, v4, v5, u6, u7, u8, u9, u10, u11, u12, u13, u14] 46 (0, 0)) := heap_setCell_same _ _ 5 _ 46 v5 h
  have h : (((((((w.setCell ⟨B, 0, none⟩ v0).setCell ⟨B, 1, none⟩ v1).setCell ⟨B, 2, none⟩ v2).setCell ⟨B, 3, none⟩ v3).setCell ⟨B, 4, none⟩ v4).setCell ⟨B, 5, none⟩ v5).setCell ⟨B, 6, none⟩ v6).heap[B]? = some (.cells #[v0, v1, v2, v3, v4, v5, v6, u7, u8, u9, u10, u11, u12, u13, u14] 46 (0, 0)) := heap_setCell_same _ _ 6 _ 46 v6 h
  have h : ((((((((w.setCell ⟨B, 0, none⟩ v0).setCell ⟨B, 1, none⟩ v1).setCell ⟨B, 2, none⟩ v2).setCell ⟨B, 3, none⟩ v3).setCell ⟨B, 4, none⟩ v4).setCell ⟨B, 5, none⟩ v5).setCell ⟨B, 6, none⟩ v6).setCell ⟨B, 7, none⟩ v7).heap[B]? = some (.cells #[v0, v1, v2, v3, v4, v5, v6, v7, u8, u9, u10, u11, u12, u13, u14] 46 (0, 0)) := heap_setCell_same _ _ 7 _ 46 v7 h
  have h : (((((((((w.setCell ⟨B, 0, none⟩ v0).setCell ⟨B, 1, none⟩ v1).setCell ⟨B, 2, none⟩ v2).setCell ⟨B, 3, none⟩ v3).setCell ⟨B, 4, none⟩ v4).setCell ⟨B, 5, none⟩ v5).setCell ⟨B, 6, none⟩ v6).setCell ⟨B, 7, none⟩ v7).setCell ⟨B, 8, none⟩ v8).heap[B]? = some (.cells #[v0, v1, v2, v3, v4, v5, v6, v7, v8, u9, u10, u11, u12, u13, u14] 46 (0, 0)) := heap_setCell_same _ _ 8 _ 46 v8 h
  have h : ((((((((((w.setCell ⟨B, 0, none⟩ v0).setCell ⟨B, 1, none⟩ v1).setCell ⟨B, 2, none⟩ v2).setCell ⟨B, 3, none⟩ v3).setCell ⟨B, 4, none⟩ v4).setCell ⟨B, 5, none⟩ v5).setCell ⟨B, 6, none⟩ v6).setCell ⟨B, 7, none⟩ v7).setCell ⟨B, 8, none⟩ v8).setCell ⟨B, 9, none⟩ v9).heap[B]? = some (.cells #[v0, v1, v2, v3, v4, v5, v6, v7, v8, v9, u10, u11, u12, u13, u14] 46 (0, 0)) := heap_setCell_same _ _ 9 _ 46 v9 h
  have h : (((((((((((w.setCell ⟨B, 0, none⟩ v0).setCell ⟨B, 1, none⟩ v1).setCell ⟨B, 2, none⟩ v2).setCell ⟨B, 3, none⟩ v3).setCell ⟨B, 4, none⟩ v4).setCell ⟨B, 5, none⟩ v5).setCell ⟨B, 6, none⟩ v6).setCell ⟨B, 7, none⟩ v7).setCell ⟨B, 8, none⟩ v8).setCell ⟨B, 9, none⟩ v9).setCell ⟨B, 10, none⟩ v10).heap[B]? = some (.cells #[v0, v1, v2, v3, v4, v5, v6, v7, v8, v9, v10, u11, u12, u13, u14] 46 (0, 0)) := heap_setCell_same _ _ 10 _ 46 v10 h
  have h : ((((((((((((w.setCell ⟨B, 0, none⟩ v0).setCell ⟨B, 1, none⟩ v1).setCell ⟨B, 2, none⟩ v2).setCell ⟨B, 3, none⟩ v3).setCell ⟨B, 4, none⟩ v4).setCell ⟨B, 5, none⟩ v5).setCell ⟨B, 6, none⟩ v6).setCell ⟨B, 7, none⟩ v7).setCell ⟨B, 8, none⟩ v8).setCell ⟨B, 9, none⟩ v9).setCell ⟨B, 10, none⟩ v10).setCell ⟨B, 11, none⟩ v11).heap[B]? = some (.cells #[v0, v1, v2, v3, v4, v5, v6, v7, v8, v9, v10, v11, u12, u13, u14] 46 (0, 0)) := heap_setCell_same _ _ 11 _ 46 v11 h
  have h : (((((((((((((w.setCell ⟨B, 0, none⟩ v0).setCell ⟨B, 1, none⟩ v1).setCell ⟨B, 2, none⟩ v2).setCell ⟨B, 3, none⟩ v3).setCell ⟨B, 4, none⟩ v4).setCell ⟨B, 5, none⟩ v5).setCell ⟨B, 6, none⟩ v6).setCell ⟨B, 7, none⟩ v7).setCell ⟨B, 8, none⟩ v8).setCell ⟨B, 9, none⟩ v9).setCell ⟨B, 10, none⟩ v10).setCell ⟨B, 11, none⟩ v11).setCell ⟨B, 12, none⟩ v12).heap[B]? = some (.cells #[v0, v1, v2, v3, v4, v5, v6, v7, v8, v9, v10, v11, v12, u13, u14] 46 (0, 0)) := heap_setCell_same _ _ 12 _ 46 v12 h
  have h : ((((((((((((((w.setCell ⟨B, 0, none⟩ v0).setCell ⟨B, 1, none⟩ v1).setCell ⟨B, 2, none⟩ v2).setCell ⟨B, 3, none⟩ v3).setCell ⟨B, 4, none⟩ v4).setCell ⟨B, 5, none⟩ v5).setCell ⟨B, 6, none⟩ v6).setCell ⟨B, 7, none⟩ v7).setCell ⟨B, 8, none⟩ v8).setCell ⟨B, 9, none⟩ v9).setCell ⟨B, 10, none⟩ v10).setCell ⟨B, 11, none⟩ v11).setCell ⟨B, 12, none⟩ v12).setCell ⟨B, 13, none⟩ v13).heap[B]? = some (.cells #[v0, v1, v2, v3, v4, v5, v6, v7, v8, v9, v10, v11, v12, v13, u14] 46 (0, 0)) := heap_setCell_same _ _ 13 _ 46 v13 h
  have h : (((((((((((((((w.setCell ⟨B, 0, none⟩ v0).setCell ⟨B, 1, none⟩ v1).setCell ⟨B, 2, none⟩ v2).setCell ⟨B, 3, none⟩ v3).setCell ⟨B, 4, none⟩ v4).setCell ⟨B, 5, none⟩ v5).setCell ⟨B, 6, none⟩ v6).setCell ⟨B, 7, none⟩ v7).setCell ⟨B, 8, none⟩ v8).setCell ⟨B, 9, none⟩ v9).setCell ⟨B, 10, none⟩ v10).setCell ⟨B, 11, none⟩ v11).setCell ⟨B, 12, none⟩ v12).setCell ⟨B, 13, none⟩ v13).setCell ⟨B, 14, none⟩ v14).heap[B]? = some (.cells #[v0, v1, v2, v3, v4, v5, v6, v7, v8, v9, v10, v11, v12, v13, v14] 46 (0, 0)) := heap_setCell_same _ _ 14 _ 46 v14 h
  exact h
theorem OnlyX.push {B : Nat} {w w' : World} (h : OnlyX (fun b => b = B) w w') (j : Nat) (v : Value) : OnlyX (fun b => b = B) w (w'.setCell ⟨B, j, none⟩ v) :=
  h.trans (OnlyX.set (X := fun b => b = B) w' ⟨B, j, none⟩ v (show B = B from rfl))
theorem put15_only (w : World) (B : Nat) (v0 v1 v2 v3 v4 v5 v6 v7 v8 v9 v10 v11 v12 v13 v14 : Value) : OnlyX (fun b => b = B) w (put15 w B v0 v1 v2 v3 v4 v5 v6 v7 v8 v9 v10 v11 v12 v13 v14) :=
  (((((((((((((((OnlyX.refl (fun b => b = B) w).push 0 v0).push 1 v1).push 2 v2).push 3 v3).push 4 v4).push 5 v5).push 6 v6).push 7 v7).push 8 v8).push 9 v9).push 10 v10).push 11 v11).push 12 v12).push 13 v13).push 14 v14
theorem put15_below {N B : Nat} {w0 w : World} (h : Below N w0 w) (hB : N ≤ B) (v0 v1 v2 v3 v4 v5 v6 v7 v8 v9 v10 v11 v12 v13 v14 : Value) : Below N w0 (put15 w B v0 v1 v2 v3 v4 v5 v6 v7 v8 v9 v10 v11 v12 v13 v14) := below_set15 h hB v0 v1 v2 v3 v4 v5 v6 v7 v8 v9 v10 v11 v12 v13 v14
/-- The flash's slices, beside all that was made since. -/
def XW (X : Nat → Prop) (N M b : Nat) : Prop := X b ∨ (N ≤ b ∧ b < M)
theorem RAt.wide {X : Nat → Prop} {w W : World} {x : Rc} {g : Fl} (h : RAt X w x g) (hb : Below w.heap.size w W) : RAt (XW X w.heap.size W.heap.size) W x g := by
  have hY : ∀ b, b < w.heap.size → XW X w.heap.size W.heap.size b → X b := fun b hlt hx => hx.elim id (fun e => by omega)
  have h1 : RAt (XW X w.heap.size W.heap.size) w x g := ⟨h.ok, h.a.newX hY, h.a1, h.a2, h.b.newX hY, h.b1, h.b2, h.p.newX hY, h.p1, h.p2⟩
  exact h1.below hb
theorem built48v (a b c : Int) (v0 v1 v2 v3 v4 v5 v6 v7 v8 v9 v10 v11 v12 v13 v14 : Value) : Try.prog.built 48 [(0, .int .i64 a), (1, .int .i64 b), (2, .agg #[v0, v1, v2, v3, v4, v5, v6, v7, v8, v9, v10, v11, v12, v13, v14]), (3, .int .i64 c)] = some #[.int .i64 a, .int .i64 b, v0, v1, v2, v3, v4, v5, v6, v7, v8, v9, v10, v11, v12, v13, v14, .int .i64 c, .bool false, .bool false, .int .i64 0, .int .i64 0, .int .i64 0, .int .i64 0, .slice none 0 0, .slice none 0 0] := by kernel_rfl
theorem one26 (a0 a1 : Int) (b0 b1 : Int) (Q1 Q2 Q3 Q4 Q5 : Option Addr) (n1 c1 n2 c2 n3 c3 n4 c4 n5 c5 : Nat) (i1 i2 i3 i4 i5 i6 i7 : Int) (t1 : Bool) (r : Int) (t2 t3 : Bool) (j1 j2 j3 j4 : Int) (E P : Option Addr) (ne ce np cp : Nat) :
    (#[Value.int .i64 a0, .int .i64 a1, .int .i64 b0, .int .i64 b1, .slice Q1 n1 c1, .slice Q2 n2 c2, .slice Q3 n3 c3, .int .i64 i1, .int .i64 i2, .int .i64 i3, .slice Q4 n4 c4, .slice Q5 n5 c5, .int .i64 i4, .int .i64 i5, .int .i64 i6, .int .i64 i7, .bool t1, .int .i64 r, .bool t2, .bool t3, .int .i64 j1, .int .i64 j2, .int .i64 j3, .int .i64 j4, .slice E ne ce, .slice P np cp].all (·.oneCell')) = true := by
  simp [Value.oneCell']
theorem with15 {G : Prop} {w : World} {B : Nat} (h : w.heap[B]? = some (.cells #[.int .i64 0, .int .i64 0, .slice none 0 0, .slice none 0 0, .slice none 0 0, .int .i64 0, .int .i64 0, .int .i64 0, .slice none 0 0, .slice none 0 0, .int .i64 0, .int .i64 0, .int .i64 0, .int .i64 0, .bool false] 46 (0, 0))) (k : w.cell? ⟨B, 0, none⟩ = some (.int .i64 0) → w.cell? ⟨B, 1, none⟩ = some (.int .i64 0) → w.cell? ⟨B, 2, none⟩ = some (.slice none 0 0) → w.cell? ⟨B, 3, none⟩ = some (.slice none 0 0) → w.cell? ⟨B, 4, none⟩ = some (.slice none 0 0) → w.cell? ⟨B, 5, none⟩ = some (.int .i64 0) → w.cell? ⟨B, 6, none⟩ = some (.int .i64 0) → w.cell? ⟨B, 7, none⟩ = some (.int .i64 0) → w.cell? ⟨B, 8, none⟩ = some (.slice none 0 0) → w.cell? ⟨B, 9, none⟩ = some (.slice none 0 0) → w.cell? ⟨B, 10, none⟩ = some (.int .i64 0) → w.cell? ⟨B, 11, none⟩ = some (.int .i64 0) → w.cell? ⟨B, 12, none⟩ = some (.int .i64 0) → w.cell? ⟨B, 13, none⟩ = some (.int .i64 0) → w.cell? ⟨B, 14, none⟩ = some (.bool false) → (∀ j, w.frozen? ⟨B, j, none⟩ = false) → G) : G := by
  obtain ⟨y0, y1, y2, y3, y4, y5, y6, y7, y8, y9, y10, y11, y12, y13, y14, yf⟩ := fifteen h
  exact k y0 y1 y2 y3 y4 y5 y6 y7 y8 y9 y10 y11 y12 y13 y14 yf
theorem carry {p G : Prop} (h : p) (k : p → G) : G := k h
theorem row_after {w w' : World} {o : Obj} (h : Below (w.alloc o).heap.size (w.alloc o) w') : w'.heap[w.heap.size]? = some o := (h.block _ (by simp)).trans (heap_alloc_new w o)
theorem row_after_drew {w w' : World} {o : Obj} (h : Below (w.alloc o).drew.heap.size (w.alloc o).drew w') : w'.heap[w.heap.size]? = some o := (h.block _ (by simp)).trans (heap_alloc_new w o)
theorem row_on {w w' : World} {o : Obj} {B : Nat} (h : Below w.heap.size w w') (hr : w.heap[B]? = some o) : w'.heap[B]? = some o := (h.block _ (Array.getElem?_eq_some_iff.1 hr).1).trans hr
set_option maxRecDepth 100000 in
set_option maxHeartbeats 16000000 in
theorem ropen16_go {X : Nat → Prop} {w : World} {x : Rc} {g : Fl} (h : RAt X w x g) (hX : ∀ b, X b → b < w.heap.size) (first blocks : Int) (hE : regE g first blocks = 0) :
    Calls Try.prog 16 #[x.v g, .int .i64 first, .int .i64 blocks] w (RFO X w g first blocks) := by
  have hok := h.ok
  have HOK := Lib.hid (fwOpen_ok h.ok hE)
  obtain ⟨hdn, a, k, hfa, hbl, k1, k8, hw, -⟩ := regE_zero hE
  have hwl : g.wear.length ≤ 64 := h.ok.b2
  have hsz := sizeF_le h.ok k8
  have hfw : fwOpenB g first blocks = newB (openF g a 2 (fwSpec (sizeF g (2 * k + 2)))) a (2 * k + 2) := by
    rw [hfa, hbl]; rfl
  have hfe : fwOpenE g first blocks = if (openF g a 2 (fwSpec (sizeF g (2 * k + 2)))).saved[4 + 3 * ((openF g a 2 (fwSpec (sizeF g (2 * k + 2)))).saved[0]?.getD 0).toNat]?.getD 0 = 0 then 12 else 0 := by
    unfold fwOpenE
    rw [if_neg (by rw [hE]; decide), hfa, hbl]
    rfl
  have HR := Lib.hid (fun w2 => rregion_r h first blocks (by unfold I64; omega) (by unfold I64; omega) w2)
  rw [hE] at HR
  have HSZ0 := Lib.hid (fun w2 => rsize_r h k k8 blocks hbl w2)
  obtain ⟨N, hN⟩ : ∃ N, sizeF g (2 * k + 2) = N := ⟨_, rfl⟩
  rw [hfw] at HOK
  rw [hN] at HSZ0 hsz hfw hfe HOK
  have HOP0 := Lib.hid (fun (W : World) (hb : Below w.heap.size w W) (A' : Option Addr) (c' : Nat) hA h1 h2 => ropen51 (h.wide hb) (fun b hb' => hb'.elim (fun e => Nat.lt_of_lt_of_le (hX b e) hb.size) (fun e => e.2)) hE hfa (N := N) (by omega) A' c' hA h1 h2)
  obtain ⟨s, hs⟩ : ∃ s, openF g a 2 (fwSpec N) = s := ⟨_, rfl⟩
  rw [hs] at HOP0 hfw hfe HOK
  obtain ⟨va, vt, vk, v0, l0, c0, v1, l1, c1, hv, b1, b2, b3, -⟩ := HOK.out.vec
  have hsv : s.saved = _ := hv
  have hva : s.saved[0]?.getD 0 = (va : Int) := by rw [hsv]; rfl
  have hsvl : s.saved.length = 9 := by rw [hsv]; rfl
  rw [hva, Int.toNat_natCast] at hfe
  have HFW := Lib.hid hfw
  have HFE := Lib.hid hfe
  have HSV := Lib.hid hsv
  obtain ⟨A, c, B, d, P, r⟩ := x
  obtain ⟨n1, e1⟩ : ∃ n, g.img.length = n := ⟨_, rfl⟩
  obtain ⟨n2, e2⟩ : ∃ n, g.wear.length = n := ⟨_, rfl⟩
  obtain ⟨n3, e3⟩ : ∃ n, g.picks.length = n := ⟨_, rfl⟩
  simp only [Rc.v] at HR HSZ0 HOP0 ⊢
  rw [e1, e2, e3, hdn] at HR HSZ0 HOP0 ⊢
  obtain ⟨W, hW⟩ : ∃ W, (w.alloc (.cells #[.slice A n1 c, .int .i64 g.pg, .slice B n2 d, .bool false, .int .i64 g.fuse, .slice P n3 r] 37)).alloc (.cells zeroB 48) = W := ⟨_, rfl⟩
  have HO := Lib.hid (Ob.new rfl hW)
  obtain ⟨d0, d1, d2, d3, d4, d5, -⟩ := HO.out.six
  unfold zeroB at hW
  have hfi2 : 0 ≤ first ∧ first ≤ 64 := by omega
  obtain ⟨hfi3, hfi4⟩ := hfi2
  have HFA := Lib.hid hfa
  have HBL := Lib.hid hbl
  clear h hok hE hdn hfa hbl k1 k8 hw hN hs hv hfw hfe hX e1 e2 e3 hsv
  go_enter Try.func16, Try.ntmps16
  go_wp2_with (fail)
  try rw [hW]
  clear hW
  (with_reducible refine (HR.out W).mono ?_)
  rintro e w1 ⟨rfl, hb⟩
  have HO1 := Lib.hid (HO.out.later hb)
  have H6 : Hid (∀ w9, Below w1.heap.size w1 w9 → (w9.cell? ⟨w.heap.size, 0, none⟩ = some (.slice A n1 c) ∧ w9.cell? ⟨w.heap.size, 1, none⟩ = some (.int .i64 g.pg) ∧ w9.cell? ⟨w.heap.size, 2, none⟩ = some (.slice B n2 d) ∧ w9.cell? ⟨w.heap.size, 3, none⟩ = some (.bool false) ∧ w9.cell? ⟨w.heap.size, 4, none⟩ = some (.int .i64 g.fuse) ∧ w9.cell? ⟨w.heap.size, 5, none⟩ = some (.slice P n3 r))) := fun w9 hb => by
    obtain ⟨z0, z1, z2, z3, z4, z5, -⟩ := (HO1.out.later hb).six
    exact ⟨z0, z1, z2, z3, z4, z5⟩
  have HSZ : Hid (∀ W, Below w1.heap.size w1 W → Calls Try.prog 61 #[.agg #[.slice A n1 c, .int .i64 g.pg, .slice B n2 d, .bool false, .int .i64 g.fuse, .slice P n3 r], .int .i64 blocks] W fun e w' => e = .returned (.int .i64 (N : Int)) ∧ Below w1.heap.size w1 w' ∧ Below W.heap.size W w') := fun W hb => (HSZ0.out W).mono (fun e w' ⟨he, hb2⟩ => ⟨he, hb.trans (hb2.mono hb.size), hb2⟩)
  have HSP : Hid (∀ W, Below w1.heap.size w1 W → Calls Try.prog 60 #[.int .i64 (N : Int)] W fun e w' => ∃ A c, e = .returned (.slice A 9 c) ∧ 9 ≤ c ∧ c ≤ maxLen ∧ Rd w' w'.heap.size A (pcells (fwSpec N)) ∧ Below w1.heap.size w1 w' ∧ Below W.heap.size W w') := fun W hb => (rspec_r N (by omega) W).mono (fun e w' ⟨A, c, he, h1, h2, h3, hb2⟩ => ⟨A, c, he, h1, h2, h3, hb.trans (hb2.mono hb.size), hb2⟩)
  have HOP : Hid (∀ w3, Below w1.heap.size w1 w3 → ∀ W, Below w3.heap.size w3 W → ∀ A' c', Rd w3 w3.heap.size A' (pcells (fwSpec N)) → 9 ≤ c' → c' ≤ maxLen → Calls Try.prog 59 #[.agg #[.slice A n1 c, .int .i64 g.pg, .slice B n2 d, .bool false, .int .i64 g.fuse, .slice P n3 r], .int .i64 first, .int .i64 2, .slice A' 9 c'] W fun e w' => ∃ q : Qv, e = .returned (.tuple #[q.v s, .int .i64 0]) ∧ Below w1.heap.size w1 w' ∧ RvA (XW X w.heap.size W.heap.size) w' q s g.pg ∧ Below W.heap.size W w') := fun w3 hb3 W hbx A' c' h1 h2 h3 =>
    have hb := hb3.trans (hbx.mono hb3.size)
    (HOP0.out W (HO1.out.below.trans (hb.mono HO1.out.below.size)) A' c' ((h1.below hbx (Nat.le_refl _)).more hbx.size) h2 h3).mono (fun e w' ⟨q, he, hb2, h4⟩ => ⟨q, he, hb.trans (hb2.mono hb.size), h4, hb2⟩)
  clear hb d0 d1 d2 d3 d4 d5
  have hsz1 : w.heap.size + 1 < w1.heap.size := by
    obtain ⟨old, _, h2⟩ := HO1.out.h6
    exact (Array.getElem?_eq_some_iff.1 h2).1
  have kb : Below w1.heap.size w1 w1.drew := Below.drew (Below.refl _ _)
  have k2 := H6.out w1.drew kb
  have ksz : w1.drew.heap.size = w1.heap.size := rfl
  obtain ⟨d0, d1, d2, d3, d4, d5⟩ := H6.out w1 (Below.refl _ _)
  go_wp2_with (fail)
  go_region_held3 (fun w9 => w9.cell? ⟨w.heap.size, 0, none⟩ = some (.slice A n1 c) ∧ w9.cell? ⟨w.heap.size, 1, none⟩ = some (.int .i64 g.pg) ∧ w9.cell? ⟨w.heap.size, 2, none⟩ = some (.slice B n2 d) ∧ w9.cell? ⟨w.heap.size, 3, none⟩ = some (.bool false) ∧ w9.cell? ⟨w.heap.size, 4, none⟩ = some (.int .i64 g.fuse) ∧ w9.cell? ⟨w.heap.size, 5, none⟩ = some (.slice P n3 r)) (first | with_reducible exact H6.out _ hb2 | with_reducible exact H6.out _ hb3 | with_reducible exact H6.out _ hb4 | with_reducible exact k2 | with_reducible exact H6.out _ (hb4.alloc hb4.size _) | with_reducible exact H6.out _ (hb3.alloc hb3.size _) | with_reducible exact H6.out _ (hb2.alloc hb2.size _) | with_reducible exact H6.out _ (below_set15 hb4 hb3.size _ _ _ _ _ _ _ _ _ _ _ _ _ _ _) | with_reducible exact H6.out _ (below_set15 hb4 hb2.size _ _ _ _ _ _ _ _ _ _ _ _ _ _ _) | with_reducible exact H6.out _ (below_set15 hb4 (Nat.le_refl _) _ _ _ _ _ _ _ _ _ _ _ _ _ _ _) | with_reducible exact H6.out _ (below_set15 (hb4.alloc hb4.size _) hb4.size _ _ _ _ _ _ _ _ _ _ _ _ _ _ _) | with_reducible exact H6.out _ (Below.drew ((Below.refl _ _).alloc (Nat.le_refl _) _)) | (fail)) (first
    | (go_at_call 61; with_reducible refine (HSZ.out _ (by first | with_reducible exact kb | with_reducible exact Below.drew ((Below.refl _ _).alloc (Nat.le_refl _) _))).mono ?_; rintro e w2 ⟨rfl, hb2, hx2⟩; (first | (with_reducible refine carry (row_after_drew hx2) ?_; intro hr2) | skip))
    | (go_at_call 60; with_reducible refine (HSP.out _ (by first | exact hb2 | exact hb2.alloc hb2.size _)).mono ?_; rintro e w3 ⟨A3, c3, rfl, hc1, hc2, hr3, hb3, hx3⟩; (first | (with_reducible refine carry (row_after hx3) ?_; intro hrr) | (with_reducible refine carry (row_on hx3 hr2) ?_; intro hrr) | skip))
    | (go_at_call 59; with_reducible refine (HOP.out w3 hb3 _ (by first | exact Below.refl _ _ | exact (Below.refl _ _).alloc (Nat.le_refl _) _) A3 c3 hr3 hc1 hc2).mono ?_; rintro e w4 ⟨q, rfl, hb4, hq, hx4⟩; (first | (with_reducible refine with15 (row_after hx4) ?_; intro y0 y1 y2 y3 y4 y5 y6 y7 y8 y9 y10 y11 y12 y13 y14 yf) | (with_reducible refine with15 (row_on hx4 hrr) ?_; intro y0 y1 y2 y3 y4 y5 y6 y7 y8 y9 y10 y11 y12 y13 y14 yf) | skip))
    )
  · obtain ⟨WZ, hWZ⟩ : ∃ WZ, w4.alloc (.cells #[.int .i64 s.first, .int .i64 s.blocks, .slice q.Q1 s.spec.length q.c1, .slice q.Q2 s.staged.length q.c2, .slice q.Q3 9 q.c3, .int .i64 s.seq, .int .i64 s.block, .int .i64 s.slot, .slice q.Q4 q.n4 q.c4, .slice q.Q5 q.n5 q.c5, .int .i64 q.pg, .int .i64 q.er, .int .i64 q.nb, .int .i64 q.ns, .bool s.broken] 46) = WZ := ⟨_, rfl⟩
    obtain ⟨B5, hB5⟩ : ∃ B, w4.heap.size = B := ⟨_, rfl⟩
    have HROW : Hid (WZ.heap[B5]? = some (.cells #[.int .i64 s.first, .int .i64 s.blocks, .slice q.Q1 s.spec.length q.c1, .slice q.Q2 s.staged.length q.c2, .slice q.Q3 9 q.c3, .int .i64 s.seq, .int .i64 s.block, .int .i64 s.slot, .slice q.Q4 q.n4 q.c4, .slice q.Q5 q.n5 q.c5, .int .i64 q.pg, .int .i64 q.er, .int .i64 q.nb, .int .i64 q.ns, .bool s.broken] 46 (0, 0))) := by rw [Hid, ← hWZ, ← hB5]; exact heap_alloc_new _ _
    have HWB : Hid (Below w1.heap.size w1 WZ) := by rw [← hWZ]; exact hb4.alloc hb4.size _
    have HRQ : Hid (RvA (fun b => X b ∨ b = w.heap.size + 1) WZ q s g.pg) := by rw [← hWZ]; exact (hq.weak (fun b hb => hb.elim .inl (fun e => .inr ⟨by omega, by have := hb3.size; omega⟩))).below ((Below.refl _ _).alloc (Nat.le_refl _) _)
    rw [hWZ, hB5]
    clear hWZ hB5
    have HOZ := Lib.hid (HO1.out.later HWB.out)
    obtain ⟨b9, o9, hq3, hcell⟩ : ∃ b o, q.Q3 = some ⟨b, o, none⟩ ∧ ∀ j u, (icells s.saved)[j]? = some u → WZ.cell? ⟨b, o + j, none⟩ = some u := by
      obtain ⟨b, o, e, hlt, _, hc⟩ := HRQ.out.c (by rw [HSV.out]; simp [icells])
      exact ⟨b, o, e, hc⟩
    obtain ⟨z, hz⟩ : ∃ z, s.saved[4 + 3 * va]?.getD 0 = z := ⟨_, rfl⟩
    have HZ := Lib.hid hz
    have c0' : WZ.cell? ⟨b9, o9, none⟩ = some (.int .i64 (va : Int)) := hcell 0 _ (by rw [HSV.out]; rfl)
    have c4' : WZ.cell? ⟨b9, o9 + (4 + 3 * va), none⟩ = some (.int .i64 z) := hcell _ _ (by
      rw [← hz]
      unfold icells
      rw [List.getElem?_map, List.getElem?_eq_getElem (by omega)]
      rfl)
    have y4 : WZ.cell? ⟨B5, 4, none⟩ = some (.slice (some ⟨b9, o9, none⟩) 9 q.c3) := (cell_of_row WZ B5 4 _ 46 (0, 0) HROW.out).trans (by rw [hq3]; rfl)
    have HQ3 := Lib.hid hq3
    clear hq3
    have q1 : IntKind.i64.wrap (3 * (va : Int)) = 3 * (va : Int) := IntWalk.i64_in _ (by omega)
    have q2 : IntKind.i64.wrap (4 + 3 * (va : Int)) = 4 + 3 * (va : Int) := IntWalk.i64_in _ (by omega)
    have k0 : (0 : Int) ≤ 4 + 3 * (va : Int) := by omega
    have k1 : 4 + 3 * (va : Int) < 9 := by omega
    have k2 : (4 + 3 * (va : Int)).toNat = 4 + 3 * va := by omega
    clear hb2 hx2 hb3 hx3 hb4 hq hx4 hr3 hc1 hc2 d0 d1 d2 d3 d4 d5 hcell hz kb ksz
    by_cases hz0 : z = 0
    · have hz1 : (z == 0) = true := by simpa using hz0
      have HE12 : Hid (fwOpenE g first blocks = 12) := by rw [Hid, HFE.out, HZ.out, if_pos hz0]
      subst hz0
      obtain ⟨old, ho1, ho2⟩ := HOZ.out.h6
      go_upto_region 7 with (fail)
      go_quiet (fail)
      go_upto_region 8 with (fail)
      refine wp_region_list ?_
      refine wpList_buildV rfl 48 #[] rfl [] (by simp) zeroB built48 ?_
      refine wpList_store_row rfl 48 _ _ rfl (w.heap.size + 1) zeroB rfl rfl 48 old ho2 size48 (ho1.trans rfl) one26z ?_
      go_wp2
      (try simp only [Exit.inBlock, Exit.then])
      refine bodyPost_ret (v := .tuple #[.agg zeroB, .int .i64 12]) (results_row_tmp (p := 6) (u := 7) rfl _ _ (w.heap.size + 1) 48 zeroB (0, 0) _ rfl (by exact setRow_heap _ _ old _ 48 (0, 0) ho2) Try.underlying48 rfl size48) rfl ⟨.agg zeroB, by rw [HE12.out], by first | exact below_setRow HOZ.out.below (Nat.le_succ _) _ | exact below_setRow (Below.drewN HOZ.out.below _) (Nat.le_succ _) _, fun _ => rfl, fun e => by rw [HE12.out] at e; cases e⟩
    · have hz1 : (z == 0) = false := by simpa using hz0
      have HE0 : Hid (fwOpenE g first blocks = 0) := by rw [Hid, HFE.out, HZ.out, if_neg hz0]
      clear hz0
      obtain ⟨old, ho1, ho2⟩ := HOZ.out.h6
      go_upto_region 7 with (fail)
      go_quiet (fail)
      go_upto_region 9 with (fail)
      refine wp_region_list ?_
      refine wpList_value (v := .int .i64 first) rfl (by rfl) ?_
      refine wpList_value (v := .int .i64 blocks) rfl (by rfl) ?_
      refine wpList_load_row rfl 46 _ rfl B5 rfl 46 _ (0, 0) _ HROW.out Try.underlying46 rfl size105 ?_
      refine wpList_buildV rfl 48 _ rfl [(0, .int .i64 first), (1, .int .i64 blocks), (2, .agg #[.int .i64 s.first, .int .i64 s.blocks, .slice q.Q1 s.spec.length q.c1, .slice q.Q2 s.staged.length q.c2, .slice q.Q3 9 q.c3, .int .i64 s.seq, .int .i64 s.block, .int .i64 s.slot, .slice q.Q4 q.n4 q.c4, .slice q.Q5 q.n5 q.c5, .int .i64 q.pg, .int .i64 q.er, .int .i64 q.nb, .int .i64 q.ns, .bool s.broken]), (3, .int .i64 2)] (by simp [Act.eval, Act.put]) _ (built48v _ _ _ _ _ _ _ _ _ _ _ _ _ _ _ _ _ _) ?_
      refine wpList_store_row rfl 48 _ _ rfl (w.heap.size + 1) #[.int .i64 first, .int .i64 blocks, .int .i64 s.first, .int .i64 s.blocks, .slice q.Q1 s.spec.length q.c1, .slice q.Q2 s.staged.length q.c2, .slice q.Q3 9 q.c3, .int .i64 s.seq, .int .i64 s.block, .int .i64 s.slot, .slice q.Q4 q.n4 q.c4, .slice q.Q5 q.n5 q.c5, .int .i64 q.pg, .int .i64 q.er, .int .i64 q.nb, .int .i64 q.ns, .bool s.broken, .int .i64 2, .bool false, .bool false, .int .i64 0, .int .i64 0, .int .i64 0, .int .i64 0, .slice none 0 0, .slice none 0 0] rfl rfl 48 old ho2 size48 (ho1.trans rfl) (one26 ..) ?_
      go_wp2
      (try simp only [Exit.inBlock, Exit.then])
      refine bodyPost_ret (v := .tuple #[.agg #[.int .i64 first, .int .i64 blocks, .int .i64 s.first, .int .i64 s.blocks, .slice q.Q1 s.spec.length q.c1, .slice q.Q2 s.staged.length q.c2, .slice q.Q3 9 q.c3, .int .i64 s.seq, .int .i64 s.block, .int .i64 s.slot, .slice q.Q4 q.n4 q.c4, .slice q.Q5 q.n5 q.c5, .int .i64 q.pg, .int .i64 q.er, .int .i64 q.nb, .int .i64 q.ns, .bool s.broken, .int .i64 2, .bool false, .bool false, .int .i64 0, .int .i64 0, .int .i64 0, .int .i64 0, .slice none 0 0, .slice none 0 0], .int .i64 0]) (results_row_tmp (p := 6) (u := 7) rfl _ _ (w.heap.size + 1) 48 #[.int .i64 first, .int .i64 blocks, .int .i64 s.first, .int .i64 s.blocks, .slice q.Q1 s.spec.length q.c1, .slice q.Q2 s.staged.length q.c2, .slice q.Q3 9 q.c3, .int .i64 s.seq, .int .i64 s.block, .int .i64 s.slot, .slice q.Q4 q.n4 q.c4, .slice q.Q5 q.n5 q.c5, .int .i64 q.pg, .int .i64 q.er, .int .i64 q.nb, .int .i64 q.ns, .bool s.broken, .int .i64 2, .bool false, .bool false, .int .i64 0, .int .i64 0, .int .i64 0, .int .i64 0, .slice none 0 0, .slice none 0 0] (0, 0) _ rfl (by exact setRow_heap _ _ old _ 48 (0, 0) ho2) Try.underlying48 rfl size48) rfl ⟨_, by rw [HE0.out], by first | exact below_setRow HOZ.out.below (Nat.le_succ _) _ | exact below_setRow (Below.drewN HOZ.out.below _) (Nat.le_succ _) _, fun e => absurd HE0.out e, fun _ => ⟨⟨q, none, 0, 0, none, 0, 0⟩, ?_, rfl, rfl, rfl, rfl, rfl, ?_⟩⟩
      · rw [HFW.out, HFA.out, HBL.out, ← hsvl]
        rfl
      · rw [HFW.out]
        have hk := fun cs nq => (HRQ.out.onlyX ((OnlyX.of_below (X := fun b => X b ∨ b = w.heap.size + 1) (Below.drewN (Below.refl WZ.heap.size WZ) nq)).trans (OnlyX.row (WZ.drewN nq) (w.heap.size + 1) cs (.inr rfl)))).weak (Y := X) (fun b hb => .inl hb)
        exact hk _ _
  · have hrow0 := row_after hx4
    have hle0 : w1.heap.size ≤ w3.heap.size := hb3.size
    obtain ⟨WZ, hWZ⟩ : ∃ WZ, put15 w4 w3.heap.size (.int .i64 s.first) (.int .i64 s.blocks) (.slice q.Q1 s.spec.length q.c1) (.slice q.Q2 s.staged.length q.c2) (.slice q.Q3 9 q.c3) (.int .i64 s.seq) (.int .i64 s.block) (.int .i64 s.slot) (.slice q.Q4 q.n4 q.c4) (.slice q.Q5 q.n5 q.c5) (.int .i64 q.pg) (.int .i64 q.er) (.int .i64 q.nb) (.int .i64 q.ns) (.bool s.broken) = WZ := ⟨_, rfl⟩
    have HROW : Hid (WZ.heap[w3.heap.size]? = some (.cells #[.int .i64 s.first, .int .i64 s.blocks, .slice q.Q1 s.spec.length q.c1, .slice q.Q2 s.staged.length q.c2, .slice q.Q3 9 q.c3, .int .i64 s.seq, .int .i64 s.block, .int .i64 s.slot, .slice q.Q4 q.n4 q.c4, .slice q.Q5 q.n5 q.c5, .int .i64 q.pg, .int .i64 q.er, .int .i64 q.nb, .int .i64 q.ns, .bool s.broken] 46 (0, 0))) := by rw [← hWZ]; exact put15_row hrow0 (.int .i64 s.first) (.int .i64 s.blocks) (.slice q.Q1 s.spec.length q.c1) (.slice q.Q2 s.staged.length q.c2) (.slice q.Q3 9 q.c3) (.int .i64 s.seq) (.int .i64 s.block) (.int .i64 s.slot) (.slice q.Q4 q.n4 q.c4) (.slice q.Q5 q.n5 q.c5) (.int .i64 q.pg) (.int .i64 q.er) (.int .i64 q.nb) (.int .i64 q.ns) (.bool s.broken)
    have HWB : Hid (Below w1.heap.size w1 WZ) := by rw [← hWZ]; exact put15_below hb4 hle0 (.int .i64 s.first) (.int .i64 s.blocks) (.slice q.Q1 s.spec.length q.c1) (.slice q.Q2 s.staged.length q.c2) (.slice q.Q3 9 q.c3) (.int .i64 s.seq) (.int .i64 s.block) (.int .i64 s.slot) (.slice q.Q4 q.n4 q.c4) (.slice q.Q5 q.n5 q.c5) (.int .i64 q.pg) (.int .i64 q.er) (.int .i64 q.nb) (.int .i64 q.ns) (.bool s.broken)
    have HRQ : Hid (RvA (fun b => X b ∨ b = w.heap.size + 1) WZ q s g.pg) := by
      rw [← hWZ]
      refine (hq.onlyX ((put15_only w4 w3.heap.size (.int .i64 s.first) (.int .i64 s.blocks) (.slice q.Q1 s.spec.length q.c1) (.slice q.Q2 s.staged.length q.c2) (.slice q.Q3 9 q.c3) (.int .i64 s.seq) (.int .i64 s.block) (.int .i64 s.slot) (.slice q.Q4 q.n4 q.c4) (.slice q.Q5 q.n5 q.c5) (.int .i64 q.pg) (.int .i64 q.er) (.int .i64 q.nb) (.int .i64 q.ns) (.bool s.broken)).more (fun b hb => .inr ?_))).weak (fun b hb => hb.elim .inl (fun e => .inr ⟨by omega, by rw [World.size_alloc]; have := hb3.size; omega⟩))
      have h1 := HO1.out.below.size
      subst hb
      refine ⟨by omega, ?_⟩
      rw [World.size_alloc]; omega
    unfold put15 at hWZ
    obtain ⟨B5, hB5⟩ : ∃ B, w3.heap.size = B := ⟨_, rfl⟩
    rw [hB5] at hWZ HROW ⊢
    rw [hWZ]
    clear hWZ hB5 hrow0 hle0 y0 y1 y2 y3 y4 y5 y6 y7 y8 y9 y10 y11 y12 y13 y14 yf
    have HOZ := Lib.hid (HO1.out.later HWB.out)
    obtain ⟨b9, o9, hq3, hcell⟩ : ∃ b o, q.Q3 = some ⟨b, o, none⟩ ∧ ∀ j u, (icells s.saved)[j]? = some u → WZ.cell? ⟨b, o + j, none⟩ = some u := by
      obtain ⟨b, o, e, hlt, _, hc⟩ := HRQ.out.c (by rw [HSV.out]; simp [icells])
      exact ⟨b, o, e, hc⟩
    obtain ⟨z, hz⟩ : ∃ z, s.saved[4 + 3 * va]?.getD 0 = z := ⟨_, rfl⟩
    have HZ := Lib.hid hz
    have c0' : WZ.cell? ⟨b9, o9, none⟩ = some (.int .i64 (va : Int)) := hcell 0 _ (by rw [HSV.out]; rfl)
    have c4' : WZ.cell? ⟨b9, o9 + (4 + 3 * va), none⟩ = some (.int .i64 z) := hcell _ _ (by
      rw [← hz]
      unfold icells
      rw [List.getElem?_map, List.getElem?_eq_getElem (by omega)]
      rfl)
    have y4 : WZ.cell? ⟨B5, 4, none⟩ = some (.slice (some ⟨b9, o9, none⟩) 9 q.c3) := (cell_of_row WZ B5 4 _ 46 (0, 0) HROW.out).trans (by rw [hq3]; rfl)
    have HQ3 := Lib.hid hq3
    clear hq3
    have q1 : IntKind.i64.wrap (3 * (va : Int)) = 3 * (va : Int) := IntWalk.i64_in _ (by omega)
    have q2 : IntKind.i64.wrap (4 + 3 * (va : Int)) = 4 + 3 * (va : Int) := IntWalk.i64_in _ (by omega)
    have k0 : (0 : Int) ≤ 4 + 3 * (va : Int) := by omega
    have k1 : 4 + 3 * (va : Int) < 9 := by omega
    have k2 : (4 + 3 * (va : Int)).toNat = 4 + 3 * va := by omega
    clear hb2 hx2 hb3 hx3 hb4 hq hx4 hr3 hc1 hc2 d0 d1 d2 d3 d4 d5 hcell hz kb ksz
    by_cases hz0 : z = 0
    · have hz1 : (z == 0) = true := by simpa using hz0
      have HE12 : Hid (fwOpenE g first blocks = 12) := by rw [Hid, HFE.out, HZ.out, if_pos hz0]
      subst hz0
      obtain ⟨old, ho1, ho2⟩ := HOZ.out.h6
      go_upto_region 7 with (fail)
      go_quiet (fail)
      go_upto_region 8 with (fail)
      refine wp_region_list ?_
      refine wpList_buildV rfl 48 #[] rfl [] (by simp) zeroB built48 ?_
      refine wpList_store_row rfl 48 _ _ rfl (w.heap.size + 1) zeroB rfl rfl 48 old ho2 size48 (ho1.trans rfl) one26z ?_
      go_wp2
      (try simp only [Exit.inBlock, Exit.then])
      refine bodyPost_ret (v := .tuple #[.agg zeroB, .int .i64 12]) (results_row_tmp (p := 6) (u := 7) rfl _ _ (w.heap.size + 1) 48 zeroB (0, 0) _ rfl (by exact setRow_heap _ _ old _ 48 (0, 0) ho2) Try.underlying48 rfl size48) rfl ⟨.agg zeroB, by rw [HE12.out], by first | exact below_setRow HOZ.out.below (Nat.le_succ _) _ | exact below_setRow (Below.drewN HOZ.out.below _) (Nat.le_succ _) _, fun _ => rfl, fun e => by rw [HE12.out] at e; cases e⟩
    · have hz1 : (z == 0) = false := by simpa using hz0
      have HE0 : Hid (fwOpenE g first blocks = 0) := by rw [Hid, HFE.out, HZ.out, if_neg hz0]
      clear hz0
      obtain ⟨old, ho1, ho2⟩ := HOZ.out.h6
      go_upto_region 7 with (fail)
      go_quiet (fail)
      go_upto_region 9 with (fail)
      refine wp_region_list ?_
      refine wpList_value (v := .int .i64 first) rfl (by rfl) ?_
      refine wpList_value (v := .int .i64 blocks) rfl (by rfl) ?_
      refine wpList_load_row rfl 46 _ rfl B5 rfl 46 _ (0, 0) _ HROW.out Try.underlying46 rfl size105 ?_
      refine wpList_buildV rfl 48 _ rfl [(0, .int .i64 first), (1, .int .i64 blocks), (2, .agg #[.int .i64 s.first, .int .i64 s.blocks, .slice q.Q1 s.spec.length q.c1, .slice q.Q2 s.staged.length q.c2, .slice q.Q3 9 q.c3, .int .i64 s.seq, .int .i64 s.block, .int .i64 s.slot, .slice q.Q4 q.n4 q.c4, .slice q.Q5 q.n5 q.c5, .int .i64 q.pg, .int .i64 q.er, .int .i64 q.nb, .int .i64 q.ns, .bool s.broken]), (3, .int .i64 2)] (by simp [Act.eval, Act.put]) _ (built48v _ _ _ _ _ _ _ _ _ _ _ _ _ _ _ _ _ _) ?_
      refine wpList_store_row rfl 48 _ _ rfl (w.heap.size + 1) #[.int .i64 first, .int .i64 blocks, .int .i64 s.first, .int .i64 s.blocks, .slice q.Q1 s.spec.length q.c1, .slice q.Q2 s.staged.length q.c2, .slice q.Q3 9 q.c3, .int .i64 s.seq, .int .i64 s.block, .int .i64 s.slot, .slice q.Q4 q.n4 q.c4, .slice q.Q5 q.n5 q.c5, .int .i64 q.pg, .int .i64 q.er, .int .i64 q.nb, .int .i64 q.ns, .bool s.broken, .int .i64 2, .bool false, .bool false, .int .i64 0, .int .i64 0, .int .i64 0, .int .i64 0, .slice none 0 0, .slice none 0 0] rfl rfl 48 old ho2 size48 (ho1.trans rfl) (one26 ..) ?_
      go_wp2
      (try simp only [Exit.inBlock, Exit.then])
      refine bodyPost_ret (v := .tuple #[.agg #[.int .i64 first, .int .i64 blocks, .int .i64 s.first, .int .i64 s.blocks, .slice q.Q1 s.spec.length q.c1, .slice q.Q2 s.staged.length q.c2, .slice q.Q3 9 q.c3, .int .i64 s.seq, .int .i64 s.block, .int .i64 s.slot, .slice q.Q4 q.n4 q.c4, .slice q.Q5 q.n5 q.c5, .int .i64 q.pg, .int .i64 q.er, .int .i64 q.nb, .int .i64 q.ns, .bool s.broken, .int .i64 2, .bool false, .bool false, .int .i64 0, .int .i64 0, .int .i64 0, .int .i64 0, .slice none 0 0, .slice none 0 0], .int .i64 0]) (results_row_tmp (p := 6) (u := 7) rfl _ _ (w.heap.size + 1) 48 #[.int .i64 first, .int .i64 blocks, .int .i64 s.first, .int .i64 s.blocks, .slice q.Q1 s.spec.length q.c1, .slice q.Q2 s.staged.length q.c2, .slice q.Q3 9 q.c3, .int .i64 s.seq, .int .i64 s.block, .int .i64 s.slot, .slice q.Q4 q.n4 q.c4, .slice q.Q5 q.n5 q.c5, .int .i64 q.pg, .int .i64 q.er, .int .i64 q.nb, .int .i64 q.ns, .bool s.broken, .int .i64 2, .bool false, .bool false, .int .i64 0, .int .i64 0, .int .i64 0, .int .i64 0, .slice none 0 0, .slice none 0 0] (0, 0) _ rfl (by exact setRow_heap _ _ old _ 48 (0, 0) ho2) Try.underlying48 rfl size48) rfl ⟨_, by rw [HE0.out], by first | exact below_setRow HOZ.out.below (Nat.le_succ _) _ | exact below_setRow (Below.drewN HOZ.out.below _) (Nat.le_succ _) _, fun e => absurd HE0.out e, fun _ => ⟨⟨q, none, 0, 0, none, 0, 0⟩, ?_, rfl, rfl, rfl, rfl, rfl, ?_⟩⟩
      · rw [HFW.out, HFA.out, HBL.out, ← hsvl]
        rfl
      · rw [HFW.out]
        have hk := fun cs nq => (HRQ.out.onlyX ((OnlyX.of_below (X := fun b => X b ∨ b = w.heap.size + 1) (Below.drewN (Below.refl WZ.heap.size WZ) nq)).trans (OnlyX.row (WZ.drewN nq) (w.heap.size + 1) cs (.inr rfl)))).weak (Y := X) (fun b hb => .inl hb)
        exact hk _ _
  · have hrow0 := row_on hx4 hrr
    have hle0 : w1.heap.size ≤ w2.heap.size := hb2.size
    obtain ⟨WZ, hWZ⟩ : ∃ WZ, put15 w4 w2.heap.size (.int .i64 s.first) (.int .i64 s.blocks) (.slice q.Q1 s.spec.length q.c1) (.slice q.Q2 s.staged.length q.c2) (.slice q.Q3 9 q.c3) (.int .i64 s.seq) (.int .i64 s.block) (.int .i64 s.slot) (.slice q.Q4 q.n4 q.c4) (.slice q.Q5 q.n5 q.c5) (.int .i64 q.pg) (.int .i64 q.er) (.int .i64 q.nb) (.int .i64 q.ns) (.bool s.broken) = WZ := ⟨_, rfl⟩
    have HROW : Hid (WZ.heap[w2.heap.size]? = some (.cells #[.int .i64 s.first, .int .i64 s.blocks, .slice q.Q1 s.spec.length q.c1, .slice q.Q2 s.staged.length q.c2, .slice q.Q3 9 q.c3, .int .i64 s.seq, .int .i64 s.block, .int .i64 s.slot, .slice q.Q4 q.n4 q.c4, .slice q.Q5 q.n5 q.c5, .int .i64 q.pg, .int .i64 q.er, .int .i64 q.nb, .int .i64 q.ns, .bool s.broken] 46 (0, 0))) := by rw [← hWZ]; exact put15_row hrow0 (.int .i64 s.first) (.int .i64 s.blocks) (.slice q.Q1 s.spec.length q.c1) (.slice q.Q2 s.staged.length q.c2) (.slice q.Q3 9 q.c3) (.int .i64 s.seq) (.int .i64 s.block) (.int .i64 s.slot) (.slice q.Q4 q.n4 q.c4) (.slice q.Q5 q.n5 q.c5) (.int .i64 q.pg) (.int .i64 q.er) (.int .i64 q.nb) (.int .i64 q.ns) (.bool s.broken)
    have HWB : Hid (Below w1.heap.size w1 WZ) := by rw [← hWZ]; exact put15_below hb4 hle0 (.int .i64 s.first) (.int .i64 s.blocks) (.slice q.Q1 s.spec.length q.c1) (.slice q.Q2 s.staged.length q.c2) (.slice q.Q3 9 q.c3) (.int .i64 s.seq) (.int .i64 s.block) (.int .i64 s.slot) (.slice q.Q4 q.n4 q.c4) (.slice q.Q5 q.n5 q.c5) (.int .i64 q.pg) (.int .i64 q.er) (.int .i64 q.nb) (.int .i64 q.ns) (.bool s.broken)
    have HRQ : Hid (RvA (fun b => X b ∨ b = w.heap.size + 1) WZ q s g.pg) := by
      rw [← hWZ]
      refine (hq.onlyX ((put15_only w4 w2.heap.size (.int .i64 s.first) (.int .i64 s.blocks) (.slice q.Q1 s.spec.length q.c1) (.slice q.Q2 s.staged.length q.c2) (.slice q.Q3 9 q.c3) (.int .i64 s.seq) (.int .i64 s.block) (.int .i64 s.slot) (.slice q.Q4 q.n4 q.c4) (.slice q.Q5 q.n5 q.c5) (.int .i64 q.pg) (.int .i64 q.er) (.int .i64 q.nb) (.int .i64 q.ns) (.bool s.broken)).more (fun b hb => .inr ?_))).weak (fun b hb => hb.elim .inl (fun e => .inr ⟨by omega, by have h2 := hx3.size; rw [World.size_alloc] at h2; have h3 := hb2.size; omega⟩))
      have h1 := HO1.out.below.size
      subst hb
      refine ⟨by omega, ?_⟩
      have h2 := hx3.size; rw [World.size_alloc] at h2; have h3 := hb3.size; omega
    unfold put15 at hWZ
    obtain ⟨B5, hB5⟩ : ∃ B, w2.heap.size = B := ⟨_, rfl⟩
    rw [hB5] at hWZ HROW ⊢
    rw [hWZ]
    clear hWZ hB5 hrow0 hle0 y0 y1 y2 y3 y4 y5 y6 y7 y8 y9 y10 y11 y12 y13 y14 yf
    have HOZ := Lib.hid (HO1.out.later HWB.out)
    obtain ⟨b9, o9, hq3, hcell⟩ : ∃ b o, q.Q3 = some ⟨b, o, none⟩ ∧ ∀ j u, (icells s.saved)[j]? = some u → WZ.cell? ⟨b, o + j, none⟩ = some u := by
      obtain ⟨b, o, e, hlt, _, hc⟩ := HRQ.out.c (by rw [HSV.out]; simp [icells])
      exact ⟨b, o, e, hc⟩
    obtain ⟨z, hz⟩ : ∃ z, s.saved[4 + 3 * va]?.getD 0 = z := ⟨_, rfl⟩
    have HZ := Lib.hid hz
    have c0' : WZ.cell? ⟨b9, o9, none⟩ = some (.int .i64 (va : Int)) := hcell 0 _ (by rw [HSV.out]; rfl)
    have c4' : WZ.cell? ⟨b9, o9 + (4 + 3 * va), none⟩ = some (.int .i64 z) := hcell _ _ (by
      rw [← hz]
      unfold icells
      rw [List.getElem?_map, List.getElem?_eq_getElem (by omega)]
      rfl)
    have y4 : WZ.cell? ⟨B5, 4, none⟩ = some (.slice (some ⟨b9, o9, none⟩) 9 q.c3) := (cell_of_row WZ B5 4 _ 46 (0, 0) HROW.out).trans (by rw [hq3]; rfl)
    have HQ3 := Lib.hid hq3
    clear hq3
    have q1 : IntKind.i64.wrap (3 * (va : Int)) = 3 * (va : Int) := IntWalk.i64_in _ (by omega)
    have q2 : IntKind.i64.wrap (4 + 3 * (va : Int)) = 4 + 3 * (va : Int) := IntWalk.i64_in _ (by omega)
    have k0 : (0 : Int) ≤ 4 + 3 * (va : Int) := by omega
    have k1 : 4 + 3 * (va : Int) < 9 := by omega
    have k2 : (4 + 3 * (va : Int)).toNat = 4 + 3 * va := by omega
    clear hb2 hx2 hb3 hx3 hb4 hq hx4 hr3 hc1 hc2 d0 d1 d2 d3 d4 d5 hcell hz kb ksz
    by_cases hz0 : z = 0
    · have hz1 : (z == 0) = true := by simpa using hz0
      have HE12 : Hid (fwOpenE g first blocks = 12) := by rw [Hid, HFE.out, HZ.out, if_pos hz0]
      subst hz0
      obtain ⟨old, ho1, ho2⟩ := HOZ.out.h6
      go_upto_region 7 with (fail)
      go_quiet (fail)
      go_upto_region 8 with (fail)
      refine wp_region_list ?_
      refine wpList_buildV rfl 48 #[] rfl [] (by simp) zeroB built48 ?_
      refine wpList_store_row rfl 48 _ _ rfl (w.heap.size + 1) zeroB rfl rfl 48 old ho2 size48 (ho1.trans rfl) one26z ?_
      go_wp2
      (try simp only [Exit.inBlock, Exit.then])
      refine bodyPost_ret (v := .tuple #[.agg zeroB, .int .i64 12]) (results_row_tmp (p := 6) (u := 7) rfl _ _ (w.heap.size + 1) 48 zeroB (0, 0) _ rfl (by exact setRow_heap _ _ old _ 48 (0, 0) ho2) Try.underlying48 rfl size48) rfl ⟨.agg zeroB, by rw [HE12.out], by first | exact below_setRow HOZ.out.below (Nat.le_succ _) _ | exact below_setRow (Below.drewN HOZ.out.below _) (Nat.le_succ _) _, fun _ => rfl, fun e => by rw [HE12.out] at e; cases e⟩
    · have hz1 : (z == 0) = false := by simpa using hz0
      have HE0 : Hid (fwOpenE g first blocks = 0) := by rw [Hid, HFE.out, HZ.out, if_neg hz0]
      clear hz0
      obtain ⟨old, ho1, ho2⟩ := HOZ.out.h6
      go_upto_region 7 with (fail)
      go_quiet (fail)
      go_upto_region 9 with (fail)
      refine wp_region_list ?_
      refine wpList_value (v := .int .i64 first) rfl (by rfl) ?_
      refine wpList_value (v := .int .i64 blocks) rfl (by rfl) ?_
      refine wpList_load_row rfl 46 _ rfl B5 rfl 46 _ (0, 0) _ HROW.out Try.underlying46 rfl size105 ?_
      refine wpList_buildV rfl 48 _ rfl [(0, .int .i64 first), (1, .int .i64 blocks), (2, .agg #[.int .i64 s.first, .int .i64 s.blocks, .slice q.Q1 s.spec.length q.c1, .slice q.Q2 s.staged.length q.c2, .slice q.Q3 9 q.c3, .int .i64 s.seq, .int .i64 s.block, .int .i64 s.slot, .slice q.Q4 q.n4 q.c4, .slice q.Q5 q.n5 q.c5, .int .i64 q.pg, .int .i64 q.er, .int .i64 q.nb, .int .i64 q.ns, .bool s.broken]), (3, .int .i64 2)] (by simp [Act.eval, Act.put]) _ (built48v _ _ _ _ _ _ _ _ _ _ _ _ _ _ _ _ _ _) ?_
      refine wpList_store_row rfl 48 _ _ rfl (w.heap.size + 1) #[.int .i64 first, .int .i64 blocks, .int .i64 s.first, .int .i64 s.blocks, .slice q.Q1 s.spec.length q.c1, .slice q.Q2 s.staged.length q.c2, .slice q.Q3 9 q.c3, .int .i64 s.seq, .int .i64 s.block, .int .i64 s.slot, .slice q.Q4 q.n4 q.c4, .slice q.Q5 q.n5 q.c5, .int .i64 q.pg, .int .i64 q.er, .int .i64 q.nb, .int .i64 q.ns, .bool s.broken, .int .i64 2, .bool false, .bool false, .int .i64 0, .int .i64 0, .int .i64 0, .int .i64 0, .slice none 0 0, .slice none 0 0] rfl rfl 48 old ho2 size48 (ho1.trans rfl) (one26 ..) ?_
      go_wp2
      (try simp only [Exit.inBlock, Exit.then])
      refine bodyPost_ret (v := .tuple #[.agg #[.int .i64 first, .int .i64 blocks, .int .i64 s.first, .int .i64 s.blocks, .slice q.Q1 s.spec.length q.c1, .slice q.Q2 s.staged.length q.c2, .slice q.Q3 9 q.c3, .int .i64 s.seq, .int .i64 s.block, .int .i64 s.slot, .slice q.Q4 q.n4 q.c4, .slice q.Q5 q.n5 q.c5, .int .i64 q.pg, .int .i64 q.er, .int .i64 q.nb, .int .i64 q.ns, .bool s.broken, .int .i64 2, .bool false, .bool false, .int .i64 0, .int .i64 0, .int .i64 0, .int .i64 0, .slice none 0 0, .slice none 0 0], .int .i64 0]) (results_row_tmp (p := 6) (u := 7) rfl _ _ (w.heap.size + 1) 48 #[.int .i64 first, .int .i64 blocks, .int .i64 s.first, .int .i64 s.blocks, .slice q.Q1 s.spec.length q.c1, .slice q.Q2 s.staged.length q.c2, .slice q.Q3 9 q.c3, .int .i64 s.seq, .int .i64 s.block, .int .i64 s.slot, .slice q.Q4 q.n4 q.c4, .slice q.Q5 q.n5 q.c5, .int .i64 q.pg, .int .i64 q.er, .int .i64 q.nb, .int .i64 q.ns, .bool s.broken, .int .i64 2, .bool false, .bool false, .int .i64 0, .int .i64 0, .int .i64 0, .int .i64 0, .slice none 0 0, .slice none 0 0] (0, 0) _ rfl (by exact setRow_heap _ _ old _ 48 (0, 0) ho2) Try.underlying48 rfl size48) rfl ⟨_, by rw [HE0.out], by first | exact below_setRow HOZ.out.below (Nat.le_succ _) _ | exact below_setRow (Below.drewN HOZ.out.below _) (Nat.le_succ _) _, fun e => absurd HE0.out e, fun _ => ⟨⟨q, none, 0, 0, none, 0, 0⟩, ?_, rfl, rfl, rfl, rfl, rfl, ?_⟩⟩
      · rw [HFW.out, HFA.out, HBL.out, ← hsvl]
        rfl
      · rw [HFW.out]
        have hk := fun cs nq => (HRQ.out.onlyX ((OnlyX.of_below (X := fun b => X b ∨ b = w.heap.size + 1) (Below.drewN (Below.refl WZ.heap.size WZ) nq)).trans (OnlyX.row (WZ.drewN nq) (w.heap.size + 1) cs (.inr rfl)))).weak (Y := X) (fun b hb => .inl hb)
        exact hk _ _
  · have hrow0 := row_on hx4 hrr
    have hle0 : w1.heap.size ≤ w1.heap.size := Nat.le_refl _
    obtain ⟨WZ, hWZ⟩ : ∃ WZ, put15 w4 w1.heap.size (.int .i64 s.first) (.int .i64 s.blocks) (.slice q.Q1 s.spec.length q.c1) (.slice q.Q2 s.staged.length q.c2) (.slice q.Q3 9 q.c3) (.int .i64 s.seq) (.int .i64 s.block) (.int .i64 s.slot) (.slice q.Q4 q.n4 q.c4) (.slice q.Q5 q.n5 q.c5) (.int .i64 q.pg) (.int .i64 q.er) (.int .i64 q.nb) (.int .i64 q.ns) (.bool s.broken) = WZ := ⟨_, rfl⟩
    have HROW : Hid (WZ.heap[w1.heap.size]? = some (.cells #[.int .i64 s.first, .int .i64 s.blocks, .slice q.Q1 s.spec.length q.c1, .slice q.Q2 s.staged.length q.c2, .slice q.Q3 9 q.c3, .int .i64 s.seq, .int .i64 s.block, .int .i64 s.slot, .slice q.Q4 q.n4 q.c4, .slice q.Q5 q.n5 q.c5, .int .i64 q.pg, .int .i64 q.er, .int .i64 q.nb, .int .i64 q.ns, .bool s.broken] 46 (0, 0))) := by rw [← hWZ]; exact put15_row hrow0 (.int .i64 s.first) (.int .i64 s.blocks) (.slice q.Q1 s.spec.length q.c1) (.slice q.Q2 s.staged.length q.c2) (.slice q.Q3 9 q.c3) (.int .i64 s.seq) (.int .i64 s.block) (.int .i64 s.slot) (.slice q.Q4 q.n4 q.c4) (.slice q.Q5 q.n5 q.c5) (.int .i64 q.pg) (.int .i64 q.er) (.int .i64 q.nb) (.int .i64 q.ns) (.bool s.broken)
    have HWB : Hid (Below w1.heap.size w1 WZ) := by rw [← hWZ]; exact put15_below hb4 hle0 (.int .i64 s.first) (.int .i64 s.blocks) (.slice q.Q1 s.spec.length q.c1) (.slice q.Q2 s.staged.length q.c2) (.slice q.Q3 9 q.c3) (.int .i64 s.seq) (.int .i64 s.block) (.int .i64 s.slot) (.slice q.Q4 q.n4 q.c4) (.slice q.Q5 q.n5 q.c5) (.int .i64 q.pg) (.int .i64 q.er) (.int .i64 q.nb) (.int .i64 q.ns) (.bool s.broken)
    have HRQ : Hid (RvA (fun b => X b ∨ b = w.heap.size + 1) WZ q s g.pg) := by
      rw [← hWZ]
      refine (hq.onlyX ((put15_only w4 w1.heap.size (.int .i64 s.first) (.int .i64 s.blocks) (.slice q.Q1 s.spec.length q.c1) (.slice q.Q2 s.staged.length q.c2) (.slice q.Q3 9 q.c3) (.int .i64 s.seq) (.int .i64 s.block) (.int .i64 s.slot) (.slice q.Q4 q.n4 q.c4) (.slice q.Q5 q.n5 q.c5) (.int .i64 q.pg) (.int .i64 q.er) (.int .i64 q.nb) (.int .i64 q.ns) (.bool s.broken)).more (fun b hb => .inr ?_))).weak (fun b hb => hb.elim .inl (fun e => .inr ⟨by omega, by have h4 := hb3.size; omega⟩))
      have h1 := HO1.out.below.size
      subst hb
      refine ⟨by omega, ?_⟩
      have h2 := hx2.size; have h3 : w1.heap.size < w2.heap.size := by have : (w1.alloc (.cells #[.int .i64 0, .int .i64 0, .slice none 0 0, .slice none 0 0, .slice none 0 0, .int .i64 0, .int .i64 0, .int .i64 0, .slice none 0 0, .slice none 0 0, .int .i64 0, .int .i64 0, .int .i64 0, .int .i64 0, .bool false] 46)).drew.heap.size = w1.heap.size + 1 := (World.size_alloc ..); omega
      have h4 := hx3.size
      omega
    unfold put15 at hWZ
    obtain ⟨B5, hB5⟩ : ∃ B, w1.heap.size = B := ⟨_, rfl⟩
    rw [hB5] at hWZ HROW ⊢
    rw [hWZ]
    clear hWZ hB5 hrow0 hle0 y0 y1 y2 y3 y4 y5 y6 y7 y8 y9 y10 y11 y12 y13 y14 yf
    have HOZ := Lib.hid (HO1.out.later HWB.out)
    obtain ⟨b9, o9, hq3, hcell⟩ : ∃ b o, q.Q3 = some ⟨b, o, none⟩ ∧ ∀ j u, (icells s.saved)[j]? = some u → WZ.cell? ⟨b, o + j, none⟩ = some u := by
      obtain ⟨b, o, e, hlt, _, hc⟩ := HRQ.out.c (by rw [HSV.out]; simp [icells])
      exact ⟨b, o, e, hc⟩
    obtain ⟨z, hz⟩ : ∃ z, s.saved[4 + 3 * va]?.getD 0 = z := ⟨_, rfl⟩
    have HZ := Lib.hid hz
    have c0' : WZ.cell? ⟨b9, o9, none⟩ = some (.int .i64 (va : Int)) := hcell 0 _ (by rw [HSV.out]; rfl)
    have c4' : WZ.cell? ⟨b9, o9 + (4 + 3 * va), none⟩ = some (.int .i64 z) := hcell _ _ (by
      rw [← hz]
      unfold icells
      rw [List.getElem?_map, List.getElem?_eq_getElem (by omega)]
      rfl)
    have y4 : WZ.cell? ⟨B5, 4, none⟩ = some (.slice (some ⟨b9, o9, none⟩) 9 q.c3) := (cell_of_row WZ B5 4 _ 46 (0, 0) HROW.out).trans (by rw [hq3]; rfl)
    have HQ3 := Lib.hid hq3
    clear hq3
    have q1 : IntKind.i64.wrap (3 * (va : Int)) = 3 * (va : Int) := IntWalk.i64_in _ (by omega)
    have q2 : IntKind.i64.wrap (4 + 3 * (va : Int)) = 4 + 3 * (va : Int) := IntWalk.i64_in _ (by omega)
    have k0 : (0 : Int) ≤ 4 + 3 * (va : Int) := by omega
    have k1 : 4 + 3 * (va : Int) < 9 := by omega
    have k2 : (4 + 3 * (va : Int)).toNat = 4 + 3 * va := by omega
    clear hb2 hx2 hb3 hx3 hb4 hq hx4 hr3 hc1 hc2 d0 d1 d2 d3 d4 d5 hcell hz kb ksz
    by_cases hz0 : z = 0
    · have hz1 : (z == 0) = true := by simpa using hz0
      have HE12 : Hid (fwOpenE g first blocks = 12) := by rw [Hid, HFE.out, HZ.out, if_pos hz0]
      subst hz0
      obtain ⟨old, ho1, ho2⟩ := HOZ.out.h6
      go_upto_region 7 with (fail)
      go_quiet (fail)
      go_upto_region 8 with (fail)
      refine wp_region_list ?_
      refine wpList_buildV rfl 48 #[] rfl [] (by simp) zeroB built48 ?_
      refine wpList_store_row rfl 48 _ _ rfl (w.heap.size + 1) zeroB rfl rfl 48 old ho2 size48 (ho1.trans rfl) one26z ?_
      go_wp2
      (try simp only [Exit.inBlock, Exit.then])
      refine bodyPost_ret (v := .tuple #[.agg zeroB, .int .i64 12]) (results_row_tmp (p := 6) (u := 7) rfl _ _ (w.heap.size + 1) 48 zeroB (0, 0) _ rfl (by exact setRow_heap _ _ old _ 48 (0, 0) ho2) Try.underlying48 rfl size48) rfl ⟨.agg zeroB, by rw [HE12.out], by first | exact below_setRow HOZ.out.below (Nat.le_succ _) _ | exact below_setRow (Below.drewN HOZ.out.below _) (Nat.le_succ _) _, fun _ => rfl, fun e => by rw [HE12.out] at e; cases e⟩
    · have hz1 : (z == 0) = false := by simpa using hz0
      have HE0 : Hid (fwOpenE g first blocks = 0) := by rw [Hid, HFE.out, HZ.out, if_neg hz0]
      clear hz0
      obtain ⟨old, ho1, ho2⟩ := HOZ.out.h6
      go_upto_region 7 with (fail)
      go_quiet (fail)
      go_upto_region 9 with (fail)
      refine wp_region_list ?_
      refine wpList_value (v := .int .i64 first) rfl (by rfl) ?_
      refine wpList_value (v := .int .i64 blocks) rfl (by rfl) ?_
      refine wpList_load_row rfl 46 _ rfl B5 rfl 46 _ (0, 0) _ HROW.out Try.underlying46 rfl size105 ?_
      refine wpList_buildV rfl 48 _ rfl [(0, .int .i64 first), (1, .int .i64 blocks), (2, .agg #[.int .i64 s.first, .int .i64 s.blocks, .slice q.Q1 s.spec.length q.c1, .slice q.Q2 s.staged.length q.c2, .slice q.Q3 9 q.c3, .int .i64 s.seq, .int .i64 s.block, .int .i64 s.slot, .slice q.Q4 q.n4 q.c4, .slice q.Q5 q.n5 q.c5, .int .i64 q.pg, .int .i64 q.er, .int .i64 q.nb, .int .i64 q.ns, .bool s.broken]), (3, .int .i64 2)] (by simp [Act.eval, Act.put]) _ (built48v _ _ _ _ _ _ _ _ _ _ _ _ _ _ _ _ _ _) ?_
      refine wpList_store_row rfl 48 _ _ rfl (w.heap.size + 1) #[.int .i64 first, .int .i64 blocks, .int .i64 s.first, .int .i64 s.blocks, .slice q.Q1 s.spec.length q.c1, .slice q.Q2 s.staged.length q.c2, .slice q.Q3 9 q.c3, .int .i64 s.seq, .int .i64 s.block, .int .i64 s.slot, .slice q.Q4 q.n4 q.c4, .slice q.Q5 q.n5 q.c5, .int .i64 q.pg, .int .i64 q.er, .int .i64 q.nb, .int .i64 q.ns, .bool s.broken, .int .i64 2, .bool false, .bool false, .int .i64 0, .int .i64 0, .int .i64 0, .int .i64 0, .slice none 0 0, .slice none 0 0] rfl rfl 48 old ho2 size48 (ho1.trans rfl) (one26 ..) ?_
      go_wp2
      (try simp only [Exit.inBlock, Exit.then])
      refine bodyPost_ret (v := .tuple #[.agg #[.int .i64 first, .int .i64 blocks, .int .i64 s.first, .int .i64 s.blocks, .slice q.Q1 s.spec.length q.c1, .slice q.Q2 s.staged.length q.c2, .slice q.Q3 9 q.c3, .int .i64 s.seq, .int .i64 s.block, .int .i64 s.slot, .slice q.Q4 q.n4 q.c4, .slice q.Q5 q.n5 q.c5, .int .i64 q.pg, .int .i64 q.er, .int .i64 q.nb, .int .i64 q.ns, .bool s.broken, .int .i64 2, .bool false, .bool false, .int .i64 0, .int .i64 0, .int .i64 0, .int .i64 0, .slice none 0 0, .slice none 0 0], .int .i64 0]) (results_row_tmp (p := 6) (u := 7) rfl _ _ (w.heap.size + 1) 48 #[.int .i64 first, .int .i64 blocks, .int .i64 s.first, .int .i64 s.blocks, .slice q.Q1 s.spec.length q.c1, .slice q.Q2 s.staged.length q.c2, .slice q.Q3 9 q.c3, .int .i64 s.seq, .int .i64 s.block, .int .i64 s.slot, .slice q.Q4 q.n4 q.c4, .slice q.Q5 q.n5 q.c5, .int .i64 q.pg, .int .i64 q.er, .int .i64 q.nb, .int .i64 q.ns, .bool s.broken, .int .i64 2, .bool false, .bool false, .int .i64 0, .int .i64 0, .int .i64 0, .int .i64 0, .slice none 0 0, .slice none 0 0] (0, 0) _ rfl (by exact setRow_heap _ _ old _ 48 (0, 0) ho2) Try.underlying48 rfl size48) rfl ⟨_, by rw [HE0.out], by first | exact below_setRow HOZ.out.below (Nat.le_succ _) _ | exact below_setRow (Below.drewN HOZ.out.below _) (Nat.le_succ _) _, fun e => absurd HE0.out e, fun _ => ⟨⟨q, none, 0, 0, none, 0, 0⟩, ?_, rfl, rfl, rfl, rfl, rfl, ?_⟩⟩
      · rw [HFW.out, HFA.out, HBL.out, ← hsvl]
        rfl
      · rw [HFW.out]
        have hk := fun cs nq => (HRQ.out.onlyX ((OnlyX.of_below (X := fun b => X b ∨ b = w.heap.size + 1) (Below.drewN (Below.refl WZ.heap.size WZ) nq)).trans (OnlyX.row (WZ.drewN nq) (w.heap.size + 1) cs (.inr rfl)))).weak (Y := X) (fun b hb => .inl hb)
        exact hk _ _
theorem ropen16 {X : Nat → Prop} {w : World} {x : Rc} {g : Fl} (h : RAt X w x g) (hX : ∀ b, X b → b < w.heap.size) (first blocks : Int) (hf1 : I64 first) (hb1 : I64 blocks) :
    Calls Try.prog 16 #[x.v g, .int .i64 first, .int .i64 blocks] w (RFO X w g first blocks) := by
  by_cases hE : regE g first blocks = 0
  · exact ropen16_go h hX first blocks hE
  · exact ropen16_no h first blocks hf1 hb1 hE
end Go.Proofs.Ytjdknddnanopaaa
