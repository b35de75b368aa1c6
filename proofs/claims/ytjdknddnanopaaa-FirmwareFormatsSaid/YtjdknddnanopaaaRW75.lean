
/-
  The reference of layer 51: a store as a value, also while it writes; its box.
-/
import Derived.Test.YtjdknddnanopaaaRW70
namespace Go.Proofs.Ytjdknddnanopaaa
open Go.RowKit
set_option linter.unusedVariables false
set_option linter.unusedSimpArgs false

/-- What a reference's store has beside the store that it shows. -/
structure Qv where
  Q1 : Option Addr
  c1 : Nat
  Q2 : Option Addr
  c2 : Nat
  Q3 : Option Addr
  c3 : Nat
  Q4 : Option Addr
  n4 : Nat
  c4 : Nat
  Q5 : Option Addr
  n5 : Nat
  c5 : Nat
  pg : Int
  er : Int
  nb : Int
  ns : Int
abbrev Qv.l (q : Qv) (s : St) : List Value := [.int .i64 s.first, .int .i64 s.blocks, .slice q.Q1 s.spec.length q.c1, .slice q.Q2 s.staged.length q.c2, .slice q.Q3 s.saved.length q.c3, .int .i64 s.seq, .int .i64 s.block, .int .i64 s.slot, .slice q.Q4 q.n4 q.c4, .slice q.Q5 q.n5 q.c5, .int .i64 q.pg, .int .i64 q.er, .int .i64 q.nb, .int .i64 q.ns, .bool s.broken]
abbrev Qv.v (q : Qv) (s : St) : Value := .agg #[.int .i64 s.first, .int .i64 s.blocks, .slice q.Q1 s.spec.length q.c1, .slice q.Q2 s.staged.length q.c2, .slice q.Q3 s.saved.length q.c3, .int .i64 s.seq, .int .i64 s.block, .int .i64 s.slot, .slice q.Q4 q.n4 q.c4, .slice q.Q5 q.n5 q.c5, .int .i64 q.pg, .int .i64 q.er, .int .i64 q.nb, .int .i64 q.ns, .bool s.broken]
/-- What it has while it writes. -/
structure RvW (X : Nat → Prop) (w : World) (q : Qv) (s : St) (p : Nat) : Prop where
  vr : RdX X w q.Q4 (icells s.values)
  vl : s.values.length = q.n4
  pr : RdP X w q.Q5 (s.pages.drop s.done)
  pl : (s.pages.drop s.done).length = q.n5
  at' : q.pg = ((s.first + s.dest) * p + s.toSlot * s.k + s.done : Nat)
  er : q.er = if s.erase = true then ((s.first + s.dest : Nat) : Int) else -1
  nb : q.nb = s.dest
  ns : q.ns = s.toSlot
/-- A reference's store that shows the store s; a block has so many pages. -/
structure RvA (X : Nat → Prop) (w : World) (q : Qv) (s : St) (p : Nat) : Prop where
  a : RdX X w q.Q1 (pcells s.spec)
  a1 : s.spec.length ≤ q.c1
  a2 : q.c1 ≤ maxLen
  b : RdX X w q.Q2 (icells s.staged)
  b1 : s.staged.length ≤ q.c2
  b2 : q.c2 ≤ maxLen
  c : RdX X w q.Q3 (icells s.saved)
  cc1 : s.saved.length ≤ q.c3
  cc2 : q.c3 ≤ maxLen
  d1 : q.n4 ≤ q.c4
  d2 : q.c4 ≤ maxLen
  e1 : q.n5 ≤ q.c5
  e2 : q.c5 ≤ maxLen
  wr : s.broken = false → s.busy = true → RvW X w q s p
  no : s.broken = false → s.busy = false → q.n5 = 0
section
variable {X Y : Nat → Prop} {w w' : World} {q : Qv} {s : St} {p : Nat}
theorem RvW.onlyX (h : RvW X w q s p) (k : OnlyX X w w') : RvW X w' q s p := ⟨h.vr.onlyX k, h.vl, h.pr.onlyX k, h.pl, h.at', h.er, h.nb, h.ns⟩
theorem RvW.newX (h : RvW X w q s p) (hY : ∀ b, b < w.heap.size → Y b → X b) : RvW Y w q s p := ⟨h.vr.newX hY, h.vl, h.pr.newX hY, h.pl, h.at', h.er, h.nb, h.ns⟩
theorem RvA.onlyX (h : RvA X w q s p) (k : OnlyX X w w') : RvA X w' q s p := ⟨h.a.onlyX k, h.a1, h.a2, h.b.onlyX k, h.b1, h.b2, h.c.onlyX k, h.cc1, h.cc2, h.d1, h.d2, h.e1, h.e2, fun e1 e2 => (h.wr e1 e2).onlyX k, h.no⟩
theorem RvA.newX (h : RvA X w q s p) (hY : ∀ b, b < w.heap.size → Y b → X b) : RvA Y w q s p := ⟨h.a.newX hY, h.a1, h.a2, h.b.newX hY, h.b1, h.b2, h.c.newX hY, h.cc1, h.cc2, h.d1, h.d2, h.e1, h.e2, fun e1 e2 => (h.wr e1 e2).newX hY, h.no⟩
theorem RvA.below (h : RvA X w q s p) (hb : Below w.heap.size w w') : RvA X w' q s p := h.onlyX (.of_below hb)
end
theorem RsO.rv {X : Nat → Prop} {w : World} {v : Value} {s : St} {p : Nat} (h : RsO X w v s) (hb : s.broken = false) (hu : s.busy = false) : ∃ q : Qv, v = q.v s ∧ RvA X w q s p := by
  obtain ⟨Q1, c1, Q2, c2, Q3, c3, rfl, r1, r11, r12, r2, r21, r22, r3, r31, r32⟩ := h
  exact ⟨⟨Q1, c1, Q2, c2, Q3, c3, none, 0, 0, none, 0, 0, 0, -1, 0, 0⟩, by rw [Qv.v, hb], r1, r11, r12, r2, r21, r22, r3, r31, r32, Nat.le_refl _, Nat.zero_le _, Nat.le_refl _, Nat.zero_le _, (fun _ e => by rw [hu] at e; cases e), fun _ _ => rfl⟩

/-- The box of a store, and that of the result. -/
structure Bq (w wr : World) (D D8 : Nat) (l : List Value) : Prop where
  below : Below w.heap.size w wr
  o8 : wr.ownsRow w.heap.size 46 15 (.slice (some ⟨D8, 0, none⟩) 1 1) 1 zL
  o : wr.ownsRow w.heap.size 46 15 (.slice (some ⟨D, 0, none⟩) 1 1) 1 l
  len : l.length = 15
  ne : D8 ≠ D
section
variable {w wr w' : World} {D D8 : Nat} {l : List Value}
theorem Bq.later (h : Bq w wr D D8 l) (hb : Below wr.heap.size wr w') : Bq w w' D D8 l := ⟨h.below.trans (hb.mono h.below.size), own_below h.o8 hb, own_below h.o hb, h.len, h.ne⟩
theorem Bq.row (h : Bq w wr D D8 l) (j : Nat) (u : Value) (hj : l[j]? = some u) : wr.cell? ⟨D, j, none⟩ = some u := by
  have hlt : j < 15 := by
    have := (List.getElem?_eq_some_iff.1 hj).1
    rw [h.len] at this
    exact this
  rw [h.o.cellAt j (by omega)]
  exact hj
theorem Bq.fz (h : Bq w wr D D8 l) (j : Nat) : wr.frozen? ⟨D, j, none⟩ = false := h.o.frozenAt _
theorem Bq.z (h : Bq w wr D D8 l) (j : Nat) (u : Value) (hj : zL[j]? = some u) : wr.cell? ⟨D8, j, none⟩ = some u := by
  have hlt : j < 15 := by
    have := (List.getElem?_eq_some_iff.1 hj).1
    simpa [zL] using this
  rw [h.o8.cellAt j (by omega)]
  exact hj
theorem Bq.zf (h : Bq w wr D D8 l) (j : Nat) : wr.frozen? ⟨D8, j, none⟩ = false := h.o8.frozenAt _
theorem Bq.big (h : Bq w wr D D8 l) : w.heap.size ≤ D ∧ w.heap.size ≤ D8 := ⟨(h.o.lt _ rfl).1, (h.o8.lt _ rfl).1⟩
theorem Bq.set (h : Bq w wr D D8 l) (j : Nat) (u : Value) : Bq w (wr.setCell ⟨D, j, none⟩ u) D D8 (l.set j u) := by
  have h1 := h.o.stored j u
  refine ⟨h.below.setCell (p := ⟨D, j, none⟩) h.big.1 _, ?_, h1.1, by rw [List.length_set]; exact h.len, h.ne⟩
  refine kept_of h.o8 h1.2 (fun g' hg e => ?_)
  have e1 : D8 = g' := by simpa [Value.ownBlock] using hg
  have e2 : D = g' := by simpa using e
  exact h.ne (e1.trans e2.symm)
/-- A row of another type is kept while a field is stored. -/
theorem Bq.aside (h : Bq w wr D D8 l) (j : Nat) (u : Value) {e size k : Nat} {v : Value} {xs : List Value} (ho : wr.ownsRow w.heap.size e size v k xs) (he : e ≠ 46) : (wr.setCell ⟨D, j, none⟩ u).ownsRow w.heap.size e size v k xs :=
  kept_of ho (h.o.stored j u).2 (fun g hg e' => own_ne_own h.o ho (by omega) g e' hg)
end
end Go.Proofs.Ytjdknddnanopaaa
