/-
  A flash memory in memory.
-/
import Derived.Test.YtfeceamhlphelaaPlainF
namespace Go.Proofs.Ytfeceamhlphelaa
open Go.RowKit

/-- Where a flash lies. -/
structure Lc where
  d : Nat
  gi : Nat
  gw : Nat
  ci : Nat
  cw : Nat
  Ap : Option Addr
  cp : Nat

/-- A list that lies apart from a flash's own blocks. -/
def Apart (L : Lc) (w : World) (A : Option Addr) (xs : List Value) : Prop :=
  xs ≠ [] → ∃ b off, A = some ⟨b, off, none⟩ ∧ b < w.heap.size ∧ b ≠ L.d ∧ b ≠ L.gi ∧ b ≠ L.gw ∧ ∀ j u, xs[j]? = some u → w.cell? ⟨b, off + j, none⟩ = some u

/-- Nothing has turned but a flash's own blocks. -/
structure Only (L : Lc) (w w' : World) : Prop where
  size : w.heap.size ≤ w'.heap.size
  block : ∀ k, k < w.heap.size → k ≠ L.d → k ≠ L.gi → k ≠ L.gw → w'.heap[k]? = w.heap[k]?

theorem Only.refl (L : Lc) (w : World) : Only L w w := ⟨Nat.le_refl _, fun _ _ _ _ _ => rfl⟩
theorem Only.trans {L : Lc} {a b c : World} (h : Only L a b) (k : Only L b c) : Only L a c :=
  ⟨Nat.le_trans h.size k.size, fun i hi h1 h2 h3 => (k.block i (Nat.lt_of_lt_of_le hi h.size) h1 h2 h3).trans (h.block i hi h1 h2 h3)⟩
theorem Only.of_below {L : Lc} {w w' : World} (h : Below w.heap.size w w') : Only L w w' := ⟨h.size, fun k hk _ _ _ => h.block k hk⟩
theorem Only.set {L : Lc} (w : World) (p : Addr) (u : Value) (h : p.block = L.d ∨ p.block = L.gi ∨ p.block = L.gw) : Only L w (w.setCell p u) :=
  ⟨by simp [World.setCell], fun k _ h1 h2 h3 => Below.heap_setCell _ _ _ _ (by omega)⟩
theorem Only.same {L L' : Lc} {w w' : World} (h : Only L w w') (h1 : L'.d = L.d) (h2 : L'.gi = L.gi) (h3 : L'.gw = L.gw) : Only L' w w' := ⟨h.size, fun k hk a b c => h.block k hk (by omega) (by omega) (by omega)⟩

theorem cell_of_block {w w' : World} {b o : Nat} (h : w'.heap[b]? = w.heap[b]?) : w'.cell? ⟨b, o, none⟩ = w.cell? ⟨b, o, none⟩ := by
  simp only [World.cell?, h]

theorem Apart.only {L : Lc} {w w' : World} {A : Option Addr} {xs : List Value} (h : Apart L w A xs) (k : Only L w w') : Apart L w' A xs := fun hx => by
  obtain ⟨b, off, e, hlt, h1, h2, h3, hc⟩ := h hx
  exact ⟨b, off, e, Nat.lt_of_lt_of_le hlt k.size, h1, h2, h3, fun j u hu => (cell_of_block (k.block b hlt h1 h2 h3)).trans (hc j u hu)⟩
theorem Apart.rd {L : Lc} {w : World} {A : Option Addr} {xs : List Value} (h : Apart L w A xs) : Rd w w.heap.size A xs := fun hx => by
  obtain ⟨b, off, e, hlt, h1, h2, h3, hc⟩ := h hx
  exact ⟨b, off, e, hlt, hc⟩
theorem Apart.same {L L' : Lc} {w : World} {A : Option Addr} {xs : List Value} (h : Apart L w A xs) (h1 : L'.d = L.d) (h2 : L'.gi = L.gi) (h3 : L'.gw = L.gw) : Apart L' w A xs := fun hx => by
  obtain ⟨b, off, e, hlt, g1, g2, g3, hc⟩ := h hx
  exact ⟨b, off, e, hlt, by omega, by omega, by omega, hc⟩

structure FlAt (w0 w : World) (L : Lc) (f : Fl) : Prop where
  ok : f.ok
  below : Below w0.heap.size w0 w
  bd : w0.heap.size ≤ L.d
  ld : L.d < w.heap.size
  ni : L.d ≠ L.gi
  nw : L.d ≠ L.gw
  iw : L.gi ≠ L.gw
  c0 : w.cell? ⟨L.d, 0, none⟩ = some (.int .i64 f.pg)
  c1 : w.cell? ⟨L.d, 1, none⟩ = some (.slice (some ⟨L.gi, 0, none⟩) f.img.length L.ci)
  c2 : w.cell? ⟨L.d, 2, none⟩ = some (.slice (some ⟨L.gw, 0, none⟩) f.wear.length L.cw)
  c3 : w.cell? ⟨L.d, 3, none⟩ = some (.bool f.down)
  c4 : w.cell? ⟨L.d, 4, none⟩ = some (.int .i64 f.fuse)
  c5 : w.cell? ⟨L.d, 5, none⟩ = some (.slice L.Ap f.picks.length L.cp)
  fz : ∀ j, w.frozen? ⟨L.d, j, none⟩ = false
  oi : w.ownsRow w0.heap.size 5 1 (.slice (some ⟨L.gi, 0, none⟩) f.img.length L.ci) f.img.length (kcells .u8 f.img)
  ow : w.ownsRow w0.heap.size 3 1 (.slice (some ⟨L.gw, 0, none⟩) f.wear.length L.cw) f.wear.length (icells f.wear)
  pc : f.picks.length ≤ L.cp
  pm : L.cp ≤ maxLen
  pk : Apart L w L.Ap (kcells .u8 f.picks)

theorem FlAt.bi {w0 w : World} {L : Lc} {f : Fl} (h : FlAt w0 w L f) : w0.heap.size ≤ L.gi ∧ L.gi < w.heap.size := h.oi.lt _ rfl
theorem FlAt.bw {w0 w : World} {L : Lc} {f : Fl} (h : FlAt w0 w L f) : w0.heap.size ≤ L.gw ∧ L.gw < w.heap.size := h.ow.lt _ rfl

theorem FlAt.later {w0 w w' : World} {L : Lc} {f : Fl} (h : FlAt w0 w L f) (hb : Below w.heap.size w w') : FlAt w0 w' L f := by
  have hc : ∀ j, w'.cell? ⟨L.d, j, none⟩ = w.cell? ⟨L.d, j, none⟩ := fun j => hb.cell (p := ⟨L.d, j, none⟩) h.ld
  exact ⟨h.ok, h.below.trans (hb.mono h.below.size), h.bd, Nat.lt_of_lt_of_le h.ld hb.size, h.ni, h.nw, h.iw, (hc 0).trans h.c0, (hc 1).trans h.c1, (hc 2).trans h.c2, (hc 3).trans h.c3, (hc 4).trans h.c4, (hc 5).trans h.c5,
    fun j => (hb.frozen (p := ⟨L.d, j, none⟩) h.ld).trans (h.fz j), own_below h.oi hb, own_below h.ow hb, h.pc, h.pm, h.pk.only (Only.of_below hb)⟩
theorem FlAt.alloc {w0 w : World} {L : Lc} {f : Fl} (h : FlAt w0 w L f) (o : Obj) : FlAt w0 (w.alloc o) L f := h.later ((Below.refl _ _).alloc (Nat.le_refl _) o)
theorem FlAt.drewN {w0 w : World} {L : Lc} {f : Fl} (h : FlAt w0 w L f) (n : Nat) : FlAt w0 (w.drewN n) L f := h.later (Below.drewN (Below.refl _ _) n)

/-- A byte of the image is stored. -/
theorem FlAt.img {w0 w : World} {L : Lc} {f : Fl} (h : FlAt w0 w L f) (k : Nat) (x : Int) (hx : 0 ≤ x ∧ x < 256) :
    FlAt w0 (w.setCell ⟨L.gi, k, none⟩ (.int .u8 x)) L { f with img := f.img.set k x } ∧ Only L w (w.setCell ⟨L.gi, k, none⟩ (.int .u8 x)) := by
  have ho := Only.set w ⟨L.gi, k, none⟩ (.int .u8 x) (.inr (.inl rfl) : L.gi = L.d ∨ L.gi = L.gi ∨ L.gi = L.gw)
  have hb : Below w0.heap.size w0 (w.setCell ⟨L.gi, k, none⟩ (.int .u8 x)) := h.below.setCell (p := ⟨L.gi, k, none⟩) h.bi.1 _
  have hd : ∀ j, (w.setCell ⟨L.gi, k, none⟩ (.int .u8 x)).cell? ⟨L.d, j, none⟩ = w.cell? ⟨L.d, j, none⟩ := fun j => cell_of_block (Below.heap_setCell _ _ _ _ (by exact h.ni))
  have hi : (w.setCell ⟨L.gi, k, none⟩ (.int .u8 x)).ownsRow w0.heap.size 5 1 (.slice (some ⟨L.gi, 0, none⟩) f.img.length L.ci) f.img.length (kcells .u8 (f.img.set k x)) := by
    have e : kcells .u8 (f.img.set k x) = (kcells .u8 f.img).set k (.int .u8 x) := by simp [kcells]
    rw [e]
    exact (h.oi.stored k (.int .u8 x)).1
  refine ⟨⟨⟨h.ok.p1, h.ok.p2, h.ok.b1, h.ok.b2, by simpa using h.ok.len, ?_, h.ok.pby, h.ok.fu1, h.ok.fu2⟩, hb, h.bd, by simpa [World.setCell] using h.ld, h.ni, h.nw, h.iw, (hd 0).trans h.c0, ?_, (hd 2).trans h.c2, (hd 3).trans h.c3, (hd 4).trans h.c4, (hd 5).trans h.c5, ?_, ?_, ?_, h.pc, h.pm, h.pk.only ho⟩, ho⟩
  · intro y hy
    rcases List.mem_or_eq_of_mem_set hy with g | g
    · exact h.ok.byt y g
    · rw [g]; exact hx
  · rw [hd 1, h.c1]; simp
  · intro j
    rw [World.frozen?_setCell]
    exact h.fz j
  · simpa using hi
  · exact ownsRow_setCell_other h.ow (by simpa [Value.ownBlock] using fun e => h.iw e.symm) _

/-- A number of the wear is stored. -/
theorem FlAt.wr {w0 w : World} {L : Lc} {f : Fl} (h : FlAt w0 w L f) (k : Nat) (x : Int) :
    FlAt w0 (w.setCell ⟨L.gw, k, none⟩ (.int .i64 x)) L { f with wear := f.wear.set k x } ∧ Only L w (w.setCell ⟨L.gw, k, none⟩ (.int .i64 x)) := by
  have ho := Only.set w ⟨L.gw, k, none⟩ (.int .i64 x) (.inr (.inr rfl) : L.gw = L.d ∨ L.gw = L.gi ∨ L.gw = L.gw)
  have hb : Below w0.heap.size w0 (w.setCell ⟨L.gw, k, none⟩ (.int .i64 x)) := h.below.setCell (p := ⟨L.gw, k, none⟩) h.bw.1 _
  have hd : ∀ j, (w.setCell ⟨L.gw, k, none⟩ (.int .i64 x)).cell? ⟨L.d, j, none⟩ = w.cell? ⟨L.d, j, none⟩ := fun j => cell_of_block (Below.heap_setCell _ _ _ _ (by exact h.nw))
  have hi : (w.setCell ⟨L.gw, k, none⟩ (.int .i64 x)).ownsRow w0.heap.size 3 1 (.slice (some ⟨L.gw, 0, none⟩) f.wear.length L.cw) f.wear.length (icells (f.wear.set k x)) := by
    have e : icells (f.wear.set k x) = (icells f.wear).set k (.int .i64 x) := by simp [icells]
    rw [e]
    exact (h.ow.stored k (.int .i64 x)).1
  refine ⟨⟨⟨h.ok.p1, h.ok.p2, by simpa using h.ok.b1, by simpa using h.ok.b2, by simpa using h.ok.len, h.ok.byt, h.ok.pby, h.ok.fu1, h.ok.fu2⟩, hb, h.bd, by simpa [World.setCell] using h.ld, h.ni, h.nw, h.iw, (hd 0).trans h.c0, (hd 1).trans h.c1, ?_, (hd 3).trans h.c3, (hd 4).trans h.c4, (hd 5).trans h.c5, ?_, ?_, ?_, h.pc, h.pm, h.pk.only ho⟩, ho⟩
  · rw [hd 2, h.c2]; simp
  · intro j
    rw [World.frozen?_setCell]
    exact h.fz j
  · exact ownsRow_setCell_other h.oi (by simpa [Value.ownBlock] using h.iw) _
  · simpa using hi

theorem FlAt.keepd {w0 w w' : World} {L : Lc} {f : Fl} (h : FlAt w0 w L f) (j : Nat) (u : Value) (hw : w' = w.setCell ⟨L.d, j, none⟩ u) :
    Below w0.heap.size w0 w' ∧ L.d < w'.heap.size ∧ (∀ i, w'.frozen? ⟨L.d, i, none⟩ = false) ∧ Only L w w' ∧
    w'.ownsRow w0.heap.size 5 1 (.slice (some ⟨L.gi, 0, none⟩) f.img.length L.ci) f.img.length (kcells .u8 f.img) ∧
    w'.ownsRow w0.heap.size 3 1 (.slice (some ⟨L.gw, 0, none⟩) f.wear.length L.cw) f.wear.length (icells f.wear) ∧ Apart L w' L.Ap (kcells .u8 f.picks) ∧ (∀ i, i ≠ j → w'.cell? ⟨L.d, i, none⟩ = w.cell? ⟨L.d, i, none⟩) := by
  subst hw
  have ho := Only.set w ⟨L.d, j, none⟩ u (.inl rfl : L.d = L.d ∨ L.d = L.gi ∨ L.d = L.gw)
  refine ⟨h.below.setCell (p := ⟨L.d, j, none⟩) h.bd _, by simpa [World.setCell] using h.ld, fun i => ?_, ho, ?_, ?_, h.pk.only ho, fun i hi => ?_⟩
  · rw [World.frozen?_setCell]
    exact h.fz i
  · exact ownsRow_setCell_other h.oi (by simpa [Value.ownBlock] using fun e => h.ni e.symm) _
  · exact ownsRow_setCell_other h.ow (by simpa [Value.ownBlock] using fun e => h.nw e.symm) _
  · refine World.cell?_setCell_other _ _ _ _ ?_
    intro e
    injection e with _ e
    exact hi e.symm

/-- The power fails or comes back. -/
theorem FlAt.dn {w0 w : World} {L : Lc} {f : Fl} (h : FlAt w0 w L f) (b : Bool) :
    FlAt w0 (w.setCell ⟨L.d, 3, none⟩ (.bool b)) L { f with down := b } ∧ Only L w (w.setCell ⟨L.d, 3, none⟩ (.bool b)) := by
  obtain ⟨a1, a2, a3, a4, a5, a6, a7, a8⟩ := h.keepd 3 (.bool b) rfl
  exact ⟨⟨⟨h.ok.p1, h.ok.p2, h.ok.b1, h.ok.b2, h.ok.len, h.ok.byt, h.ok.pby, h.ok.fu1, h.ok.fu2⟩, a1, h.bd, a2, h.ni, h.nw, h.iw, (a8 0 (by omega)).trans h.c0, (a8 1 (by omega)).trans h.c1, (a8 2 (by omega)).trans h.c2, World.cell?_setCell_same _ _ _ h.c3, (a8 4 (by omega)).trans h.c4, (a8 5 (by omega)).trans h.c5, a3, a5, a6, h.pc, h.pm, a7⟩, a4⟩

/-- The fuse is stored. -/
theorem FlAt.fu {w0 w : World} {L : Lc} {f : Fl} (h : FlAt w0 w L f) (n : Int) (h1 : -1 ≤ n) (h2 : n < 9223372036854775808) :
    FlAt w0 (w.setCell ⟨L.d, 4, none⟩ (.int .i64 n)) L { f with fuse := n } ∧ Only L w (w.setCell ⟨L.d, 4, none⟩ (.int .i64 n)) := by
  obtain ⟨a1, a2, a3, a4, a5, a6, a7, a8⟩ := h.keepd 4 (.int .i64 n) rfl
  exact ⟨⟨⟨h.ok.p1, h.ok.p2, h.ok.b1, h.ok.b2, h.ok.len, h.ok.byt, h.ok.pby, h1, h2⟩, a1, h.bd, a2, h.ni, h.nw, h.iw, (a8 0 (by omega)).trans h.c0, (a8 1 (by omega)).trans h.c1, (a8 2 (by omega)).trans h.c2, (a8 3 (by omega)).trans h.c3, World.cell?_setCell_same _ _ _ h.c4, (a8 5 (by omega)).trans h.c5, a3, a5, a6, h.pc, h.pm, a7⟩, a4⟩

/-- The picks are stored. -/
theorem FlAt.pi {w0 w : World} {L : Lc} {f : Fl} (h : FlAt w0 w L f) (A : Option Addr) (c : Nat) (p : List Int) (hc : p.length ≤ c) (hm : c ≤ maxLen) (hp : Bytes p) (ha : Apart L w A (kcells .u8 p)) :
    FlAt w0 (w.setCell ⟨L.d, 5, none⟩ (.slice A p.length c)) { L with Ap := A, cp := c } { f with picks := p } ∧ Only L w (w.setCell ⟨L.d, 5, none⟩ (.slice A p.length c)) := by
  obtain ⟨a1, a2, a3, a4, a5, a6, a7, a8⟩ := h.keepd 5 (.slice A p.length c) rfl
  exact ⟨⟨⟨h.ok.p1, h.ok.p2, h.ok.b1, h.ok.b2, h.ok.len, h.ok.byt, hp, h.ok.fu1, h.ok.fu2⟩, a1, h.bd, a2, h.ni, h.nw, h.iw, (a8 0 (by omega)).trans h.c0, (a8 1 (by omega)).trans h.c1, (a8 2 (by omega)).trans h.c2, (a8 3 (by omega)).trans h.c3, (a8 4 (by omega)).trans h.c4, World.cell?_setCell_same _ _ _ h.c5, a3, a5, a6, hc, hm, (ha.only a4).same rfl rfl rfl⟩, a4⟩
end Go.Proofs.Ytfeceamhlphelaa
