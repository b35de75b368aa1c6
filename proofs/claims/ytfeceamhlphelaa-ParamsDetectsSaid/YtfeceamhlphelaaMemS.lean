/-
  A store of parameters in memory.
-/
import Derived.Test.YtfeceamhlphelaaPlainS
import Derived.Test.YtfeceamhlphelaaW35
namespace Go.Proofs.Ytfeceamhlphelaa
open Go.RowKit
set_option linter.unusedVariables false

/-- Nothing has turned but the blocks X. -/
structure OnlyX (X : Nat → Prop) (w w' : World) : Prop where
  size : w.heap.size ≤ w'.heap.size
  block : ∀ k, k < w.heap.size → ¬ X k → w'.heap[k]? = w.heap[k]?
theorem OnlyX.refl (X : Nat → Prop) (w : World) : OnlyX X w w := ⟨Nat.le_refl _, fun _ _ _ => rfl⟩
theorem OnlyX.trans {X : Nat → Prop} {a b c : World} (h : OnlyX X a b) (k : OnlyX X b c) : OnlyX X a c :=
  ⟨Nat.le_trans h.size k.size, fun i hi hx => (k.block i (Nat.lt_of_lt_of_le hi h.size) hx).trans (h.block i hi hx)⟩
theorem OnlyX.of_below {X : Nat → Prop} {w w' : World} (h : Below w.heap.size w w') : OnlyX X w w' := ⟨h.size, fun k hk _ => h.block k hk⟩
theorem OnlyX.set {X : Nat → Prop} (w : World) (p : Addr) (u : Value) (h : X p.block) : OnlyX X w (w.setCell p u) :=
  ⟨by simp [World.setCell], fun k _ hx => Below.heap_setCell _ _ _ _ (fun e => hx (e ▸ h))⟩
theorem OnlyX.of_only {L : Lc} {X : Nat → Prop} {w w' : World} (h : Only L w w') (hX : X L.d ∧ X L.gi ∧ X L.gw) : OnlyX X w w' :=
  ⟨h.size, fun k hk hx => h.block k hk (fun e => hx (e ▸ hX.1)) (fun e => hx (e ▸ hX.2.1)) (fun e => hx (e ▸ hX.2.2))⟩
theorem RdX.onlyX {X : Nat → Prop} {w w' : World} {A : Option Addr} {xs : List Value} (h : RdX X w A xs) (k : OnlyX X w w') : RdX X w' A xs := fun hx => by
  obtain ⟨b, off, e, hlt, hn, hc⟩ := h hx
  exact ⟨b, off, e, Nat.lt_of_lt_of_le hlt k.size, hn, fun j u hu => (cell_of_block (k.block b hlt hn)).trans (hc j u hu)⟩
theorem RdX.newX {X Y : Nat → Prop} {w : World} {A : Option Addr} {xs : List Value} (h : RdX X w A xs) (hY : ∀ b, b < w.heap.size → Y b → X b) : RdX Y w A xs := fun hx => by
  obtain ⟨b, off, e, hlt, hn, hc⟩ := h hx
  exact ⟨b, off, e, hlt, fun hb => hn (hY b hlt hb), hc⟩
theorem RdX.part {X : Nat → Prop} {w : World} {A : Option Addr} {xs ys : List Value} (h : RdX X w A xs) (hp : ys <+: xs) : RdX X w A ys := by
  intro hy
  obtain ⟨z, rfl⟩ := hp
  obtain ⟨b, off, e, hlt, hn, hc⟩ := h (by simp [hy])
  refine ⟨b, off, e, hlt, hn, fun j u hu => hc j u ?_⟩
  rw [List.getElem?_append_left (List.getElem?_eq_some_iff.1 hu).1]
  exact hu
theorem RdP.onlyX {X : Nat → Prop} {w w' : World} {A : Option Addr} {ps : List (List Int)} (h : RdP X w A ps) (k : OnlyX X w w') : RdP X w' A ps := by
  obtain ⟨vs, a, b, c⟩ := h
  refine ⟨vs, a.onlyX k, b, fun i p hp => ?_⟩
  obtain ⟨Q, m, cc, d1, d2, d3, d4, d5⟩ := c i p hp
  exact ⟨Q, m, cc, d1, d2, d3, d4, d5.onlyX k⟩
theorem RdP.newX {X Y : Nat → Prop} {w : World} {A : Option Addr} {ps : List (List Int)} (h : RdP X w A ps) (hY : ∀ b, b < w.heap.size → Y b → X b) : RdP Y w A ps := by
  obtain ⟨vs, a, b, c⟩ := h
  refine ⟨vs, a.newX hY, b, fun i p hp => ?_⟩
  obtain ⟨Q, m, cc, d1, d2, d3, d4, d5⟩ := c i p hp
  exact ⟨Q, m, cc, d1, d2, d3, d4, d5.newX hY⟩
theorem RdP.nil {X : Nat → Prop} {w : World} {A : Option Addr} : RdP X w A [] := ⟨[], fun h => absurd rfl h, rfl, fun i p h => by simp at h⟩

/-- Where a store lies. -/
structure Sc where
  D : Nat
  G : Nat
  cg : Nat
  As : Option Addr
  cs : Nat
  Av : Option Addr
  cv : Nat
  Ap : Option Addr
  cp : Nat
  Au : Option Addr
  cu : Nat
def Sc.cells (S : Sc) (d : Nat) (s : St) : List Value :=
  [.pointer (some ⟨d, 0, none⟩), .int .i64 s.first, .int .i64 s.blocks, .slice S.As s.spec.length S.cs, .slice S.Av s.saved.length S.cv, .slice (some ⟨S.G, 0, none⟩) s.staged.length S.cg,
   .int .i64 s.seq, .int .i64 s.block, .int .i64 s.slot, .bool s.broken, .slice S.Ap s.pages.length S.cp, .slice S.Au s.values.length S.cu, .int .i64 s.dest, .int .i64 s.toSlot, .int .i64 s.done, .bool s.erase, .bool s.busy]
def Own (L : Lc) (S : Sc) (b : Nat) : Prop := b = L.d ∨ b = L.gi ∨ b = L.gw ∨ b = S.D ∨ b = S.G
def pcells (l : List Par) : List Value := l.flatMap Par.cells
theorem Own.fl (L : Lc) (S : Sc) : Own L S L.d ∧ Own L S L.gi ∧ Own L S L.gw := ⟨.inl rfl, .inr (.inl rfl), .inr (.inr (.inl rfl))⟩
theorem Own.d (L : Lc) (S : Sc) : Own L S S.D := .inr (.inr (.inr (.inl rfl)))
theorem Own.g (L : Lc) (S : Sc) : Own L S S.G := .inr (.inr (.inr (.inr rfl)))

/-- The lists of a store. -/
structure SlR (X : Nat → Prop) (w : World) (S : Sc) (s : St) : Prop where
  sp : RdX X w S.As (pcells s.spec)
  sp1 : s.spec.length ≤ S.cs
  sp2 : S.cs ≤ maxLen
  sv : RdX X w S.Av (icells s.saved)
  sv1 : s.saved.length ≤ S.cv
  sv2 : S.cv ≤ maxLen
  pp : RdP X w S.Ap s.pages
  pp1 : s.pages.length ≤ S.cp
  pp2 : S.cp ≤ maxLen
  vv : RdX X w S.Au (icells s.values)
  vv1 : s.values.length ≤ S.cu
  vv2 : S.cu ≤ maxLen
theorem SlR.onlyX {X : Nat → Prop} {w w' : World} {S : Sc} {s : St} (h : SlR X w S s) (k : OnlyX X w w') : SlR X w' S s :=
  ⟨h.sp.onlyX k, h.sp1, h.sp2, h.sv.onlyX k, h.sv1, h.sv2, h.pp.onlyX k, h.pp1, h.pp2, h.vv.onlyX k, h.vv1, h.vv2⟩

theorem SlR.like {X : Nat → Prop} {w : World} {S : Sc} {s : St} (h : SlR X w S s) (s' : St) (e1 : s'.spec = s.spec) (e2 : s'.saved = s.saved) (e3 : s'.pages = s.pages) (e4 : s'.values = s.values) : SlR X w S s' :=
  ⟨by rw [e1]; exact h.sp, by rw [e1]; exact h.sp1, h.sp2, by rw [e2]; exact h.sv, by rw [e2]; exact h.sv1, h.sv2, by rw [e3]; exact h.pp, by rw [e3]; exact h.pp1, h.pp2, by rw [e4]; exact h.vv, by rw [e4]; exact h.vv1, h.vv2⟩

structure StAt (w0 w : World) (L : Lc) (S : Sc) (f : Fl) (s : St) : Prop where
  fl : FlAt w0 w L f
  dd : w0.heap.size ≤ S.D
  dl : S.D < w.heap.size
  d1 : S.D ≠ L.d
  d2 : S.D ≠ L.gi
  d3 : S.D ≠ L.gw
  dg : S.D ≠ S.G
  g1 : S.G ≠ L.d
  g2 : S.G ≠ L.gi
  g3 : S.G ≠ L.gw
  row : ∀ j u, (S.cells L.d s)[j]? = some u → w.cell? ⟨S.D, j, none⟩ = some u
  fz : ∀ j, w.frozen? ⟨S.D, j, none⟩ = false
  sg : w.ownsRow w0.heap.size 3 1 (.slice (some ⟨S.G, 0, none⟩) s.staged.length S.cg) s.staged.length (icells s.staged)
  sl : SlR (Own L S) w S s
  pk : RdX (Own L S) w L.Ap (kcells .u8 f.picks)

theorem StAt.gl {w0 w : World} {L : Lc} {S : Sc} {f : Fl} {s : St} (h : StAt w0 w L S f s) : w0.heap.size ≤ S.G ∧ S.G < w.heap.size := h.sg.lt _ rfl
theorem StAt.cg {w0 w : World} {L : Lc} {S : Sc} {f : Fl} {s : St} (h : StAt w0 w L S f s) : s.staged.length ≤ S.cg ∧ S.cg ≤ maxLen := by
  obtain ⟨A, c, hv, h1, h2, hr⟩ := own_read h.sg
  injection hv with e1 e2 e3
  subst e3
  exact ⟨h1, h2⟩

theorem FlAt.aside {w0 w w' : World} {L : Lc} {f : Fl} {X : Nat → Prop} (h : FlAt w0 w L f) (hb : Below w0.heap.size w0 w') (ho : OnlyX X w w') (h1 : ¬ X L.d) (h2 : ¬ X L.gi) (h3 : ¬ X L.gw)
    (hf : ∀ j, w'.frozen? ⟨L.d, j, none⟩ = w.frozen? ⟨L.d, j, none⟩) (hoi : w'.ownsRow w0.heap.size 5 1 (.slice (some ⟨L.gi, 0, none⟩) f.img.length L.ci) f.img.length (kcells .u8 f.img))
    (how : w'.ownsRow w0.heap.size 3 1 (.slice (some ⟨L.gw, 0, none⟩) f.wear.length L.cw) f.wear.length (icells f.wear)) (hp : Apart L w' L.Ap (kcells .u8 f.picks)) : FlAt w0 w' L f := by
  have hc : ∀ j, w'.cell? ⟨L.d, j, none⟩ = w.cell? ⟨L.d, j, none⟩ := fun j => cell_of_block (ho.block L.d h.ld h1)
  exact ⟨h.ok, hb, h.bd, Nat.lt_of_lt_of_le h.ld ho.size, h.ni, h.nw, h.iw, (hc 0).trans h.c0, (hc 1).trans h.c1, (hc 2).trans h.c2, (hc 3).trans h.c3, (hc 4).trans h.c4, (hc 5).trans h.c5, fun j => (hf j).trans (h.fz j), hoi, how, h.pc, h.pm, hp⟩

section
variable {w0 w : World} {L : Lc} {S : Sc} {f : Fl} {s : St}

theorem StAt.later (h : StAt w0 w L S f s) {w' : World} (hb : Below w.heap.size w w') : StAt w0 w' L S f s := by
  have hc : ∀ j, w'.cell? ⟨S.D, j, none⟩ = w.cell? ⟨S.D, j, none⟩ := fun j => hb.cell (p := ⟨S.D, j, none⟩) h.dl
  exact ⟨h.fl.later hb, h.dd, Nat.lt_of_lt_of_le h.dl hb.size, h.d1, h.d2, h.d3, h.dg, h.g1, h.g2, h.g3, fun j u hu => (hc j).trans (h.row j u hu), fun j => (hb.frozen (p := ⟨S.D, j, none⟩) h.dl).trans (h.fz j),
    own_below h.sg hb, h.sl.onlyX (.of_below hb), h.pk.onlyX (.of_below hb)⟩

/-- The flash has turned. -/
theorem StAt.flash (h : StAt w0 w L S f s) {w' : World} {f' : Fl} (hf : FlAt w0 w' L f') (ho : Only L w w') (hp : f'.picks = f.picks) (hfz : ∀ j, w'.frozen? ⟨S.D, j, none⟩ = false)
    (hs : w'.ownsRow w0.heap.size 3 1 (.slice (some ⟨S.G, 0, none⟩) s.staged.length S.cg) s.staged.length (icells s.staged)) : StAt w0 w' L S f' s := by
  have hX : OnlyX (Own L S) w w' := .of_only ho (Own.fl L S)
  exact ⟨hf, h.dd, Nat.lt_of_lt_of_le h.dl ho.size, h.d1, h.d2, h.d3, h.dg, h.g1, h.g2, h.g3, fun j u hu => (cell_of_block (ho.block S.D h.dl h.d1 h.d2 h.d3)).trans (h.row j u hu), hfz, hs, h.sl.onlyX hX, by rw [hp]; exact h.pk.onlyX hX⟩

theorem frozen_of_block {w w' : World} {b j : Nat} (h : w'.heap[b]? = w.heap[b]?) : w'.frozen? ⟨b, j, none⟩ = w.frozen? ⟨b, j, none⟩ := by
  simp only [World.frozen?, h]
theorem own_of_block {w w' : World} {base e size n g c : Nat} {xs : List Value} (h : w.ownsRow base e size (.slice (some ⟨g, 0, none⟩) n c) n xs) (hb : w'.heap[g]? = w.heap[g]?) : w'.ownsRow base e size (.slice (some ⟨g, 0, none⟩) n c) n xs := by
  refine ⟨h.1, ?_⟩
  rcases h.2 with ⟨hv, _⟩ | ⟨g', cap, cur, hv, h1, h2, h3⟩
  · cases hv
  · injection hv with hv e2 e3
    injection hv with hv
    injection hv with hv
    subst hv
    exact .inr ⟨_, cap, cur, by rw [e3], h1, by rw [hb]; exact h2, h3⟩
/-- The flash has turned (for its own calls). -/
theorem StAt.flash' (h : StAt w0 w L S f s) {w' : World} {f' : Fl} (hf : FlAt w0 w' L f') (ho : Only L w w') (hp : f'.picks = f.picks) : StAt w0 w' L S f' s := by
  refine h.flash hf ho hp (fun j => ?_) ?_
  · rw [frozen_of_block (ho.block S.D h.dl h.d1 h.d2 h.d3)]
    exact h.fz j
  · exact own_of_block h.sg (ho.block S.G h.gl.2 h.g1 h.g2 h.g3)
/-- The flash has turned, and its picks lie elsewhere. -/
theorem StAt.flash2 (h : StAt w0 w L S f s) {w' : World} {f' : Fl} {Ap : Option Addr} {cp : Nat} (hf : FlAt w0 w' { L with Ap := Ap, cp := cp } f') (ho : Only L w w') (hp : RdX (Own L S) w' Ap (kcells .u8 f'.picks)) : StAt w0 w' { L with Ap := Ap, cp := cp } S f' s := by
  have hX : OnlyX (Own L S) w w' := .of_only ho (Own.fl L S)
  refine ⟨hf, h.dd, Nat.lt_of_lt_of_le h.dl ho.size, h.d1, h.d2, h.d3, h.dg, h.g1, h.g2, h.g3, fun j u hu => (cell_of_block (ho.block S.D h.dl h.d1 h.d2 h.d3)).trans (h.row j u hu), fun j => ?_, ?_, h.sl.onlyX hX, hp⟩
  · rw [frozen_of_block (ho.block S.D h.dl h.d1 h.d2 h.d3)]
    exact h.fz j
  · exact own_of_block h.sg (ho.block S.G h.gl.2 h.g1 h.g2 h.g3)

/-- A cell of the store is stored. -/
theorem StAt.cell (h : StAt w0 w L S f s) (j : Nat) (u : Value) (S' : Sc) (s' : St) (e1 : S'.D = S.D) (e2 : S'.G = S.G) (e3 : S'.cg = S.cg) (e4 : s'.staged = s.staged)
    (hc : S'.cells L.d s' = (S.cells L.d s).set j u) (hl : SlR (Own L S) w S' s') :
    StAt w0 (w.setCell ⟨S.D, j, none⟩ u) L S' f s' ∧ OnlyX (Own L S) w (w.setCell ⟨S.D, j, none⟩ u) := by
  have ho : OnlyX (Own L S) w (w.setCell ⟨S.D, j, none⟩ u) := .set w ⟨S.D, j, none⟩ u (Own.d L S)
  have ho1 : OnlyX (fun b => b = S.D) w (w.setCell ⟨S.D, j, none⟩ u) := .set w ⟨S.D, j, none⟩ u rfl
  have hb : Below w0.heap.size w0 (w.setCell ⟨S.D, j, none⟩ u) := h.fl.below.setCell (p := ⟨S.D, j, none⟩) h.dd _
  have hX : ∀ b, Own L S' b ↔ Own L S b := fun b => by unfold Own; rw [e1, e2]
  have hX' : Own L S' = Own L S := funext fun b => propext (hX b)
  have hfl : FlAt w0 (w.setCell ⟨S.D, j, none⟩ u) L f := by
    refine h.fl.aside hb ho1 (fun e => h.d1 e.symm) (fun e => h.d2 e.symm) (fun e => h.d3 e.symm) (fun i => by rw [World.frozen?_setCell]) ?_ ?_ ((h.pk.onlyX ho).apart (Own.fl L S))
    · exact own_of_block h.fl.oi (ho1.block L.gi h.fl.bi.2 (fun e => h.d2 e.symm))
    · exact own_of_block h.fl.ow (ho1.block L.gw h.fl.bw.2 (fun e => h.d3 e.symm))
  refine ⟨⟨hfl, by rw [e1]; exact h.dd, by rw [e1]; simpa [World.setCell] using h.dl, by rw [e1]; exact h.d1, by rw [e1]; exact h.d2, by rw [e1]; exact h.d3, by rw [e1, e2]; exact h.dg, by rw [e2]; exact h.g1, by rw [e2]; exact h.g2, by rw [e2]; exact h.g3, ?_, ?_, ?_, by rw [hX']; exact hl.onlyX ho, by rw [hX']; exact h.pk.onlyX ho⟩, ho⟩
  · intro i v hv
    rw [e1]
    rw [hc, List.getElem?_set] at hv
    by_cases hij : j = i
    · subst hij
      rw [if_pos rfl] at hv
      split at hv
      · rename_i hlt
        injection hv with hv
        subst hv
        exact World.cell?_setCell_same _ _ _ (h.row j _ (List.getElem?_eq_getElem hlt))
      · cases hv
    · rw [if_neg hij] at hv
      rw [World.cell?_setCell_other _ _ _ _ (by
        intro e
        injection e with _ e
        exact hij e)]
      exact h.row i v hv
  · intro i
    rw [e1, World.frozen?_setCell]
    exact h.fz i
  · rw [e2, e3, e4]
    exact own_of_block h.sg (ho1.block S.G h.gl.2 (fun e => h.dg e.symm))

/-- A value is staged. -/
theorem StAt.stage (h : StAt w0 w L S f s) (k : Nat) (x : Int) :
    StAt w0 (w.setCell ⟨S.G, k, none⟩ (.int .i64 x)) L S f { s with staged := s.staged.set k x } ∧ OnlyX (Own L S) w (w.setCell ⟨S.G, k, none⟩ (.int .i64 x)) := by
  have ho : OnlyX (Own L S) w (w.setCell ⟨S.G, k, none⟩ (.int .i64 x)) := .set w ⟨S.G, k, none⟩ _ (Own.g L S)
  have ho1 : OnlyX (fun b => b = S.G) w (w.setCell ⟨S.G, k, none⟩ (.int .i64 x)) := .set w ⟨S.G, k, none⟩ _ rfl
  have hb : Below w0.heap.size w0 (w.setCell ⟨S.G, k, none⟩ (.int .i64 x)) := h.fl.below.setCell (p := ⟨S.G, k, none⟩) h.gl.1 _
  have hfl : FlAt w0 (w.setCell ⟨S.G, k, none⟩ (.int .i64 x)) L f := by
    refine h.fl.aside hb ho1 (fun e => h.g1 e.symm) (fun e => h.g2 e.symm) (fun e => h.g3 e.symm) (fun i => by rw [World.frozen?_setCell]) ?_ ?_ ((h.pk.onlyX ho).apart (Own.fl L S))
    · exact own_of_block h.fl.oi (ho1.block L.gi h.fl.bi.2 (fun e => h.g2 e.symm))
    · exact own_of_block h.fl.ow (ho1.block L.gw h.fl.bw.2 (fun e => h.g3 e.symm))
  refine ⟨⟨hfl, h.dd, by simpa [World.setCell] using h.dl, h.d1, h.d2, h.d3, h.dg, h.g1, h.g2, h.g3, ?_, ?_, ?_, ⟨h.sl.sp.onlyX ho, h.sl.sp1, h.sl.sp2, h.sl.sv.onlyX ho, h.sl.sv1, h.sl.sv2, h.sl.pp.onlyX ho, h.sl.pp1, h.sl.pp2, h.sl.vv.onlyX ho, h.sl.vv1, h.sl.vv2⟩, h.pk.onlyX ho⟩, ho⟩
  · intro i v hv
    rw [cell_of_block (ho1.block S.D h.dl h.dg)]
    refine h.row i v ?_
    rw [← hv]
    unfold Sc.cells
    simp only [List.length_set]
  · intro i
    rw [World.frozen?_setCell]
    exact h.fz i
  · have e : icells (s.staged.set k x) = (icells s.staged).set k (.int .i64 x) := by simp [icells]
    simp only [List.length_set, e]
    exact (h.sg.stored k (.int .i64 x)).1
end
end Go.Proofs.Ytfeceamhlphelaa
