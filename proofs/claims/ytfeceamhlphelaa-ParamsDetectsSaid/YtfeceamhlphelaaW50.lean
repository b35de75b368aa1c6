/-
  Params: a store that is being made.
-/
import Derived.Test.YtfeceamhlphelaaW49
import Derived.Test.YtfeceamhlphelaaW46
namespace Go.Proofs.Ytfeceamhlphelaa
open Go.RowKit
set_option linter.unusedVariables false
set_option pp.deepTerms true

theorem own_rdx {X : Nat → Prop} {w : World} {base e size n c : Nat} {A : Option Addr} {xs : List Value} (h : w.ownsRow base e size (.slice A n c) n xs) (hX : ∀ b, (Value.slice A n c).ownBlock = some b → ¬ X b) : RdX X w A xs := by
  intro hne
  rcases h.2 with ⟨hv, hn⟩ | ⟨g, cap, cur, hv, hb, hg, hnc, hcm, hcs, htake⟩
  · have := h.1
    rw [hn] at this
    simp at this
    exact absurd this hne
  · injection hv with e1 e2 e3
    subst e1
    refine ⟨g, 0, rfl, (Array.getElem?_eq_some_iff.1 hg).1, hX g rfl, fun j u hu => ?_⟩
    rw [Nat.zero_add, cell_of_row w g j cur e (0, 0) hg]
    rw [← htake, List.getElem?_take] at hu
    split at hu
    · simpa using hu
    · cases hu

def opCells (S : Sc) (d : Nat) (s : St) : List Value := (S.cells d s).set 5 (.slice none 0 0)
/-- A store that is being made. -/
structure OpAt (w wr : World) (L : Lc) (S : Sc) (s : St) : Prop where
  below : Below w.heap.size w wr
  own : wr.ownsRow w.heap.size 146 17 (.slice (some ⟨S.D, 0, none⟩) 1 1) 1 (opCells S L.d s)
  sp : wr.ownsRow w.heap.size 99 3 (.slice S.As s.spec.length S.cs) s.spec.length (pcells s.spec)
  sv : wr.ownsRow w.heap.size 3 1 (.slice S.Av s.saved.length S.cv) s.saved.length (icells s.saved)
  p0 : s.pages = [] ∧ S.Ap = none ∧ S.cp = 0
  v0 : s.values = [] ∧ S.Au = none ∧ S.cu = 0
  t0 : s.staged = []

section
variable {w0 w wr : World} {L : Lc} {S : Sc} {f : Fl} {s : St}

theorem OpAt.later (h : OpAt w wr L S s) {w' : World} (hb : Below wr.heap.size wr w') : OpAt w w' L S s :=
  ⟨h.below.trans (hb.mono h.below.size), own_below h.own hb, own_below h.sp hb, own_below h.sv hb, h.p0, h.v0, h.t0⟩
theorem OpAt.row (h : OpAt w wr L S s) (j : Nat) (u : Value) (hj : (opCells S L.d s)[j]? = some u) : wr.cell? ⟨S.D, j, none⟩ = some u := by
  have hlt : j < 17 := by
    have := (List.getElem?_eq_some_iff.1 hj).1
    simpa [opCells, Sc.cells] using this
  rw [h.own.cellAt j (by omega)]
  exact hj
theorem OpAt.fz (h : OpAt w wr L S s) (j : Nat) : wr.frozen? ⟨S.D, j, none⟩ = false := h.own.frozenAt _
theorem OpAt.lt (h : OpAt w wr L S s) : w.heap.size ≤ S.D ∧ S.D < wr.heap.size := h.own.lt _ rfl
theorem OpAt.cell (h : OpAt w wr L S s) (j : Nat) (u : Value) (S' : Sc) (s' : St) (e0 : S'.D = S.D) (hc : opCells S' L.d s' = (opCells S L.d s).set j u)
    (hsp : S'.As = S.As ∧ S'.cs = S.cs ∧ s'.spec = s.spec) (hsv : wr.ownsRow w.heap.size 3 1 (.slice S'.Av s'.saved.length S'.cv) s'.saved.length (icells s'.saved)) (p0 : s'.pages = [] ∧ S'.Ap = none ∧ S'.cp = 0) (v0 : s'.values = [] ∧ S'.Au = none ∧ S'.cu = 0) (t0 : s'.staged = []) :
    OpAt w (wr.setCell ⟨S.D, j, none⟩ u) L S' s' := by
  have h1 := (h.own.stored j u)
  obtain ⟨a1, a2, a3⟩ := hsp
  refine ⟨h.below.setCell (p := ⟨S.D, j, none⟩) h.lt.1 _, ?_, ?_, ?_, p0, v0, t0⟩
  · rw [hc, e0]
    exact h1.1
  · rw [a1, a2, a3]
    exact kept_of h.sp h1.2 (fun g hg e => own_ne_own h.own h.sp (by decide) g e hg)
  · exact kept_of hsv h1.2 (fun g hg e => own_ne_own h.own hsv (by decide) g e hg)

/-- The store is made. -/
theorem OpAt.done (h : OpAt w wr L S s) (hf : FlAt w0 w L f) {w' : World} {g c n : Nat} (hn : s.saved.length = n) (ho : w'.ownsRow wr.heap.size 3 1 (.slice (some ⟨g, 0, none⟩) n c) n (icells s.saved)) (hb : Below wr.heap.size wr w') :
    StAt w0 (w'.setCell ⟨S.D, 5, none⟩ (.slice (some ⟨g, 0, none⟩) n c)) L { S with G := g, cg := c } f { s with staged := s.saved } ∧ Below w.heap.size w (w'.setCell ⟨S.D, 5, none⟩ (.slice (some ⟨g, 0, none⟩) n c)) := by
  subst hn
  obtain ⟨W, hW⟩ : ∃ W, w'.setCell ⟨S.D, 5, none⟩ (.slice (some ⟨g, 0, none⟩) s.saved.length c) = W := ⟨_, rfl⟩
  have h' := h.later hb
  have hD := h.lt
  have hg : wr.heap.size ≤ g ∧ g < w'.heap.size := ho.lt _ rfl
  have hgD : g ≠ S.D := by have := hg.1; omega
  have hbW : Below w.heap.size w W := by rw [← hW]; exact h'.below.setCell (p := ⟨S.D, 5, none⟩) hD.1 _
  have hst := h'.own.stored 5 (.slice (some ⟨g, 0, none⟩) s.saved.length c)
  rw [hW] at hst ⊢
  have ho2 : W.ownsRow wr.heap.size 3 1 (.slice (some ⟨g, 0, none⟩) s.saved.length c) s.saved.length (icells s.saved) := kept_of ho hst.2 (fun g' hg' e => own_ne_own h'.own ho (by decide) g' e hg')
  have hsp2 : W.ownsRow w.heap.size 99 3 (.slice S.As s.spec.length S.cs) s.spec.length (pcells s.spec) := kept_of h'.sp hst.2 (fun g hg e => own_ne_own h'.own h'.sp (by decide) g e hg)
  have hsv2 : W.ownsRow w.heap.size 3 1 (.slice S.Av s.saved.length S.cv) s.saved.length (icells s.saved) := kept_of h'.sv hst.2 (fun g hg e => own_ne_own h'.own h'.sv (by decide) g e hg)
  have hfl := hf.later hbW
  have hl1 := hf.ld
  have hl2 := hf.bi.2
  have hl3 := hf.bw.2
  have hXn : ∀ b, w.heap.size ≤ b → b ≠ S.D → b < wr.heap.size → ¬ Own L { S with G := g, cg := c } b := by
    intro b h1 h2 h3 hx
    have h4 := hg.1
    rcases hx with e | e | e | e | e
    · omega
    · omega
    · omega
    · exact h2 e
    · have e' : b = g := e
      omega
  have hrow : ∀ j u, (({ S with G := g, cg := c } : Sc).cells L.d { s with staged := s.saved })[j]? = some u → W.cell? ⟨S.D, j, none⟩ = some u := by
    intro j u hj
    have hlt : j < 17 := by
      have := (List.getElem?_eq_some_iff.1 hj).1
      simpa [Sc.cells] using this
    rw [hst.1.cellAt j (by omega), ← hj]
    unfold opCells
    rw [List.set_set]
    rfl
  obtain ⟨_, _, hcv, q1, q2, _⟩ := own_read ho2
  injection hcv with _ _ hcc
  subst hcc
  obtain ⟨_, _, hcv, r1, r2, _⟩ := own_read hsp2
  injection hcv with _ _ hcc
  subst hcc
  obtain ⟨_, _, hcv, s1, s2, _⟩ := own_read hsv2
  injection hcv with _ _ hcc
  subst hcc
  have hspb : ∀ b, (Value.slice S.As s.spec.length S.cs).ownBlock = some b → w.heap.size ≤ b ∧ b < wr.heap.size ∧ b ≠ S.D := fun b hb' =>
    ⟨(h.sp.lt b hb').1, (h.sp.lt b hb').2, fun e => own_ne_own h.own h.sp (by decide) b (by rw [e]; rfl) hb'⟩
  have hsvb : ∀ b, (Value.slice S.Av s.saved.length S.cv).ownBlock = some b → w.heap.size ≤ b ∧ b < wr.heap.size ∧ b ≠ S.D := fun b hb' =>
    ⟨(h.sv.lt b hb').1, (h.sv.lt b hb').2, fun e => own_ne_own h.own h.sv (by decide) b (by rw [e]; rfl) hb'⟩
  refine ⟨⟨hfl, Nat.le_trans hf.below.size hD.1, by have := hst.1.lt _ rfl; exact this.2, by simp only; omega, by simp only; omega, by simp only; omega, fun e => hgD e.symm, by simp only; have := hg.1; omega, by simp only; have := hg.1; omega, by simp only; have := hg.1; omega, hrow, fun j => hst.1.frozenAt j, own_low ho2 (Nat.le_trans hf.below.size h.below.size), ?_, ?_⟩, hbW⟩
  · refine ⟨own_rdx hsp2 (fun b hb' => hXn b (hspb b hb').1 (hspb b hb').2.2 (hspb b hb').2.1), r1, r2, own_rdx hsv2 (fun b hb' => hXn b (hsvb b hb').1 (hsvb b hb').2.2 (hsvb b hb').2.1), s1, s2, ?_, ?_, ?_, ?_, ?_, ?_⟩
    · simp only [h.p0.1]; exact RdP.nil
    · simp only [h.p0.1]; exact Nat.zero_le _
    · simp only [h.p0.2.2]; exact Nat.zero_le _
    · simp only [h.v0.1]; exact RdX.nil
    · simp only [h.v0.1]; exact Nat.zero_le _
    · simp only [h.v0.2.2]; exact Nat.zero_le _
  · intro hx
    obtain ⟨b, off, e, hlt, n1, n2, n3, hc⟩ := hf.pk hx
    refine ⟨b, off, e, Nat.lt_of_lt_of_le hlt hbW.size, ?_, fun j u hu => (hbW.cell (p := ⟨b, off + j, none⟩) hlt).trans (hc j u hu)⟩
    have h4 := hg.1
    rintro (e | e | e | e | e)
    · exact n1 e
    · exact n2 e
    · exact n3 e
    · have e' : b = S.D := e
      omega
    · have e' : b = g := e
      have := h.below.size
      omega
end
end Go.Proofs.Ytfeceamhlphelaa
