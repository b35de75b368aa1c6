
/-
  Two memories alike: a store does the same on both. A bound on the number of the record. No program in sight.
-/
import Derived.Test.YtjdknddnanopaaaPlainK
namespace Go.Proofs.Ytjdknddnanopaaa
open Go.RowKit
set_option linter.unusedVariables false

section
variable {f g : Fl} (h : Sim f g)
include h
theorem Sim.slots (s : St) : slotsS s g = slotsS s f := by unfold slotsS; rw [h.pg]
theorem Sim.pageS (s : St) (b j : Nat) : Ytjdknddnanopaaa.pageS s g b j = Ytjdknddnanopaaa.pageS s f b j := by unfold Ytjdknddnanopaaa.pageS; rw [h.pg]
theorem Sim.pages (a n : Nat) : pagesF g a n = pagesF f a n := by
  unfold pagesF
  congr 1
  funext i
  exact h.page _
theorem Sim.blank (a n : Nat) : blankN g a n = blankN f a n := by
  unfold blankN
  congr 1
  funext i
  rw [h.page]
theorem Sim.free (s : St) : freeS s g = freeS s f := by
  unfold freeS
  rw [h.slots]
  congr 1
  funext j
  rw [h.pageS, h.blank]
theorem Sim.place (s : St) : placeS s g = placeS s f := by
  unfold placeS
  rw [h.free, h.pageS, h.blank, h.pg]
theorem Sim.brk (s : St) : brkS s g = brkS s f := by unfold brkS; rw [h.down]
theorem Sim.beginE (s : St) : Ytjdknddnanopaaa.beginE s g = Ytjdknddnanopaaa.beginE s f := by unfold Ytjdknddnanopaaa.beginE; rw [h.down]
theorem Sim.beginS (s : St) : Ytjdknddnanopaaa.beginS s g = Ytjdknddnanopaaa.beginS s f := by
  unfold Ytjdknddnanopaaa.beginS
  rw [h.beginE, h.brk, h.place]
theorem Sim.op (s : St) : (opS s g).2 = (opS s f).2 ∧ Sim (opS s f).1 (opS s g).1 := by
  unfold opS
  split
  · exact h.erase _
  · rw [h.pageS]
    exact h.prog _ _
theorem Sim.step (s : St) : (stepS s g).1 = (stepS s f).1 ∧ (stepS s g).2.2 = (stepS s f).2.2 ∧ Sim (stepS s f).2.1 (stepS s g).2.1 := by
  obtain ⟨h1, h2⟩ := h.op s
  unfold stepS
  rw [h1]
  split
  · exact ⟨rfl, rfl, h⟩
  split
  · exact ⟨rfl, rfl, h⟩
  split
  · exact ⟨rfl, rfl, h2⟩
  split
  · exact ⟨rfl, rfl, h2⟩
  · exact ⟨rfl, rfl, h2⟩
end
theorem Sim.run {f g : Fl} (h : Sim f g) (n : Nat) (s : St) : (runS n s g).1 = (runS n s f).1 ∧ (runS n s g).2.2 = (runS n s f).2.2 ∧ Sim (runS n s f).2.1 (runS n s g).2.1 := by
  induction n generalizing s f g with
  | zero => exact ⟨rfl, rfl, h⟩
  | succ n ih =>
    obtain ⟨h1, h2, h3⟩ := h.step s
    rw [runS_succ, runS_succ, h1, h2]
    split
    · exact ⟨rfl, rfl, h3⟩
    · exact ih h3 _
theorem Sim.commit {f g : Fl} (h : Sim f g) (s : St) : (commitS s g).1 = (commitS s f).1 ∧ (commitS s g).2.2 = (commitS s f).2.2 ∧ Sim (commitS s f).2.1 (commitS s g).2.1 := by
  unfold commitS
  rw [h.beginE, h.beginS]
  split
  · exact ⟨rfl, rfl, h⟩
  · exact h.run 10 _
theorem Sim.openE {f g : Fl} (h : Sim f g) (a b : Int) (sp : List Par) : Ytjdknddnanopaaa.openE g a b sp = Ytjdknddnanopaaa.openE f a b sp := by
  unfold Ytjdknddnanopaaa.openE
  rw [h.down, h.wear, h.pg]
theorem Sim.openStep {f g : Fl} (h : Sim f g) (s : St) (b j : Nat) : Ytjdknddnanopaaa.openStep g s b j = Ytjdknddnanopaaa.openStep f s b j := by
  unfold Ytjdknddnanopaaa.openStep
  rw [h.pageS, h.pages]
theorem Sim.openRow {f g : Fl} (h : Sim f g) (b : Nat) (s : St) (n : Nat) : Ytjdknddnanopaaa.openRow g b s n = Ytjdknddnanopaaa.openRow f b s n := by
  induction n with
  | zero => rfl
  | succ n ih => rw [openRow_succ, openRow_succ, ih, h.openStep]
theorem Sim.openAll {f g : Fl} (h : Sim f g) (n : Nat) (s : St) (m : Nat) : Ytjdknddnanopaaa.openAll g n s m = Ytjdknddnanopaaa.openAll f n s m := by
  induction m with
  | zero => rfl
  | succ m ih => rw [openAll_succ, openAll_succ, ih, h.openRow]
theorem Sim.openF {f g : Fl} (h : Sim f g) (a b : Nat) (sp : List Par) : Ytjdknddnanopaaa.openF g a b sp = Ytjdknddnanopaaa.openF f a b sp := by
  unfold Ytjdknddnanopaaa.openF
  rw [h.pg, h.openAll]

/-- The number of the record grows by one at most. -/
theorem setF_seq (s : St) (i v : Int) : (setF s i v).seq = s.seq := by unfold setF; split <;> rfl
theorem beginS_seq (s : St) (f : Fl) : (beginS s f).seq = s.seq := by
  unfold beginS
  obtain ⟨_, _, _, _, _, p, _⟩ := placeS_same (brkS s f) f
  split
  · exact p
  · rfl
theorem tickS_seq (s : St) : (tickS s).seq = s.seq := by unfold tickS; split <;> rfl
theorem stepS_seq (s : St) (f : Fl) : (stepS s f).1.seq = s.seq + if (stepS s f).2.2.1 = true then 1 else 0 := by
  unfold stepS
  have h := tickS_seq s
  split
  · simp
  split
  · simp
  split
  · simp only [Bool.false_eq_true, if_false, Int.add_zero]; exact h
  split
  · simp only [Bool.false_eq_true, if_false, Int.add_zero]; exact h
  · simp only [endS, if_true, h]
theorem runS_seq (n : Nat) (s : St) (f : Fl) : (runS n s f).1.seq ≤ s.seq + 1 := by
  induction n generalizing s f with
  | zero => simp only [runS]; omega
  | succ n ih =>
    have h := stepS_seq s f
    rw [runS_succ]
    split
    · simp only
      rw [h]
      split <;> omega
    · rename_i hc
      have hd : ¬ (stepS s f).2.2.1 = true := fun e => hc (.inl e)
      rw [if_neg hd] at h
      have := ih (stepS s f).1 (stepS s f).2.1
      omega
theorem commitS_seq (s : St) (f : Fl) : (commitS s f).1.seq ≤ s.seq + 1 := by
  unfold commitS
  split
  · rw [beginS_seq]; omega
  · have := runS_seq 10 (beginS s f) f
    rw [beginS_seq] at this
    exact this

/-- A store that lives or is without power, and how many records it has at most. -/
def SurQ (f : Fl) (s : St) (n : Int) : Prop := (∃ v o, Surv f s v o) ∧ s.seq ≤ n
theorem SurQ.ok {f : Fl} {s : St} {n : Int} (h : SurQ f s n) : StOk f s := by
  obtain ⟨⟨v, o, h⟩, _⟩ := h
  exact h.ok
theorem SurQ.fok {f : Fl} {s : St} {n : Int} (h : SurQ f s n) : f.ok := by
  obtain ⟨⟨v, o, h⟩, _⟩ := h
  exact h.fok
theorem SurQ.more {f : Fl} {s : St} {n m : Int} (h : SurQ f s n) (hm : n ≤ m) : SurQ f s m := ⟨h.1, Int.le_trans h.2 hm⟩
theorem SurQ.set {f : Fl} {s : St} {n : Int} (h : SurQ f s n) {i x : Int} (hx : I64 x) : SurQ f (setF s i x) n := by
  obtain ⟨⟨v, o, h⟩, h2⟩ := h
  exact ⟨⟨v, o, h.set hx⟩, by rw [setF_seq]; exact h2⟩
theorem SurQ.begin {f : Fl} {s : St} {n : Int} (h : SurQ f s n) : SurQ f (beginS s f) n := by
  obtain ⟨⟨v, o, h⟩, h2⟩ := h
  exact ⟨⟨_, _, h.begin⟩, by rw [beginS_seq]; exact h2⟩
theorem SurQ.step {f : Fl} {s : St} {n : Int} (h : SurQ f s n) : SurQ (stepS s f).2.1 (stepS s f).1 (n + 1) := by
  obtain ⟨⟨v, o, h⟩, h2⟩ := h
  refine ⟨?_, by rw [stepS_seq]; split <;> omega⟩
  have h3 := h.step
  split at h3
  · obtain ⟨u, _, h3⟩ := h3
    exact ⟨_, _, h3⟩
  · exact ⟨_, _, h3⟩
theorem SurQ.commit {f : Fl} {s : St} {n : Int} (h : SurQ f s n) : SurQ (commitS s f).2.1 (commitS s f).1 (n + 1) := by
  obtain ⟨⟨v, o, h⟩, h2⟩ := h
  refine ⟨?_, by have := commitS_seq s f; omega⟩
  rcases h.commit with ⟨_, h3⟩ | ⟨_, h3⟩ | ⟨_, _, h3⟩
  · exact ⟨_, _, h3⟩
  · exact ⟨_, _, h3⟩
  · exact ⟨_, _, h3⟩
theorem SurQ.fuse {f : Fl} {s : St} {n : Int} (h : SurQ f s n) {k : Int} {p : List Int} (hp : Bytes p) (hk : k < 9223372036854775808) : SurQ (fuseF f k p) s n := by
  obtain ⟨⟨v, o, h⟩, h2⟩ := h
  exact ⟨⟨_, _, h.fuse hp hk⟩, h2⟩
theorem SurQ.again {f : Fl} {s : St} {n : Int} (h : SurQ f s n) (hbad : s.spec.any badP = false) :
    openE (startF f) s.first s.blocks s.spec = 0 ∧ SurQ (startF f) (openF (startF f) s.first s.blocks s.spec) (n + 1) ∧ Same s (openF (startF f) s.first s.blocks s.spec) := by
  obtain ⟨⟨v, o, h⟩, h2⟩ := h
  obtain ⟨a1, a2, a3, a4⟩ := h.again hbad
  refine ⟨a1, ⟨⟨_, _, a2⟩, ?_⟩, a4⟩
  obtain ⟨i1, i2, i3, i4⟩ := startF_same f
  have key : ∀ cur, Newest f s cur → StOk f s → (∀ x, s.first * f.pg ≤ x → x < (s.first + s.blocks) * f.pg → Trn (pageF f x)) → (∀ q b j v, cur = some (q, b, j, v) → Lg s.spec v) →
      (∀ q b j u, cur = some (q, b, j, u) → q ≤ s.seq + 1) → (openF (startF f) s.first s.blocks s.spec).seq ≤ s.seq + 1 := by
    intro cur hn ho ht hl hv
    obtain ⟨e1, e2⟩ := open_live hn ho i1 i2 (by rw [i3]) (startF_ok h.fok) i4 ht hbad hl
    have hr := e2.rc
    have hq := ho.q1
    unfold curS at hr
    split at hr
    · rename_i hsl
      have := (e2.live.q0 hsl).1
      omega
    · exact hv _ _ _ _ hr.symm
  have hcs : ∀ q b j u, curS s = some (q, b, j, u) → q = s.seq ∧ u = s.saved := by
    intro q b j u e
    unfold curS at e
    split at e
    · cases e
    · injection e with e
      simp only [Prod.mk.injEq] at e
      exact ⟨e.1.symm, e.2.2.2.symm⟩
  have goal : (openF (startF f) s.first s.blocks s.spec).seq ≤ s.seq + 1 := by
    rcases h.2 with ⟨a, _⟩ | ⟨a, _⟩
    · exact key _ a.new a.ok a.trn (fun q b j u e => by rw [(hcs q b j u e).2]; exact a.lgs) (fun q b j u e => by rw [(hcs q b j u e).1]; omega)
    · rcases a.new with hn | hn
      · exact key _ hn a.ok a.trn (fun q b j u e => by rw [(hcs q b j u e).2]; exact a.lgs) (fun q b j u e => by rw [(hcs q b j u e).1]; omega)
      · refine key _ hn.1 a.ok a.trn (fun q b j u e => ?_) (fun q b j u e => ?_)
        · injection e with e
          simp only [Prod.mk.injEq] at e
          rw [← e.2.2.2]
          exact a.lgv
        · injection e with e
          simp only [Prod.mk.injEq] at e
          omega
  omega
theorem SurQ.first {f : Fl} {fi bl : Nat} {sp : List Par} (hf : f.ok) (hbl : ∀ x, x < f.wear.length * f.pg → pageF f x = blankP) (hs : ∀ p ∈ sp, p.ok) (he : openE f fi bl sp = 0) :
    SurQ f (openF f fi bl sp) 0 ∧ (openF f fi bl sp).busy = false ∧ (openF f fi bl sp).spec = sp ∧ (openF f fi bl sp).first = fi ∧ (openF f fi bl sp).blocks = bl := by
  obtain ⟨h1, h2, _, _, h3, h4, _, h5, h6, h7⟩ := Surv.first hf hbl hs he
  exact ⟨⟨⟨_, _, h1⟩, by rw [(h2.q0 h4).1]; exact Int.le_refl _⟩, h3, h5, h6, h7⟩
/-- A store is broken exactly if the power is off. -/
theorem SurQ.br {f : Fl} {s : St} {n : Int} (h : SurQ f s n) : s.broken = f.down := by
  obtain ⟨⟨v, o, _, h⟩, _⟩ := h
  rcases h with ⟨a, _⟩ | ⟨a, _⟩
  · rw [a.br, a.up]
  · rw [a.br, a.dn]
theorem SurQ.enc {f : Fl} {s : St} {n : Int} (h : SurQ f s n) (hn : n < 1000000) : encE (s.seq + 1) s.staged.length = 0 := by
  have ho := h.ok
  have := ho.q1
  have := ho.n1
  have := ho.n2
  have := ho.tl
  have := h.2
  unfold encE
  rw [if_neg (by omega)]
theorem SurQ.target {f : Fl} {s : St} {n : Int} (h : SurQ f s n) (hb : s.broken = false) (hu : s.busy = true) : s.pages = encP (s.seq + 1) s.values := by
  obtain ⟨⟨v, o, _, h⟩, _⟩ := h
  rcases h with ⟨a, _⟩ | ⟨a, _⟩
  · exact (a.tgt hu).pgs
  · rw [a.br] at hb; cases hb
end Go.Proofs.Ytjdknddnanopaaa
