
/-
  Whatever fails, what is saved is there, or what was being written. No program in sight.
-/
import Derived.Test.YtjdknddnanopaaaPlainZ
namespace Go.Proofs.Ytjdknddnanopaaa
open Go.RowKit
set_option linter.unusedVariables false

/-- What does not turn while a store is there. -/
structure Same (s t : St) : Prop where
  spec : t.spec = s.spec
  first : t.first = s.first
  blocks : t.blocks = s.blocks
theorem Same.refl (s : St) : Same s s := ⟨rfl, rfl, rfl⟩
theorem Same.trans {a b c : St} (h : Same a b) (k : Same b c) : Same a c := ⟨k.spec.trans h.spec, k.first.trans h.first, k.blocks.trans h.blocks⟩
theorem setF_same (s : St) (i v : Int) : Same s (setF s i v) := by unfold setF; split <;> exact ⟨rfl, rfl, rfl⟩
theorem beginS_same (s : St) (f : Fl) : Same s (beginS s f) := by
  unfold beginS
  obtain ⟨p1, p2, p3, _⟩ := placeS_same (brkS s f) f
  split
  · exact ⟨p3, p1, p2⟩
  · exact ⟨rfl, rfl, rfl⟩
theorem tickS_same (s : St) : Same s (tickS s) := by unfold tickS; split <;> exact ⟨rfl, rfl, rfl⟩
theorem stepS_same (s : St) (f : Fl) : Same s (stepS s f).1 := by
  unfold stepS
  have h := tickS_same s
  split
  · exact .refl s
  split
  · exact .refl s
  split
  · exact ⟨h.spec, h.first, h.blocks⟩
  split
  · exact h
  · exact ⟨h.spec, h.first, h.blocks⟩
theorem runS_same (n : Nat) (s : St) (f : Fl) : Same s (runS n s f).1 := by
  induction n generalizing s f with
  | zero => exact .refl s
  | succ n ih =>
    rw [runS_succ]
    split
    · exact stepS_same s f
    · exact (stepS_same s f).trans (ih _ _)
theorem commitS_same (s : St) (f : Fl) : Same s (commitS s f).1 := by
  unfold commitS
  split
  · exact beginS_same s f
  · exact (beginS_same s f).trans (runS_same _ _ _)

/-- What a commit's steps leave. -/
inductive RunO (s : St) (q : St × Fl × Int) : Prop
  | last : q.2.2 = 0 → Live q.2.1 q.1 → q.1.busy = false → q.1.saved = s.values → q.1.staged = s.staged → RunO s q
  | dead : q.2.2 = 20 → Dead q.2.1 q.1 → q.1.saved = s.saved → q.1.values = s.values → RunO s q
theorem Live.run {f : Fl} {s : St} (h : Live f s) (hb : s.busy = true) {n : Nat} (hn : leftS s ≤ n) : RunO s (runS n s f) := by
  induction n generalizing s f with
  | zero => have := left_pos h.ok h.br hb; omega
  | succ n ih =>
    have hs := h.step hb
    rw [runS_succ]
    cases hs with
    | more a1 a2 a3 a4 a5 a6 a7 =>
      have hl := left_step h.ok h.br hb a1 a2
      rw [if_neg (by rw [a1, a2]; simp)]
      cases ih a3 a4 (by omega) with
      | last b1 b2 b3 b4 b5 => exact .last b1 b2 b3 (b4.trans a6) (b5.trans a7)
      | dead b1 b2 b3 b4 => exact .dead b1 b2 (b3.trans a5) (b4.trans a6)
    | last a1 a2 a3 a4 a5 a6 =>
      rw [if_pos (.inl a1)]
      exact .last a2 a3 a4 a5 a6
    | dead a1 a2 a3 a4 a5 =>
      rw [if_pos (.inr (by rw [a2]; decide))]
      exact .dead a2 a3 a4 a5
theorem begin_fields {s : St} {f : Fl} (h : beginE s f = 0) : (beginS s f).busy = true ∧ (beginS s f).values = s.staged ∧ (beginS s f).saved = s.saved ∧ (beginS s f).staged = s.staged ∧ (beginS s f).done = 0 := by
  obtain ⟨p1, p2, p3, p4, p5, _⟩ := placeS_same (brkS s f) f
  unfold beginS
  rw [if_pos h]
  exact ⟨rfl, rfl, p4, p5, rfl⟩
theorem begin_left {s : St} {f : Fl} (ho : StOk f s) (h : beginE s f = 0) : leftS (beginS s f) ≤ 10 := by
  have hb := (begin_fields h).1
  have ho' := beginS_ok (f := f) ho
  have hp := ho'.pl hb
  have hk := ho'.k8
  unfold leftS
  split <;> omega
theorem Live.begin_no {f : Fl} {s : St} (h : Live f s) (he : beginE s f ≠ 0) : beginS s f = s := by
  unfold beginS
  rw [if_neg he, h.brk]

/-- What is known of a store: the values saved last, and those that are being written. -/
def Surv (f : Fl) (s : St) (saved : List Int) (writing : Option (List Int)) : Prop :=
  s.saved = saved ∧ ((Live f s ∧ writing = if s.busy = true then some s.values else none) ∨ (Dead f s ∧ writing = some s.values))

theorem Surv.ok {f : Fl} {s : St} {v : List Int} {w : Option (List Int)} (h : Surv f s v w) : StOk f s := by
  rcases h.2 with ⟨a, _⟩ | ⟨a, _⟩
  · exact a.ok
  · exact a.ok
theorem Surv.fok {f : Fl} {s : St} {v : List Int} {w : Option (List Int)} (h : Surv f s v w) : f.ok := by
  rcases h.2 with ⟨a, _⟩ | ⟨a, _⟩
  · exact a.fok
  · exact a.fok
theorem Surv.set {f : Fl} {s : St} {v : List Int} {w : Option (List Int)} (h : Surv f s v w) {i x : Int} (hx : I64 x) : Surv f (setF s i x) v w := by
  obtain ⟨h1, h2⟩ := h
  rcases h2 with ⟨a, b⟩ | ⟨a, b⟩
  · have hs : (setF s i x).saved = s.saved ∧ (setF s i x).busy = s.busy ∧ (setF s i x).values = s.values := by unfold setF; split <;> exact ⟨rfl, rfl, rfl⟩
    exact ⟨hs.1.trans h1, .inl ⟨a.set hx, by rw [hs.2.1, hs.2.2]; exact b⟩⟩
  · have hs : setF s i x = s := by
      have : setE s i x = 20 := by unfold setE; rw [if_pos a.br]
      unfold setF
      rw [this, if_neg (by decide)]
    rw [hs]
    exact ⟨h1, .inr ⟨a, b⟩⟩
theorem Dead.brk {f : Fl} {s : St} (h : Dead f s) : brkS s f = s := by
  unfold brkS
  have := h.br
  cases s
  simp_all
theorem Dead.begin {f : Fl} {s : St} (h : Dead f s) : beginE s f = 20 ∧ beginS s f = s := by
  have he : beginE s f = 20 := by unfold beginE; rw [h.br, Bool.true_or, if_pos rfl]
  refine ⟨he, ?_⟩
  unfold beginS
  rw [he, if_neg (by decide), h.brk]
theorem Surv.begin {f : Fl} {s : St} {v : List Int} {w : Option (List Int)} (h : Surv f s v w) : Surv f (beginS s f) v (if beginE s f = 0 then some s.staged else w) := by
  obtain ⟨h1, h2⟩ := h
  rcases h2 with ⟨a, b⟩ | ⟨a, b⟩
  · by_cases he : beginE s f = 0
    · obtain ⟨e1, e2, e3, e4, _⟩ := begin_fields he
      rw [if_pos he]
      exact ⟨e3.trans h1, .inl ⟨a.begin, by rw [e1, if_pos rfl, e2]⟩⟩
    · rw [if_neg he, a.begin_no he]
      exact ⟨h1, .inl ⟨a, b⟩⟩
  · obtain ⟨e1, e2⟩ := a.begin
    rw [e1, if_neg (by decide), e2]
    exact ⟨h1, .inr ⟨a, b⟩⟩
theorem Surv.step {f : Fl} {s : St} {v : List Int} {w : Option (List Int)} (h : Surv f s v w) :
    if (stepS s f).2.2.1 = true ∧ (stepS s f).2.2.2 = 0 then ∃ u, w = some u ∧ Surv (stepS s f).2.1 (stepS s f).1 u none else Surv (stepS s f).2.1 (stepS s f).1 v w := by
  obtain ⟨h1, h2⟩ := h
  rcases h2 with ⟨a, b⟩ | ⟨a, b⟩
  · by_cases hb : s.busy = true
    · rw [if_pos hb] at b
      cases a.step hb with
      | more a1 a2 a3 a4 a5 a6 a7 =>
        rw [if_neg (by rw [a1]; simp)]
        exact ⟨a5.trans h1, .inl ⟨a3, by rw [a4, if_pos rfl, a6]; exact b⟩⟩
      | last a1 a2 a3 a4 a5 a6 =>
        rw [if_pos ⟨a1, a2⟩]
        exact ⟨_, b, a5, .inl ⟨a3, by rw [a4]; simp⟩⟩
      | dead a1 a2 a3 a4 a5 =>
        rw [if_neg (by rw [a1]; simp)]
        exact ⟨a4.trans h1, .inr ⟨a3, by rw [a5]; exact b⟩⟩
    · have hq : stepS s f = (s, f, false, 12) := by unfold stepS; rw [if_neg (by rw [a.br]; decide), if_pos (by simpa using hb)]
      rw [hq, if_neg (by simp)]
      exact ⟨h1, .inl ⟨a, b⟩⟩
  · have hq : stepS s f = (s, f, false, 20) := by unfold stepS; rw [if_pos a.br]
    rw [hq, if_neg (by simp)]
    exact ⟨h1, .inr ⟨a, b⟩⟩
theorem commit_codes {f : Fl} {s : St} (h : beginE s f ≠ 0) : commitS s f = (beginS s f, f, beginE s f) := by unfold commitS; rw [if_pos h]
theorem beginE_codes (s : St) (f : Fl) : (beginE s f = 20 ∧ (s.broken || f.down) = true) ∨ beginE s f = 14 ∨ beginE s f = 12 ∨ beginE s f = 3 ∨ beginE s f = 0 := by
  unfold beginE
  split
  · rename_i h
    exact .inl ⟨rfl, h⟩
  split
  · exact .inr (.inl rfl)
  split
  · exact .inr (.inr (.inl rfl))
  unfold encE
  split
  · exact .inr (.inr (.inr (.inl rfl)))
  · exact .inr (.inr (.inr (.inr rfl)))
/-- A commit: what is known behind it. -/
theorem Surv.commit {f : Fl} {s : St} {v : List Int} {w : Option (List Int)} (h : Surv f s v w) :
    (((commitS s f).2.2 = 0 ∧ Surv (commitS s f).2.1 (commitS s f).1 s.staged none) ∨ ((commitS s f).2.2 = 20 ∧ Surv (commitS s f).2.1 (commitS s f).1 v (if w = none then some s.staged else w)) ∨
      ((commitS s f).2.2 ≠ 0 ∧ (commitS s f).2.2 ≠ 20 ∧ Surv (commitS s f).2.1 (commitS s f).1 v w)) := by
  obtain ⟨h1, h2⟩ := h
  rcases h2 with ⟨a, b⟩ | ⟨a, b⟩
  · by_cases he : beginE s f = 0
    · have hc : commitS s f = runS 10 (beginS s f) f := by unfold commitS; rw [if_neg (by rw [he]; decide)]
      obtain ⟨e1, e2, e3, e4, _⟩ := begin_fields he
      obtain ⟨_, _, hnb, _⟩ := beginE_zero he
      rw [hnb] at b
      rw [hc]
      cases a.begin.run e1 (begin_left a.ok he) with
      | last b1 b2 b3 b4 b5 => exact .inl ⟨b1, b4.trans e2, .inl ⟨b2, by rw [b3]; simp⟩⟩
      | dead b1 b2 b3 b4 =>
        refine .inr (.inl ⟨b1, b3.trans (e3.trans h1), .inr ⟨b2, ?_⟩⟩)
        rw [b, b4, e2]
        simp
    · rw [commit_codes he, a.begin_no he]
      rcases beginE_codes s f with ⟨_, e⟩ | e | e | e | e
      · rw [a.br, a.up] at e; cases e
      · exact .inr (.inr ⟨he, by rw [e]; simp, h1, .inl ⟨a, b⟩⟩)
      · exact .inr (.inr ⟨he, by rw [e]; simp, h1, .inl ⟨a, b⟩⟩)
      · exact .inr (.inr ⟨he, by rw [e]; simp, h1, .inl ⟨a, b⟩⟩)
      · exact absurd e he
  · obtain ⟨e1, e2⟩ := a.begin
    rw [commit_codes (by rw [e1]; decide), e1, e2]
    refine .inr (.inl ⟨rfl, h1, .inr ⟨a, ?_⟩⟩)
    rw [b]
    simp
theorem Live.fl {f g : Fl} {s : St} (h : Live f s) (hi : g.img = f.img) (hp : g.pg = f.pg) (hw : g.wear = f.wear) (hd : g.down = f.down) (hok : g.ok) : Live g s := by
  have hpage : ∀ x, pageF g x = pageF f x := fun x => by unfold pageF; rw [hi]
  have hps : ∀ b j, pageS s g b j = pageS s f b j := fun b j => by unfold pageS; rw [hp]
  refine ⟨hok, h.ok.shape ⟨hp, by rw [hw]⟩, hd.trans h.up, h.br, fun x h1 h2 => ?_, h.new.congr rfl rfl hp (fun b j _ _ => recS_congr rfl rfl hp (fun i _ => hpage _)), h.q0, h.lgs, h.lgt, fun hb => ⟨(h.tgt hb).pgs, (h.tgt hb).vl, (h.tgt hb).lg, (h.tgt hb).ne, (h.tgt hb).nx, (h.tgt hb).er, fun he i hi => ?_⟩⟩
  · rw [hpage]
    rw [hp] at h1 h2
    exact h.trn x h1 h2
  · rw [hps, hpage]
    exact (h.tgt hb).pre he i hi
theorem Dead.fl {f g : Fl} {s : St} (h : Dead f s) (hi : g.img = f.img) (hp : g.pg = f.pg) (hw : g.wear = f.wear) (hd : g.down = f.down) (hok : g.ok) : Dead g s := by
  have hpage : ∀ x, pageF g x = pageF f x := fun x => by unfold pageF; rw [hi]
  have hc : ∀ c, Newest f s c → Newest g s c := fun c hn => hn.congr rfl rfl hp (fun b j _ _ => recS_congr rfl rfl hp (fun i _ => hpage _))
  refine ⟨hok, h.ok.shape ⟨hp, by rw [hw]⟩, hd.trans h.dn, h.br, h.bu, fun x h1 h2 => ?_, h.new.elim (fun e => .inl (hc _ e)) (fun e => .inr ⟨hc _ e.1, e.2⟩), h.lgs, h.lgv, h.q0⟩
  rw [hpage]
  rw [hp] at h1 h2
  exact h.trn x h1 h2
theorem Surv.fuse {f : Fl} {s : St} {v : List Int} {w : Option (List Int)} (h : Surv f s v w) {n : Int} {p : List Int} (hp : Bytes p) (hn : n < 9223372036854775808) : Surv (fuseF f n p) s v w := by
  have hok := fuseF_ok (n := n) h.fok hp hn
  obtain ⟨h1, h2⟩ := h
  rcases h2 with ⟨a, b⟩ | ⟨a, b⟩
  · exact ⟨h1, .inl ⟨a.fl rfl rfl rfl rfl hok, b⟩⟩
  · exact ⟨h1, .inr ⟨a.fl rfl rfl rfl rfl hok, b⟩⟩
theorem startF_same (f : Fl) : (startF f).img = f.img ∧ (startF f).pg = f.pg ∧ (startF f).wear = f.wear ∧ (startF f).down = false := by
  unfold startF
  split
  · exact ⟨rfl, rfl, rfl, rfl⟩
  · rename_i h
    exact ⟨rfl, rfl, rfl, by simpa using h⟩
/-- The power comes back, and the store is opened. -/
theorem Surv.again {f : Fl} {s : St} {v : List Int} {w : Option (List Int)} (h : Surv f s v w) (hbad : s.spec.any badP = false) :
    openE (startF f) s.first s.blocks s.spec = 0 ∧ Surv (startF f) (openF (startF f) s.first s.blocks s.spec) (openF (startF f) s.first s.blocks s.spec).saved none ∧
    ((openF (startF f) s.first s.blocks s.spec).saved = v ∨ w = some (openF (startF f) s.first s.blocks s.spec).saved) ∧ Same s (openF (startF f) s.first s.blocks s.spec) := by
  obtain ⟨i1, i2, i3, i4⟩ := startF_same f
  have hok := startF_ok h.fok
  obtain ⟨h1, h2⟩ := h
  have key : ∀ cur, Newest f s cur → StOk f s → (∀ x, s.first * f.pg ≤ x → x < (s.first + s.blocks) * f.pg → Trn (pageF f x)) → (∀ q b j v, cur = some (q, b, j, v) → Lg s.spec v) →
      ((∀ q b j u, cur = some (q, b, j, u) → u = v ∨ w = some u) ∧ (cur = none → s.spec.map Par.df = v)) →
      openE (startF f) s.first s.blocks s.spec = 0 ∧ Surv (startF f) (openF (startF f) s.first s.blocks s.spec) (openF (startF f) s.first s.blocks s.spec).saved none ∧
      ((openF (startF f) s.first s.blocks s.spec).saved = v ∨ w = some (openF (startF f) s.first s.blocks s.spec).saved) ∧ Same s (openF (startF f) s.first s.blocks s.spec) := by
    intro cur hn ho ht hl hv
    obtain ⟨e1, e2⟩ := open_live hn ho i1 i2 (by rw [i3]) hok i4 ht hbad hl
    refine ⟨e1, ⟨rfl, .inl ⟨e2.live, by rw [e2.busy]; simp⟩⟩, ?_, ⟨e2.spec, e2.first, e2.blocks⟩⟩
    cases cur with
    | none => exact .inl ((e2.no rfl).1.trans (hv.2 rfl))
    | some c =>
      obtain ⟨q, b, j, u⟩ := c
      have hr := e2.rc
      unfold curS at hr
      split at hr
      · cases hr
      · injection hr with hr
        simp only [Prod.mk.injEq] at hr
        rw [hr.2.2.2]
        exact hv.1 q b j u rfl
  have hcs : ∀ (l : Lg s.spec s.saved), ∀ q b j u, curS s = some (q, b, j, u) → Lg s.spec u ∧ u = s.saved := by
    intro l q b j u e
    unfold curS at e
    split at e
    · cases e
    · injection e with e
      simp only [Prod.mk.injEq] at e
      rw [← e.2.2.2]
      exact ⟨l, rfl⟩
  have hcn : ∀ (hq : s.slot = -1 → s.saved = s.spec.map Par.df), curS s = none → s.spec.map Par.df = v := by
    intro hq e
    unfold curS at e
    split at e
    · rename_i e'
      rw [← hq e', h1]
    · cases e
  rcases h2 with ⟨a, b⟩ | ⟨a, b⟩
  · exact key _ a.new a.ok a.trn (fun q b j u e => (hcs a.lgs q b j u e).1) ⟨fun q b j u e => .inl ((hcs a.lgs q b j u e).2.trans h1), hcn (fun e => (a.q0 e).2.2)⟩
  · rcases a.new with hn | ⟨hn, _⟩
    · exact key _ hn a.ok a.trn (fun q b j u e => (hcs a.lgs q b j u e).1) ⟨fun q b j u e => .inl ((hcs a.lgs q b j u e).2.trans h1), hcn (fun e => (a.q0 e).2)⟩
    · have hwv := b
      refine key _ hn a.ok a.trn (fun q b j u e => ?_) ⟨fun q b j u e => ?_, fun e => by cases e⟩
      · injection e with e
        simp only [Prod.mk.injEq] at e
        rw [← e.2.2.2]
        exact a.lgv
      · injection e with e
        simp only [Prod.mk.injEq] at e
        right
        rw [← e.2.2.2]
        exact hwv
/-- A new flash. -/
theorem Surv.first {f : Fl} {fi bl : Nat} {sp : List Par} (hf : f.ok) (hbl : ∀ x, x < f.wear.length * f.pg → pageF f x = blankP) (hs : ∀ p ∈ sp, p.ok) (he : openE f fi bl sp = 0) :
    Surv f (openF f fi bl sp) (sp.map Par.df) none ∧ Live f (openF f fi bl sp) ∧ (openF f fi bl sp).saved = sp.map Par.df ∧ (openF f fi bl sp).staged = sp.map Par.df ∧ (openF f fi bl sp).busy = false ∧ (openF f fi bl sp).slot = -1 ∧ (openF f fi bl sp).block = 0 ∧ (openF f fi bl sp).spec = sp ∧ (openF f fi bl sp).first = fi ∧ (openF f fi bl sp).blocks = bl := by
  obtain ⟨hd, b2, b16, f0, f1, n1, n48, hbad, hkp⟩ := openE_zero he
  have hok := openF_ok hs he
  obtain ⟨s0, hs0⟩ : ∃ s0, initS fi bl sp = s0 := ⟨_, rfl⟩
  have hbad0 : ∀ b j, b < s0.blocks → j < slotsS s0 f → recS f s0 b j = none := by
    intro b j h1 h2
    have hk : s0.k = pgs sp.length := by rw [← hs0]; rfl
    have hk1 := pgs_pos n1
    have hT : slotsS s0 f = f.pg / pgs sp.length := by rw [← hs0]; rfl
    have hBl : s0.blocks = bl := by rw [← hs0]; rfl
    rw [hBl] at h1
    rw [hT] at h2
    have h3 : (j + 1) * pgs sp.length ≤ f.pg := by
      have := Nat.mul_le_mul_right (pgs sp.length) (show j + 1 ≤ f.pg / pgs sp.length by omega)
      exact Nat.le_trans this (Nat.div_mul_le_self _ _)
    rw [Nat.add_mul, Nat.one_mul] at h3
    have h4 : (fi + b + 1) * f.pg ≤ f.wear.length * f.pg := Nat.mul_le_mul_right _ (by omega)
    rw [Nat.add_mul (fi + b), Nat.one_mul] at h4
    have hp : pageS s0 f b j = (fi + b) * f.pg + j * pgs sp.length := by unfold pageS; rw [hk, ← hs0]; rfl
    refine recS_bad (i := 0) (by omega) ?_
    rw [hp, hbl _ (by omega)]
    exact blankP_bad
  have hn : Newest f s0 none := hbad0
  have hall := openAll_newest (f := f) (s0 := s0) (by rw [← hs0]; rfl) hn
  simp only at hall
  have ht : openF f fi bl sp = { s0 with staged := s0.saved } := by
    unfold openF
    rw [hs0, show f.pg / pgs sp.length = slotsS s0 f by rw [← hs0]; rfl, show bl = s0.blocks by rw [← hs0]; rfl, hall]
  rw [ht] at hok ⊢
  have e1 : s0.slot = -1 := by rw [← hs0]; rfl
  have e2 : s0.saved = sp.map Par.df := by rw [← hs0]; rfl
  have e3 : s0.block = 0 := by rw [← hs0]; rfl
  have e4 : s0.busy = false := by rw [← hs0]; rfl
  have e5 : s0.broken = false := by rw [← hs0]; rfl
  have e6 : s0.first = fi := by rw [← hs0]; rfl
  have e7 : s0.blocks = bl := by rw [← hs0]; rfl
  have e8 : s0.spec = sp := by rw [← hs0]; rfl
  have e9 : s0.seq = 0 := by rw [← hs0]; rfl
  have hcur : curS { s0 with staged := s0.saved } = none := by unfold curS; rw [if_pos e1]
  have hlive : Live f { s0 with staged := s0.saved } := by
    refine ⟨hf, hok, hd, e5, fun x h1 h2 => ?_, ?_, fun _ => ⟨e9, e3, by simp only [e8]; exact e2⟩, by simp only [e8, e2]; exact lg_df hbad, by simp only [e8, e2]; exact lg_df hbad, fun e => by simp only [e4] at e; cases e⟩
    · simp only [e6, e7] at h2
      have : (fi + bl) * f.pg ≤ f.wear.length * f.pg := Nat.mul_le_mul_right _ (by omega)
      rw [hbl x (by omega)]
      exact Trn.blank
    · rw [hcur]
      exact hn.congr rfl rfl rfl (fun b j _ _ => recS_congr rfl rfl rfl (fun _ _ => rfl))
  exact ⟨⟨e2, .inl ⟨hlive, by simp only [e4]; simp⟩⟩, hlive, e2, e2, e4, e1, e3, e8, e6, e7⟩
theorem newF_blank {b p x : Nat} (hx : x < b * p) : pageF (newF b p) x = blankP := by
  unfold pageF newF blankP
  rw [List.drop_replicate, List.take_replicate]
  congr 1
  omega
end Go.Proofs.Ytjdknddnanopaaa
