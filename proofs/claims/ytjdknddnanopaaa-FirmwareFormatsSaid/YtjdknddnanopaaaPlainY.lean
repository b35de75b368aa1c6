
/-
  A store lives on through its calls, or dies with the power; opened again it has what was saved last or what was being written. No program in sight.
-/
import Derived.Test.YtjdknddnanopaaaPlainX
namespace Go.Proofs.Ytjdknddnanopaaa
open Go.RowKit
set_option linter.unusedVariables false

theorem Live.brk {f : Fl} {s : St} (h : Live f s) : brkS s f = s := by
  unfold brkS
  rw [h.br, h.up]
  have := h.br
  cases s
  simp_all
theorem placeS_same (s : St) (f : Fl) : (placeS s f).first = s.first ∧ (placeS s f).blocks = s.blocks ∧ (placeS s f).spec = s.spec ∧ (placeS s f).saved = s.saved ∧ (placeS s f).staged = s.staged ∧ (placeS s f).seq = s.seq ∧ (placeS s f).block = s.block ∧ (placeS s f).slot = s.slot ∧ (placeS s f).broken = s.broken := by
  unfold placeS
  split <;> exact ⟨rfl, rfl, rfl, rfl, rfl, rfl, rfl, rfl, rfl⟩
theorem pageS_congr {f : Fl} {s s' : St} (h1 : s'.first = s.first) (h2 : s'.spec = s.spec) (b j : Nat) : pageS s' f b j = pageS s f b j := by
  unfold pageS St.k
  rw [h1, h2]
/-- Set. -/
theorem Live.set {f : Fl} {s : St} (h : Live f s) {i v : Int} (hv : I64 v) : Live f (setF s i v) := by
  have hok := setF_ok (f := f) h.ok (i := i) hv
  unfold setF at hok ⊢
  split at hok
  · rename_i he
    rw [if_pos he]
    have hin : ∃ p, s.spec[i.toNat]? = some p ∧ inPar p v = true := by
      unfold setE at he
      split at he
      · cases he
      split at he
      · cases he
      split at he
      · cases he
      rename_i a b c
      obtain ⟨p, hp⟩ := getElem?_of_lt (l := s.spec) (k := i.toNat) (by omega)
      rw [hp] at c
      exact ⟨p, hp, by simpa using c⟩
    obtain ⟨p, hp, hx⟩ := hin
    exact ⟨h.fok, hok, h.up, h.br, h.trn, h.new.congr rfl rfl rfl (fun b j _ _ => recS_congr rfl rfl rfl (fun _ _ => rfl)), h.q0, h.lgs, h.lgt.set hp hx, fun hb => ⟨(h.tgt hb).pgs, (h.tgt hb).vl, (h.tgt hb).lg, (h.tgt hb).ne, (h.tgt hb).nx, (h.tgt hb).er, (h.tgt hb).pre⟩⟩
  · rename_i he
    rw [if_neg he]
    exact h

/-- Begin. -/
theorem Live.begin {f : Fl} {s : St} (h : Live f s) : Live f (beginS s f) := by
  have hok := beginS_ok (f := f) h.ok
  unfold beginS at hok ⊢
  rw [h.brk] at hok ⊢
  split at hok
  · rename_i he
    rw [if_pos he]
    obtain ⟨_, _, hbusy, hne, henc⟩ := beginE_zero he
    obtain ⟨p1, p2, p3, p4, p5, p6, p7, p8, p9⟩ := placeS_same s f
    have hnew : Newest f { placeS s f with pages := encP (s.seq + 1) s.staged, values := s.staged, done := 0, busy := true } (curS s) :=
      h.new.congr p2 p3 rfl (fun b j _ _ => recS_congr p1 p3 rfl (fun _ _ => rfl))
    have hcur : curS { placeS s f with pages := encP (s.seq + 1) s.staged, values := s.staged, done := 0, busy := true } = curS s := by
      unfold curS
      simp only [p8, p6, p7, p4]
    refine ⟨h.fok, hok, h.up, by simp only [p9]; exact h.br, by simp only [p1, p2]; exact h.trn, by rw [hcur]; exact hnew, by simp only [p8, p6, p7, p3, p4]; exact h.q0, by simp only [p3, p4]; exact h.lgs, by simp only [p3, p5]; exact h.lgt, fun _ => ?_⟩
    have hk : ∀ x : St, x.spec = s.spec → x.k = s.k := fun x e => by unfold St.k; rw [e]
    refine ⟨by simp only [p6], by simp only [p3]; exact h.ok.tl, by simp only [p3]; exact h.lgt, ?_, ?_, ?_, ?_⟩
    · show (placeS s f).dest = (placeS s f).block → (placeS s f).slot < ((placeS s f).toSlot : Int)
      rw [p7, p8]
      unfold placeS
      split
      · rename_i j hj
        exact fun _ => (freeS_lt hj).2.1
      · intro e
        simp only at e
        have := h.ok.bl
        have := h.ok.b1
        exfalso
        by_cases hl : s.block + 1 < s.blocks
        · rw [Nat.mod_eq_of_lt hl] at e; omega
        · rw [show s.block + 1 = s.blocks by omega, Nat.mod_self] at e; omega
    · show (placeS s f).dest = (placeS s f).block ∨ (placeS s f).dest = ((placeS s f).block + 1) % (placeS s f).blocks
      rw [p7, p2]
      unfold placeS
      split
      · exact .inl rfl
      · exact .inr rfl
    · show (placeS s f).erase = true → (placeS s f).dest ≠ (placeS s f).block ∧ (placeS s f).toSlot = 0 ∧ (0 : Nat) = 0
      rw [p7]
      unfold placeS
      split
      · intro e; cases e
      · intro _
        refine ⟨fun e => ?_, rfl, rfl⟩
        simp only at e
        have := h.ok.bl
        have := h.ok.b1
        by_cases hl : s.block + 1 < s.blocks
        · rw [Nat.mod_eq_of_lt hl] at e; omega
        · rw [show s.block + 1 = s.blocks by omega, Nat.mod_self] at e; omega
    · intro he i hi
      rw [if_neg (by simp)]
      have hi' : i < s.k := Nat.lt_of_lt_of_eq hi (hk { placeS s f with pages := encP (s.seq + 1) s.staged, values := s.staged, done := 0, busy := true } p3)
      have hpg : pageS { placeS s f with pages := encP (s.seq + 1) s.staged, values := s.staged, done := 0, busy := true } f (placeS s f).dest (placeS s f).toSlot = pageS s f (placeS s f).dest (placeS s f).toSlot := pageS_congr p1 p3 _ _
      show pageF f (pageS { placeS s f with pages := encP (s.seq + 1) s.staged, values := s.staged, done := 0, busy := true } f (placeS s f).dest (placeS s f).toSlot + i) = blankP
      rw [hpg]
      have he' : (placeS s f).erase = false := he
      unfold placeS at he' ⊢
      split
      · rename_i j hj
        obtain ⟨a1, a2, a3⟩ := freeS_lt hj
        exact (blankN_iff h.fok (h.ok.page_in h.ok.bl a1)).1 a3 i hi'
      · rename_i hn
        rw [hn] at he'
        simp only [Bool.not_eq_false'] at he'
        have hb : (s.block + 1) % s.blocks < s.blocks := Nat.mod_lt _ (by have := h.ok.b1; omega)
        have := h.ok.kp
        exact (blankN_iff h.fok (h.ok.block_in hb)).1 he' i (by omega)
  · rename_i he
    rw [if_neg he]
    exact h

theorem fix_rec {f g : Fl} {s s' : St} {b j : Nat} (hf : s'.first = s.first) (hs : s'.spec = s.spec) (hp : g.pg = f.pg)
    (h : ∀ i, i < s.k → goodP (pageF g (pageS s f b j + i)) = true → pageF g (pageS s f b j + i) = pageF f (pageS s f b j + i)) : recS g s' b j = recS f s b j ∨ recS g s' b j = none := by
  by_cases hall : ∀ i, i < s.k → goodP (pageF g (pageS s f b j + i)) = true
  · exact .inl (recS_congr hf hs hp (fun i hi => h i hi (hall i hi)))
  · right
    simp only [Classical.not_forall] at hall
    obtain ⟨i, hi, hb⟩ := hall
    have hk : s'.k = s.k := by unfold St.k; rw [hs]
    have ha : pageS s' g b j = pageS s f b j := by unfold pageS; rw [hk, hf, hp]
    exact recS_bad (i := i) (by rw [hk]; exact hi) (by rw [ha]; simpa using hb)

/-- What a step leaves. -/
inductive StepO (f : Fl) (s : St) (q : St × Fl × Bool × Int) : Prop
  | more : q.2.2.1 = false → q.2.2.2 = 0 → Live q.2.1 q.1 → q.1.busy = true → q.1.saved = s.saved → q.1.values = s.values → q.1.staged = s.staged → q.1.spec = s.spec → q.1.first = s.first → q.1.blocks = s.blocks → q.1.block = s.block → q.1.slot = s.slot → q.1.dest = s.dest → StepO f s q
  | last : q.2.2.1 = true → q.2.2.2 = 0 → Live q.2.1 q.1 → q.1.busy = false → q.1.saved = s.values → q.1.staged = s.staged → q.1.spec = s.spec → q.1.first = s.first → q.1.blocks = s.blocks → q.1.block = s.dest → 0 ≤ q.1.slot → StepO f s q
  | dead : q.2.2.1 = false → q.2.2.2 = 20 → Dead q.2.1 q.1 → q.1.saved = s.saved → q.1.values = s.values → q.1.spec = s.spec → q.1.first = s.first → q.1.blocks = s.blocks → q.1.block = s.block → q.1.slot = s.slot → q.1.dest = s.dest → StepO f s q

theorem Live.step_erase {f : Fl} {s : St} (h : Live f s) (hb : s.busy = true) (he : s.erase = true) : StepO f s (stepS s f) := by
  have t := h.tgt hb
  obtain ⟨er1, er2, er3⟩ := t.er he
  have hok := stepS_ok (f := f) h.ok
  have hB : s.first + s.dest < f.wear.length := by have := h.ok.fb; have := h.ok.tb; omega
  have hop : opS s f = eraseF f ((s.first + s.dest : Nat) : Int) := by
    unfold opS
    rw [if_pos he]
    congr 1
  obtain ⟨e1, e2, e3⟩ := erase_pages h.fok h.up hB
  have hgok := eraseF_ok (f := f) (block := ((s.first + s.dest : Nat) : Int)) h.fok
  rw [← hop] at e1 e2 e3 hgok
  have htk : tickS s = { s with erase := false } := by unfold tickS; rw [if_pos he]
  have hk1 := h.ok.k1
  have hcd : curS { s with erase := false } = curS s := rfl
  rcases e3 with ⟨c1, c2, c3⟩ | ⟨c1, c2, c3⟩
  · have hq := stepS_more (f := f) h.br hb c1 (by rw [htk]; simp only; rw [er3, h.ok.pl hb]; exact hk1)
    rw [hq] at hok ⊢
    rw [htk] at hok ⊢
    have htrn : ∀ x, s.first * (opS s f).1.pg ≤ x → x < (s.first + s.blocks) * (opS s f).1.pg → Trn (pageF (opS s f).1 x) := by
      intro x h1 h2
      rw [e1] at h1 h2
      rw [c3]
      split
      · exact Trn.blank
      · exact h.trn x h1 h2
    have hrec : ∀ b j, b < s.blocks → j < slotsS s f → recS (opS s f).1 { s with erase := false } b j = recS f s b j ∨ (recS (opS s f).1 { s with erase := false } b j = none ∧ ∀ q v, curS s ≠ some (q, b, j, v)) := by
      intro b j h1 h2
      by_cases hbd : b = s.dest
      · subst hbd
        right
        refine ⟨?_, h.cur_ne (.inl (fun e => er1 e.symm))⟩
        have ha : pageS { s with erase := false } (opS s f).1 s.dest j = pageS s f s.dest j := by unfold pageS St.k; rw [e1]
        refine recS_bad (i := 0) hk1 ?_
        rw [ha, c3, if_pos ((h.ok.slot_block (B := s.first + s.dest) h2 hk1).2 rfl)]
        exact blankP_bad
      · left
        refine recS_congr rfl rfl e1 (fun i hi => ?_)
        rw [c3, if_neg (fun hx => hbd (by
          have := (h.ok.slot_block h2 hi).1 hx
          omega))]
    refine .more rfl rfl ⟨hgok, hok, c2, h.br, htrn, ?_, h.q0, h.lgs, h.lgt, fun _ => ?_⟩ hb rfl rfl rfl rfl rfl rfl rfl rfl rfl
    · rw [hcd]
      exact h.new.less rfl rfl e1 hrec
    · refine ⟨t.pgs, t.vl, t.lg, t.ne, t.nx, (fun e => by cases e), fun _ i hi => ?_⟩
      have ha : pageS { s with erase := false } (opS s f).1 s.dest s.toSlot = pageS s f s.dest s.toSlot := by unfold pageS St.k; rw [e1]
      simp only
      rw [ha, if_neg (by omega), c3, if_pos ((h.ok.slot_block (B := s.first + s.dest) h.ok.ts hi).2 rfl)]
  · have hq := stepS_fail (f := f) (k := 0) h.br hb (by rw [c1]; decide)
    rw [hq] at hok ⊢
    rw [htk] at hok ⊢
    have htrn : ∀ x, s.first * (opS s f).1.pg ≤ x → x < (s.first + s.blocks) * (opS s f).1.pg → Trn (pageF (opS s f).1 x) := by
      intro x h1 h2
      rw [e1] at h1 h2
      rw [c3]
      split
      · exact (h.trn x h1 h2).torn (bytes_drop h.fok.pby _)
      · exact h.trn x h1 h2
    have hrec : ∀ b j, b < s.blocks → j < slotsS s f → recS (opS s f).1 { { s with erase := false } with broken := true } b j = recS f s b j ∨ (recS (opS s f).1 { { s with erase := false } with broken := true } b j = none ∧ ∀ q v, curS s ≠ some (q, b, j, v)) := by
      intro b j h1 h2
      by_cases hbd : b = s.dest
      · subst hbd
        have hfix := fix_rec (f := f) (g := (opS s f).1) (s := s) (s' := { { s with erase := false } with broken := true }) (b := s.dest) (j := j) rfl rfl e1 (fun i hi hg => by
          rw [c3] at hg ⊢
          split
          · rename_i hin
            rw [if_pos hin] at hg
            have hr := h.ok.in_region h.ok.tb h2 hi
            exact (h.trn _ hr.1 hr.2).fix (bytes_drop h.fok.pby _) hg
          · rfl)
        rcases hfix with e | e
        · exact .inl e
        · exact .inr ⟨e, h.cur_ne (.inl (fun e => er1 e.symm))⟩
      · left
        refine recS_congr rfl rfl e1 (fun i hi => ?_)
        rw [c3, if_neg (fun hx => hbd (by
          have := (h.ok.slot_block h2 hi).1 hx
          omega))]
    refine .dead rfl rfl ⟨hgok, hok, c2, rfl, hb, htrn, .inl ?_, h.lgs, t.lg, fun e => (h.q0 e).2⟩ rfl rfl rfl rfl rfl rfl rfl rfl
    exact h.new.less rfl rfl e1 hrec

theorem encP_get9 {q : Int} {v : List Int} {i : Nat} (hi : i < pgs v.length) : (encP q v)[i]? = some (pageP q v i) := encP_at hi
theorem Live.step_prog {f : Fl} {s : St} (h : Live f s) (hb : s.busy = true) (he : s.erase = false) : StepO f s (stepS s f) := by
  have t := h.tgt hb
  have hok := stepS_ok (f := f) h.ok
  have hdn := h.ok.dn hb h.br
  have hpl := h.ok.pl hb
  have hin := h.ok.page_in h.ok.tb h.ok.ts
  have hvk : pgs s.values.length = s.k := by unfold St.k; rw [t.vl]
  have hpd : s.pages[s.done]?.getD [] = pageP (s.seq + 1) s.values s.done := by
    rw [t.pgs, encP_at (by omega)]
    rfl
  have hop : opS s f = progF f ((pageS s f s.dest s.toSlot + s.done : Nat) : Int) (pageP (s.seq + 1) s.values s.done) := by
    unfold opS
    rw [if_neg (by rw [he]; decide), hpd]
  obtain ⟨P, hP⟩ : ∃ P, pageS s f s.dest s.toSlot = P := ⟨_, rfl⟩
  rw [hP] at hop hin
  have hbl : pageF f (P + s.done) = blankP := by
    have := t.pre he s.done hdn
    rw [if_neg (by omega), hP] at this
    exact this
  have n48 := h.ok.n2
  have hby : Bytes (pageP (s.seq + 1) s.values s.done) := pageP_bytes _ _ _ (by have := h.ok.k8; omega) (by rw [t.vl]; omega)
  obtain ⟨e1, e2, e3⟩ := prog_pages h.fok h.up (P := P + s.done) (by omega) (pageP_length (s.seq + 1) s.values s.done) hbl
  have hgok := progF_ok (f := f) (page := ((P + s.done : Nat) : Int)) h.fok hby
  rw [← hop] at e1 e2 e3 hgok
  have htk : tickS s = { s with done := s.done + 1 } := by unfold tickS; rw [if_neg (by rw [he]; decide)]
  have hk1 := h.ok.k1
  have hpgd := good_page (s.seq + 1) s.values s.done
  have hpln := pageP_length (s.seq + 1) s.values s.done
  /- a slot that is not the target is as it was -/
  have haway : ∀ (s' : St) (b j : Nat), s'.first = s.first → s'.spec = s.spec → b < s.blocks → j < slotsS s f → ¬ (b = s.dest ∧ j = s.toSlot) → (∀ x, x ≠ P + s.done → pageF (opS s f).1 x = pageF f x) → recS (opS s f).1 s' b j = recS f s b j := by
    intro s' b j h1 h2 h3 h4 h5 h6
    refine recS_congr h1 h2 e1 (fun i hi => h6 _ (fun e => h5 ?_))
    rw [← hP] at e
    have := h.ok.slot_inj h4 h.ok.ts hi hdn e
    exact ⟨this.1, this.2.1⟩
  have htne : ∀ q v, curS s ≠ some (q, s.dest, s.toSlot, v) := by
    apply h.cur_ne
    by_cases e : s.block = s.dest
    · exact .inr (t.ne e.symm)
    · exact .inl e
  have hps : ∀ (s' : St), s'.first = s.first → s'.spec = s.spec → pageS s' (opS s f).1 s.dest s.toSlot = P := by
    intro s' h1 h2
    rw [← hP]
    unfold pageS St.k
    rw [h1, h2, e1]
  have htrn : ∀ (p : List Int), Trn p → (∀ x, pageF (opS s f).1 x = if x = P + s.done then p else pageF f x) → ∀ x, s.first * (opS s f).1.pg ≤ x → x < (s.first + s.blocks) * (opS s f).1.pg → Trn (pageF (opS s f).1 x) := by
    intro p hp hx x h1 h2
    rw [e1] at h1 h2
    rw [hx]
    split
    · exact hp
    · exact h.trn x h1 h2
  have hpre := t.pre he
  rw [hP] at hpre
  rcases e3 with ⟨c1, c2, c3⟩ | ⟨c1, c2, c3⟩
  · have c3' : ∀ x, x ≠ P + s.done → pageF (opS s f).1 x = pageF f x := fun x hx => by rw [c3, if_neg hx]
    by_cases hlt : s.done + 1 < s.k
    · have hq := stepS_more (f := f) h.br hb c1 (by rw [htk]; simp only; omega)
      rw [hq] at hok ⊢
      rw [htk] at hok ⊢
      have hrec : ∀ b j, b < s.blocks → j < slotsS s f → recS (opS s f).1 { s with done := s.done + 1 } b j = recS f s b j ∨ (recS (opS s f).1 { s with done := s.done + 1 } b j = none ∧ ∀ q v, curS s ≠ some (q, b, j, v)) := by
        intro b j h1 h2
        by_cases hbd : b = s.dest ∧ j = s.toSlot
        · obtain ⟨rfl, rfl⟩ := hbd
          right
          refine ⟨recS_bad (i := s.done + 1) hlt ?_, htne⟩
          rw [hps { s with done := s.done + 1 } rfl rfl, c3' _ (by omega), hpre _ hlt, if_neg (by omega)]
          exact blankP_bad
        · exact .inl (haway _ b j rfl rfl h1 h2 hbd c3')
      refine .more rfl rfl ⟨hgok, hok, c2, h.br, htrn _ (Trn.good hpgd hpln hby) c3, h.new.less rfl rfl e1 hrec, h.q0, h.lgs, h.lgt, fun _ => ?_⟩ hb rfl rfl rfl rfl rfl rfl rfl rfl rfl
      refine ⟨t.pgs, t.vl, t.lg, t.ne, t.nx, (fun e => by simp only at e; rw [he] at e; cases e), fun _ i hi => ?_⟩
      simp only
      rw [hps { s with done := s.done + 1 } rfl rfl, c3]
      by_cases hid : i = s.done
      · subst hid
        rw [if_pos rfl, if_pos (by omega)]
      · rw [if_neg (by omega), hpre i hi]
        by_cases hlt2 : i < s.done
        · rw [if_pos hlt2, if_pos (by omega)]
        · rw [if_neg hlt2, if_neg (by omega)]
    · have hdk : s.done + 1 = s.k := by omega
      have hq := stepS_last (f := f) h.br hb c1 (by rw [htk]; simp only; omega)
      rw [hq] at hok ⊢
      rw [htk] at hok ⊢
      obtain ⟨s', hs'⟩ : ∃ s', endS { s with done := s.done + 1 } = s' := ⟨_, rfl⟩
      have hrt : recS (opS s f).1 s' s.dest s.toSlot = some (s.seq + 1, s.values) := by
        have hqb := h.ok.qb hb h.br
        have hq1 := h.ok.q1
        refine recS_enc (f := (opS s f).1) ?_ (by unfold encE; rw [if_neg]; rw [t.vl]; have := h.ok.n1; omega) (by rw [← hs']; exact t.vl) h.ok.vi
        have hk' : s'.k = s.k := by rw [← hs']; rfl
        rw [hps s' (by rw [← hs']; rfl) (by rw [← hs']; rfl), hk']
        unfold pagesF encP
        rw [hvk]
        apply List.map_congr_left
        intro i hi
        rw [List.mem_range] at hi
        rw [c3]
        by_cases hid : i = s.done
        · subst hid
          rw [if_pos rfl]
        · rw [if_neg (by omega), hpre i hi, if_pos (by omega)]
      have hnew : Newest (opS s f).1 s' (some (s.seq + 1, s.dest, s.toSlot, s.values)) := by
        refine ⟨by rw [← hs']; exact h.ok.tb, ?_, hrt, fun b j q v h1 h2 h3 => ?_⟩
        · have : slotsS s' (opS s f).1 = slotsS s f := by rw [← hs']; unfold slotsS St.k endS; rw [e1]
          rw [this]
          exact h.ok.ts
        · by_cases hbd : b = s.dest ∧ j = s.toSlot
          · exact .inl hbd
          · right
            have h1' : b < s.blocks := by rw [← hs'] at h1; exact h1
            have h2' : j < slotsS s f := by
              have : slotsS s' (opS s f).1 = slotsS s f := by rw [← hs']; unfold slotsS St.k endS; rw [e1]
              rw [this] at h2
              exact h2
            rw [haway s' b j (by rw [← hs']; rfl) (by rw [← hs']; rfl) h1' h2' hbd c3'] at h3
            exact h.older h1' h2' h3
      rw [hs'] at hok ⊢
      have hcur : curS s' = some (s.seq + 1, s.dest, s.toSlot, s.values) := by
        rw [← hs']
        unfold curS endS
        simp only
        rw [if_neg (by omega), Int.toNat_natCast]
      refine .last rfl rfl ⟨hgok, hok, c2, by rw [← hs']; exact h.br, ?_, by rw [hcur]; exact hnew, ?_, by rw [← hs']; exact t.lg, by rw [← hs']; exact h.lgt, ?_⟩ ?_ ?_ ?_ ?_ ?_ ?_ ?_ ?_
      · have := htrn _ (Trn.good hpgd hpln hby) c3
        rw [← hs']
        exact this
      · intro e
        rw [← hs'] at e
        unfold endS at e
        simp only at e
        omega
      · intro e
        rw [← hs'] at e
        cases e
      · rw [← hs']; rfl
      · rw [← hs']; rfl
      · rw [← hs']; rfl
      · rw [← hs']; rfl
      · rw [← hs']; rfl
      · rw [← hs']; rfl
      · rw [← hs']; rfl
      · rw [← hs']; unfold endS; simp only; omega
  · have c3' : ∀ x, x ≠ P + s.done → pageF (opS s f).1 x = pageF f x := fun x hx => by rw [c3, if_neg hx]
    have hq := stepS_fail (f := f) (k := 0) h.br hb (by rw [c1]; decide)
    rw [hq] at hok ⊢
    rw [htk] at hok ⊢
    have htr := htrn _ ((Trn.good hpgd hpln hby).torn h.fok.pby) c3
    obtain ⟨s', hs'⟩ : ∃ s' : St, { { s with done := s.done + 1 } with broken := true } = s' := ⟨_, rfl⟩
    have f1 : s'.first = s.first := by rw [← hs']
    have f2 : s'.spec = s.spec := by rw [← hs']
    have f3 : s'.blocks = s.blocks := by rw [← hs']
    have hst : slotsS s' (opS s f).1 = slotsS s f := by unfold slotsS St.k; rw [f2, e1]
    have hk' : s'.k = s.k := by unfold St.k; rw [f2]
    have hnew : Newest (opS s f).1 s' (curS s) ∨ Newest (opS s f).1 s' (some (s.seq + 1, s.dest, s.toSlot, s.values)) := by
      by_cases hfull : torn (pageP (s.seq + 1) s.values s.done) f.picks = pageP (s.seq + 1) s.values s.done ∧ s.done + 1 = s.k
      · right
        obtain ⟨hf1, hf2⟩ := hfull
        refine ⟨by rw [f3]; exact h.ok.tb, by rw [hst]; exact h.ok.ts, ?_, fun b j q v h1 h2 h3 => ?_⟩
        · have hqb := h.ok.qb hb h.br
          have hq1 := h.ok.q1
          refine recS_enc (f := (opS s f).1) ?_ (by unfold encE; rw [if_neg]; rw [t.vl]; have := h.ok.n1; omega) (by rw [f2]; exact t.vl) h.ok.vi
          rw [hps s' f1 f2, hk']
          unfold pagesF encP
          rw [hvk]
          apply List.map_congr_left
          intro i hi
          rw [List.mem_range] at hi
          rw [c3]
          by_cases hid : i = s.done
          · subst hid
            rw [if_pos rfl, hf1]
          · rw [if_neg (by omega), hpre i hi, if_pos (by omega)]
        · by_cases hbd : b = s.dest ∧ j = s.toSlot
          · exact .inl hbd
          · right
            rw [f3] at h1
            rw [hst] at h2
            rw [haway s' b j f1 f2 h1 h2 hbd c3'] at h3
            exact h.older h1 h2 h3
      · left
        refine h.new.less f3 f2 e1 (fun b j h1 h2 => ?_)
        by_cases hbd : b = s.dest ∧ j = s.toSlot
        · obtain ⟨rfl, rfl⟩ := hbd
          right
          refine ⟨?_, htne⟩
          by_cases hlt : s.done + 1 < s.k
          · refine recS_bad (i := s.done + 1) (by rw [hk']; exact hlt) ?_
            rw [hps s' f1 f2, c3' _ (by omega), hpre _ hlt, if_neg (by omega)]
            exact blankP_bad
          · refine recS_bad (i := s.done) (by rw [hk']; exact hdn) ?_
            rw [hps s' f1 f2, c3, if_pos rfl, torn_good hby h.fok.pby hpln hpgd]
            rw [decide_eq_false_iff_not]
            exact fun e => hfull ⟨e, by omega⟩
        · exact .inl (haway s' b j f1 f2 h1 h2 hbd c3')
    rw [hs'] at hok ⊢
    have hcur : curS s' = curS s := by rw [← hs']; rfl
    have hnx : some (s'.seq + 1, s'.dest, s'.toSlot, s'.values) = some (s.seq + 1, s.dest, s.toSlot, s.values) := by rw [← hs']
    refine .dead rfl rfl ⟨hgok, hok, c2, by rw [← hs'], by rw [← hs']; exact hb, by rw [f1, f3]; exact htr, by rw [hcur, hnx]; exact hnew.elim .inl (fun e => .inr ⟨e, by rw [← hs']; simp⟩), by rw [← hs']; exact h.lgs, by rw [← hs']; exact t.lg, by rw [← hs']; exact fun e => (h.q0 e).2⟩ (by rw [← hs']) (by rw [← hs']) f2 f1 f3 (by rw [← hs']) (by rw [← hs']) (by rw [← hs'])
theorem Live.step {f : Fl} {s : St} (h : Live f s) (hb : s.busy = true) : StepO f s (stepS s f) := by
  by_cases he : s.erase = true
  · exact h.step_erase hb he
  · exact h.step_prog hb (by simpa using he)
end Go.Proofs.Ytjdknddnanopaaa
