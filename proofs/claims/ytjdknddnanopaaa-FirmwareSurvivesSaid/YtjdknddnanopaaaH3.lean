/-
  Firmware: the work of an installation, performed. No program in sight.
-/
import Derived.Test.YtjdknddnanopaaaH2
import Derived.Test.YtjdknddnanopaaaG2
namespace Go.Proofs.Ytjdknddnanopaaa
open Go.RowKit
set_option linter.unusedVariables false

/-- Step, n times at most. -/
def stepsB : Nat → Bk → Fl → Bk × Fl × Bool
  | 0, b, f => (b, f, false)
  | n + 1, b, f => if (stepB b f).2.2.2 ≠ 0 then ((stepB b f).1, (stepB b f).2.1, false) else if (stepB b f).2.2.1 = true then ((stepB b f).1, (stepB b f).2.1, true) else stepsB n (stepB b f).1 (stepB b f).2.1

theorem BkJ.seqAt {f : Fl} {b : Bk} {n m : Int} (h : BkJ f b n) (hm : b.st.seq ≤ m) : BkJ f b m := ⟨h.ok, h.fo, h.lv, h.dn, h.sto, h.er2, h.pg2, hm, h.ul⟩
theorem stepsB_J : ∀ (m : Nat) {f : Fl} {b : Bk} {n : Int}, BkJ f b n → BkJ (stepsB m b f).2.1 (stepsB m b f).1 (n + m)
  | 0, f, b, n, h => h.more (by omega)
  | m + 1, f, b, n, h => by
    unfold stepsB
    have h1 := stepB_J h
    split
    · exact h1.more (by omega)
    split
    · exact h1.more (by omega)
    · exact (stepsB_J m h1).more (by omega)

/-- What no step turns. -/
structure Sm (b c : Bk) : Prop where
  first : c.first = b.first
  blocks : c.blocks = b.blocks
  slot : c.slot = b.slot
  upload : c.upload = b.upload
  dst : c.dst = b.dst
  version : c.version = b.version
  length : c.length = b.length
  fed : c.fed = b.fed
  page : c.page = b.page
theorem Sm.refl (b : Bk) : Sm b b := ⟨rfl, rfl, rfl, rfl, rfl, rfl, rfl, rfl, rfl⟩
theorem Sm.trans {a b c : Bk} (h : Sm a b) (k : Sm b c) : Sm a c := ⟨k.first.trans h.first, k.blocks.trans h.blocks, k.slot.trans h.slot, k.upload.trans h.upload, k.dst.trans h.dst, k.version.trans h.version, k.length.trans h.length, k.fed.trans h.fed, k.page.trans h.page⟩
theorem Sm.k {b c : Bk} (h : Sm b c) : c.k = b.k := by unfold Bk.k; rw [h.blocks]
theorem Sm.blk {b c : Bk} (h : Sm b c) (s : Nat) : blkB c s = blkB b s := by unfold blkB; rw [h.first, h.k]

/-- A bank at rest, without power failure so far. -/
structure Rest (f : Fl) (b : Bk) : Prop where
  br : b.broken = false
  er : b.erase = []
  da : b.data = none
  rc : b.record = false

theorem stepB_cons {f : Fl} {b : Bk} {e : Int} {l : List Int} (hrd : rdyB b f = b) (hb : b.broken = false) (he : b.erase = e :: l) : stepB b f = if (eraseF f e).2 ≠ 0 then ({ b with broken := true }, (eraseF f e).1, false, 20) else ({ b with erase := l }, (eraseF f e).1, !workB { b with erase := l }, 0) := by
  obtain ⟨_, _, _, _, _, _, _, _, _, _, _, _, _, _⟩ := b
  simp only at he hb
  subst he hb
  unfold stepB
  rw [hrd]
  rfl
/-- Blocks are erased. -/
structure EraR (f : Fl) (b : Bk) (n : Int) (es : List Nat) (m : Nat) (q : Bk × Fl × Bool) : Prop where
  J : BkJ q.2.1 q.1 n
  st : q.1.st = b.st
  sm : Sm b q.1
  sh : Shape f q.2.1
  far : ∀ x, (∀ e ∈ es, ¬ (e * f.pg ≤ x ∧ x < e * f.pg + f.pg)) → pageF q.2.1 x = pageF f x
  ok : q.2.2 = true → Rest q.2.1 q.1 ∧ ∀ x, (∃ e ∈ es, e * f.pg ≤ x ∧ x < e * f.pg + f.pg) → pageF q.2.1 x = blankP
  up : f.up → es.length ≤ m → q.2.2 = true ∧ q.2.1.up
theorem stepsB_erase : ∀ (m : Nat) {f : Fl} {b : Bk} {n : Int} (es : List Nat), BkJ f b n → b.broken = false → b.erase = es.map (fun (e : Nat) => (e : Int)) → es ≠ [] → b.data = none → b.record = false → EraR f b n es m (stepsB m b f)
  | 0, f, b, n, es, h, hb, he, hne, hd, hr => ⟨h, rfl, Sm.refl b, Shape.refl f, fun _ _ => rfl, fun e => (by cases e), fun _ hl => by
      exact absurd (List.eq_nil_of_length_eq_zero (by omega)) hne⟩
  | m + 1, f, b, n, [], h, hb, he, hne, hd, hr => absurd rfl hne
  | m + 1, f, b, n, e :: es, h, hb, he, hne, hd, hr => by
    have hdn := h.dn hb
    have hrd := rdyB_up hb hdn
    have hJ := stepB_J h
    have hw : e < f.wear.length := by
      have := h.er2 (e : Int) (by rw [he]; simp)
      have := h.ok.fw
      omega
    have hq : stepB b f = if (eraseF f (e : Int)).2 ≠ 0 then ({ b with broken := true }, (eraseF f (e : Int)).1, false, 20) else ({ b with erase := es.map (fun (e : Nat) => (e : Int)) }, (eraseF f (e : Int)).1, !workB { b with erase := es.map (fun (e : Nat) => (e : Int)) }, 0) := by
      exact stepB_cons hrd hb he
    have hwk : workB { b with erase := es.map (fun (e : Nat) => (e : Int)) } = !es.isEmpty := by
      unfold workB
      show (!(es.map _).isEmpty || b.data.isSome || b.record) = _
      rw [hd, hr]
      cases es <;> rfl
    have hfar : ∀ x, ¬ (e * f.pg ≤ x ∧ x < e * f.pg + f.pg) → pageF (eraseF f (e : Int)).1 x = pageF f x := fun x hx => eraseF_far h.fo hx
    have hsh := eraseF_shape f (e : Int)
    unfold stepsB
    by_cases hc : (eraseF f (e : Int)).2 = 0
    · rw [if_neg (by rw [hc]; simp), hwk] at hq
      rw [hq] at hJ ⊢
      have hJ' := hJ.seqAt (m := n) h.sq
      have hpg : ∀ x, (e * f.pg ≤ x ∧ x < e * f.pg + f.pg) → pageF (eraseF f (e : Int)).1 x = blankP := fun x hx => by
        rcases (erase_pages h.fo hdn hw).ok with ⟨_, _, t⟩ | ⟨t, _, _⟩
        · rw [t, if_pos hx]
        · rw [hc] at t; cases t
      simp only [ne_eq, not_true_eq_false, if_false]
      cases hes : es with
      | nil =>
        subst hes
        simp only [List.isEmpty_nil, Bool.not_true, Bool.not_false, if_true]
        refine ⟨hJ', rfl, ⟨rfl, rfl, rfl, rfl, rfl, rfl, rfl, rfl, rfl⟩, hsh, fun x hx => hfar x (hx e (by simp)), fun _ => ⟨⟨hb, rfl, hd, hr⟩, fun x ⟨e', h1, h2⟩ => ?_⟩, fun hu _ => ⟨rfl, (eraseF_up hu hw).2.1⟩⟩
        simp only [List.mem_singleton] at h1
        subst h1
        exact hpg x h2
      | cons e2 es2 =>
        have hne2 : es ≠ [] := by rw [hes]; simp
        have hie : es.isEmpty = false := by rw [hes]; rfl
        rw [← hes]
        simp only [hie, Bool.not_false, Bool.not_true, Bool.false_eq_true, if_false]
        have ih := stepsB_erase m (f := (eraseF f (e : Int)).1) (b := { b with erase := es.map (fun (e : Nat) => (e : Int)) }) es hJ' hb rfl hne2 hd hr
        refine ⟨ih.J, ih.st, ⟨ih.sm.first, ih.sm.blocks, ih.sm.slot, ih.sm.upload, ih.sm.dst, ih.sm.version, ih.sm.length, ih.sm.fed, ih.sm.page⟩, hsh.trans ih.sh, fun x hx => ?_, fun hk => ⟨(ih.ok hk).1, fun x hx => ?_⟩, fun hu hl => ih.up (eraseF_up hu hw).2.1 (by simp only [List.length_cons] at hl; omega)⟩
        · rw [ih.far x (fun e' he' => by rw [hsh.p]; exact hx e' (by simp [he']))]
          exact hfar x (hx e (by simp))
        · by_cases hin : ∃ e' ∈ es, e' * (eraseF f (e : Int)).1.pg ≤ x ∧ x < e' * (eraseF f (e : Int)).1.pg + (eraseF f (e : Int)).1.pg
          · exact (ih.ok hk).2 x hin
          · have h3 : ∀ e' ∈ es, ¬ (e' * (eraseF f (e : Int)).1.pg ≤ x ∧ x < e' * (eraseF f (e : Int)).1.pg + (eraseF f (e : Int)).1.pg) := fun e' he' hx' => hin ⟨e', he', hx'⟩
            rw [ih.far x h3]
            obtain ⟨e', h1, h2⟩ := hx
            simp only [List.mem_cons] at h1
            rcases h1 with rfl | h1
            · exact hpg x h2
            · exact absurd (by rw [hsh.p]; exact h2) (h3 e' h1)
    · rw [if_pos hc] at hq
      rw [hq] at hJ ⊢
      have hJ' := hJ.seqAt (m := n) h.sq
      simp only [ne_eq, show ¬ (20 : Int) = 0 by decide, not_false_eq_true, if_true]
      exact ⟨hJ', rfl, ⟨rfl, rfl, rfl, rfl, rfl, rfl, rfl, rfl, rfl⟩, hsh, fun x hx => hfar x (hx e (by simp)), fun e => (by cases e), fun hu _ => absurd (eraseF_up hu hw).1 hc⟩

theorem stepB_data {f : Fl} {b : Bk} {d : List Int} (hrd : rdyB b f = b) (hb : b.broken = false) (he : b.erase = []) (hd : b.data = some d) : stepB b f = if (progF f b.page d).2 ≠ 0 then ({ b with broken := true }, (progF f b.page d).1, false, 20) else ({ b with data := none }, (progF f b.page d).1, !workB { b with data := none }, 0) := by
  obtain ⟨_, _, _, _, _, _, _, _, _, _, _, _, _, _⟩ := b
  simp only at he hd hb
  subst he hd hb
  unfold stepB
  rw [hrd]
  rfl
theorem stepB_rec {f : Fl} {b : Bk} (hrd : rdyB b f = b) (hb : b.broken = false) (he : b.erase = []) (hd : b.data = none) (hr : b.record = true) : stepB b f = if (stepS b.st f).2.2.2 ≠ 0 then ({ b with st := (stepS b.st f).1, broken := true }, (stepS b.st f).2.1, false, 20)
         else ({ b with st := (stepS b.st f).1, record := !(stepS b.st f).2.2.1 }, (stepS b.st f).2.1, (stepS b.st f).2.2.1, 0) := by
  obtain ⟨_, _, _, _, _, _, _, _, _, _, _, _, _, _⟩ := b
  simp only at he hd hb hr
  subst he hd hb hr
  unfold stepB
  rw [hrd]
  rfl

/-- A page is programmed. -/
structure PgR (f : Fl) (b : Bk) (n : Int) (d : List Int) (q : Bk × Fl × Bool) : Prop where
  J : BkJ q.2.1 q.1 n
  st : q.1.st = b.st
  sm : Sm b q.1
  sh : Shape f q.2.1
  far : ∀ x, x ≠ b.page → pageF q.2.1 x = pageF f x
  ok : q.2.2 = true → Rest q.2.1 q.1 ∧ pageF q.2.1 b.page = d
  up : f.up → q.2.2 = true ∧ q.2.1.up
theorem stepsB_page (m : Nat) {f : Fl} {b : Bk} {n : Int} {d : List Int} (h : BkJ f b n) (hb : b.broken = false) (he : b.erase = []) (hd : b.data = some d) (hr : b.record = false) (hbl : pageF f b.page = blankP) : PgR f b n d (stepsB (m + 1) b f) := by
  have hdn := h.dn hb
  have hrd := rdyB_up hb hdn
  have hJ := stepB_J h
  obtain ⟨hl, hby⟩ := h.ok.dt d hd
  have hP : b.page < f.wear.length * f.pg := by
    have h1 := (h.pg2 d hd).2
    have h2 := Nat.mul_le_mul_right f.pg h.ok.fw
    omega
  have hwk : workB { b with data := none } = false := by
    unfold workB
    show (!b.erase.isEmpty || (none : Option (List Int)).isSome || b.record) = _
    rw [he, hr]
    rfl
  have hq : stepB b f = if (progF f b.page d).2 ≠ 0 then ({ b with broken := true }, (progF f b.page d).1, false, 20) else ({ b with data := none }, (progF f b.page d).1, true, 0) := by
    rw [stepB_data hrd hb he hd, hwk]
    rfl
  have hsh := progF_shape f (b.page : Int) d
  have hpp := prog_pages h.fo hdn hP hl hbl
  unfold stepsB
  by_cases hc : (progF f b.page d).2 = 0
  · rw [if_neg (by rw [hc]; simp)] at hq
    rw [hq] at hJ ⊢
    simp only [ne_eq, not_true_eq_false, if_false, if_true]
    refine ⟨hJ.seqAt h.sq, rfl, ⟨rfl, rfl, rfl, rfl, rfl, rfl, rfl, rfl, rfl⟩, hsh, fun x hx => progF_far h.fo hl hx, fun _ => ⟨⟨hb, he, rfl, hr⟩, ?_⟩, fun hu => ⟨rfl, (progF_up hu hP hl hby hbl).2.1⟩⟩
    rcases hpp.ok with ⟨_, _, t⟩ | ⟨t, _, _⟩
    · rw [t, if_pos rfl]
    · rw [hc] at t; cases t
  · rw [if_pos hc] at hq
    rw [hq] at hJ ⊢
    simp only [ne_eq, show ¬ (20 : Int) = 0 by decide, not_false_eq_true, if_true]
    exact ⟨hJ.seqAt h.sq, rfl, ⟨rfl, rfl, rfl, rfl, rfl, rfl, rfl, rfl, rfl⟩, hsh, fun x hx => progF_far h.fo hl hx, fun e => (by cases e), fun hu => absurd (progF_up hu hP hl hby hbl).1 hc⟩

/-- A record is written. -/
structure RecR (f : Fl) (b : Bk) (n : Int) (m : Nat) (q : Bk × Fl × Bool) : Prop where
  J : BkJ q.2.1 q.1 (n + m)
  sm : Sm b q.1
  sh : Shape f q.2.1
  far : ∀ x, x < b.first * f.pg ∨ (b.first + 2) * f.pg ≤ x → pageF q.2.1 x = pageF f x
  ok : (q.2.2 = true ∧ Rest q.2.1 q.1 ∧ Surv q.2.1 q.1.st b.st.values none) ∨ (q.2.2 = false ∧ ¬ f.up ∧ Surv q.2.1 q.1.st b.st.saved (some b.st.values))
  up : f.up → q.2.1.up
theorem stepsB_rec : ∀ (m : Nat) {f : Fl} {b : Bk} {n : Int}, BkJ f b n → b.broken = false → b.erase = [] → b.data = none → b.record = true → leftS b.st ≤ m → RecR f b n m (stepsB m b f)
  | 0, f, b, n, h, hb, he, hd, hr, hm => by
    have hdn := h.dn hb
    obtain ⟨hl, hrb⟩ := h.lv hb hdn
    have hbu : b.st.busy = true := by rw [← hrb]; exact hr
    have := h.ok.ok.dn hbu hl.br
    have := h.ok.ok.pl hbu
    unfold leftS at hm
    split at hm <;> omega
  | m + 1, f, b, n, h, hb, he, hd, hr, hm => by
    have hdn := h.dn hb
    have hrd := rdyB_up hb hdn
    have hJ := stepB_J h
    obtain ⟨hl, hrb⟩ := h.lv hb hdn
    have hbu : b.st.busy = true := by rw [← hrb]; exact hr
    have hq := stepB_rec hrd hb he hd hr
    have hsh := stepS_shape b.st f
    have hfar : ∀ x, x < b.first * f.pg ∨ (b.first + 2) * f.pg ≤ x → pageF (stepS b.st f).2.1 x = pageF f x := fun x hx => by
      refine stepS_far h.fo hl.ok ?_
      rw [h.ok.fi, h.ok.bl]
      exact hx
    have hup : f.up → (stepS b.st f).2.1.up := fun hu => by
      obtain ⟨u1, u2⟩ := stepS_still ⟨hu.dn, hu.fu⟩ b.st
      exact ⟨stepS_fok h.fo hl.ok, u1, u2⟩
    unfold stepsB
    cases hl.step hbu with
    | more a1 a2 a3 a4 a5 a6 a7 =>
      have hls := left_step hl.ok hl.br hbu a1 a2
      rw [a2, a1, if_neg (by simp)] at hq
      rw [hq] at hJ ⊢
      simp only [ne_eq, not_true_eq_false, if_false, Bool.false_eq_true, Bool.not_false] at hJ ⊢
      have ih := stepsB_rec m hJ hb he hd rfl (by show leftS (stepS b.st f).1 ≤ m; omega)
      refine ⟨ih.J.more (by omega), ⟨ih.sm.first, ih.sm.blocks, ih.sm.slot, ih.sm.upload, ih.sm.dst, ih.sm.version, ih.sm.length, ih.sm.fed, ih.sm.page⟩, hsh.trans ih.sh, fun x hx => ?_, ?_, fun hu => ih.up (hup hu)⟩
      · have := ih.far x (by rw [hsh.p]; exact hx)
        exact this.trans (hfar x hx)
      · rcases ih.ok with ⟨i1, i2, i3⟩ | ⟨i1, i2, i3⟩
        · refine .inl ⟨i1, i2, ?_⟩
          have e : (stepS b.st f).1.values = b.st.values := a6
          rw [← e]; exact i3
        · refine .inr ⟨i1, fun hu => i2 (hup hu), ?_⟩
          have e : (stepS b.st f).1.values = b.st.values := a6
          have e2 : (stepS b.st f).1.saved = b.st.saved := a5
          rw [← e, ← e2]; exact i3
    | last a1 a2 a3 a4 a5 a6 =>
      rw [a2, a1, if_neg (by simp)] at hq
      rw [hq] at hJ ⊢
      simp only [ne_eq, not_true_eq_false, if_false, if_true, Bool.not_true] at hJ ⊢
      refine ⟨hJ.more (by omega), ⟨rfl, rfl, rfl, rfl, rfl, rfl, rfl, rfl, rfl⟩, hsh, hfar, .inl ⟨rfl, ⟨hb, he, hd, rfl⟩, a5, .inl ⟨a3, ?_⟩⟩, hup⟩
      rw [a4]; rfl
    | dead a1 a2 a3 a4 a5 =>
      rw [a2, if_pos (by decide)] at hq
      rw [hq] at hJ ⊢
      simp only [ne_eq, show ¬ (20 : Int) = 0 by decide, not_false_eq_true, if_true] at hJ ⊢
      refine ⟨hJ.more (by omega), ⟨rfl, rfl, rfl, rfl, rfl, rfl, rfl, rfl, rfl⟩, hsh, hfar, .inr ⟨rfl, fun hu => ?_, a4, .inr ⟨a3, by rw [a5]⟩⟩, hup⟩
      have := (hup hu).dn
      rw [a3.dn] at this
      cases this
end Go.Proofs.Ytjdknddnanopaaa
