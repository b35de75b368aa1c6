/-
  Firmware: what every call keeps of a bank, where the store or the flash turns. No program in sight.
-/
import Derived.Test.YtjdknddnanopaaaH1
import Derived.Test.YtjdknddnanopaaaF17
namespace Go.Proofs.Ytjdknddnanopaaa
open Go.RowKit
set_option linter.unusedVariables false

theorem BkOk.turn {f g : Fl} {b : Bk} (h : BkOk f b) (hs : Shape f g) (s : St) (br : Bool) (sl : Nat) (er : List Int) (da : Option (List Int)) (rc : Bool) (hst : StOk g s) (hsm : Same b.st s) (hlg : Lg s.spec s.saved) (hbr : s.broken = false ∨ br = true) (hsl : sl ≤ 2) (her : ∀ e ∈ er, e ∈ b.erase) (hda : da = none ∨ da = b.data) :
    BkOk g { b with st := s, broken := br, slot := sl, erase := er, data := da, record := rc } := by
  have hz : sizeF g b.blocks = sizeF f b.blocks := by unfold sizeF; rw [hs.p]
  refine ⟨hst, ?_, ?_, ?_, hlg, hbr, h.bk, h.k1, h.k8, ?_, ?_, hsl, h.dst, h.ver, ?_, h.fed, fun e he => h.er e (her e he), fun d hd => ?_, h.page⟩
  · show s.spec = fwSpec (sizeF g b.blocks)
    rw [hsm.spec, hz]
    exact h.sp
  · show s.first = b.first
    rw [hsm.first]; exact h.fi
  · show s.blocks = 2
    rw [hsm.blocks]; exact h.bl
  · show b.first + b.blocks ≤ g.wear.length
    rw [hs.w]; exact h.fw
  · rw [hs.p]; exact h.pg
  · show b.length ≤ sizeF g b.blocks
    rw [hz]; exact h.len
  · have hd' : da = some d := hd
    rcases hda with e | e
    · rw [e] at hd'; cases hd'
    · exact h.dt d (by rw [← e]; exact hd')

theorem setN_same : ∀ (l : List Int) (s : St) (i : Nat), Same s (setN s i l)
  | [], s, i => Same.refl s
  | v :: l, s, i => (setF_same s i v).trans (setN_same l _ _)
theorem setN_live {f : Fl} : ∀ {l : List Int} {s : St} {i : Nat}, Live f s → (∀ x ∈ l, I64 x) → Live f (setN s i l)
  | [], s, i, h, hl => h
  | v :: l, s, i, h, hl => setN_live (l := l) (h.set (hl v (by simp))) (fun x hx => hl x (by simp [hx]))
theorem beginS_saved (s : St) (f : Fl) : (beginS s f).saved = s.saved := by
  unfold beginS
  split
  · show (placeS (brkS s f) f).saved = s.saved
    unfold placeS
    split <;> rfl
  · rfl
theorem Surv.sto {f : Fl} {s : St} {v : List Int} {o : Option (List Int)} (h : Surv f s v o) : Sto f s o := by
  rcases h.2 with ⟨h1, h2⟩ | ⟨h1, h2⟩
  · exact .inl ⟨by rw [upF_of h1.up]; exact h1, h2⟩
  · exact .inr ⟨h1, h2⟩
theorem Surv.lg {f : Fl} {s : St} {v : List Int} {o : Option (List Int)} (h : Surv f s v o) : Lg s.spec s.saved := by
  rcases h.2 with ⟨h1, _⟩ | ⟨h1, _⟩
  · exact h1.lgs
  · exact h1.lgs
theorem Live.surv {f : Fl} {s : St} (h : Live f s) : Surv f s s.saved (if s.busy = true then some s.values else none) := ⟨rfl, .inl ⟨h, rfl⟩⟩
theorem commit_surv {f : Fl} {s : St} (h : Live f s) : ∃ v o, Surv (commitS s f).2.1 (commitS s f).1 v o ∧ ((commitS s f).2.2 = 0 → v = s.staged ∧ o = none) := by
  rcases h.surv.commit with ⟨h1, h2⟩ | ⟨h1, h2⟩ | ⟨h1, h2, h3⟩
  · exact ⟨_, _, h2, fun _ => ⟨rfl, rfl⟩⟩
  · exact ⟨_, _, h2, fun e => by rw [e] at h1; cases h1⟩
  · exact ⟨_, _, h3, fun e => absurd e h1⟩
theorem Surv.none_live {f : Fl} {s : St} {v : List Int} (h : Surv f s v none) : Live f s ∧ s.busy = false := by
  rcases h.2 with ⟨h1, h2⟩ | ⟨_, h2⟩
  · refine ⟨h1, ?_⟩
    cases hb : s.busy with
    | false => rfl
    | true => rw [hb] at h2; cases h2
  · cases h2

theorem bootB_J {f : Fl} {b : Bk} {n : Int} (h : BkJ f b n) : BkJ (bootB b f).2.1 (bootB b f).1 (n + 1) := by
  have h' := h.rdy
  unfold bootB
  split
  · exact h'.more (by omega)
  rename_i hb
  split
  · exact h'.more (by omega)
  obtain ⟨va, vt, vk, v0, l0, c0, v1, l1, c1, hv, b1, b2, b3, -⟩ := h.ok.vec
  have hv0 : savB b 0 = (va : Int) := by unfold savB; rw [hv]; rfl
  have hv1 : savB b 1 = (vt : Int) := by unfold savB; rw [hv]; rfl
  have hv2 : savB b 2 = (vk : Int) := by unfold savB; rw [hv]; rfl
  split
  · refine (h'.with (c := { rdyB b f with slot := (savB b 0).toNat }) ?_ rfl rfl rfl h'.er2 h'.pg2 h'.ul).more (by omega)
    have ho := h'.ok
    exact ⟨ho.ok, ho.sp, ho.fi, ho.bl, ho.lg, ho.br, ho.bk, ho.k1, ho.k8, ho.fw, ho.pg, by show (savB b 0).toNat ≤ 2; rw [hv0]; omega, ho.dst, ho.ver, ho.len, ho.fed, ho.er, ho.dt, ho.page⟩
  have hbf : (rdyB b f).broken = false := by simpa using hb
  obtain ⟨u1, u2⟩ := rdy_up hbf
  obtain ⟨hl, hr⟩ := h.lv u1 u2
  obtain ⟨s, hs⟩ : ∃ s, (if 0 < savB b 2 then setF b.st 2 (savB b 2 - 1) else setF b.st 1 2) = s := ⟨_, rfl⟩
  have hls : Live f s := by
    rw [← hs]
    split
    · exact hl.set (by rw [hv2]; unfold I64; omega)
    · exact hl.set (by unfold I64; omega)
  have hsame : Same b.st s := by
    rw [← hs]
    split
    · exact setF_same _ _ _
    · exact setF_same _ _ _
  have hsq : s.seq = b.st.seq := by
    rw [← hs]
    split
    · exact setF_seq _ _ _
    · exact setF_seq _ _ _
  have hbu : s.busy = b.st.busy := by
    rw [← hs]
    split
    · exact (setF_keeps _ _ _).2.1
    · exact (setF_keeps _ _ _).2.1
  simp only [hs]
  obtain ⟨v, o, hsv, hz⟩ := commit_surv hls
  have hsh := commitS_shape s f
  have hsm := hsame.trans (commitS_same s f)
  have hsq2 := commitS_seq s f
  have hfk : (commitS s f).2.1.ok := hsv.fok
  split
  · rename_i hc
    refine ⟨h'.ok.turn hsh _ true b.slot b.erase b.data b.record hsv.ok hsm hsv.lg (.inr rfl) h.ok.slot (fun e he => he) (.inr rfl), hfk, fun e => (by cases e), fun e => (by cases e), ⟨_, hsv.sto⟩, h'.er2, fun d hd => ?_, by show (commitS s f).1.seq ≤ n + 1; have := h.sq; omega, h'.ul⟩
    rw [hsh.p]
    exact h'.pg2 d hd
  · rename_i hc
    have hc0 : (commitS s f).2.2 = 0 := Classical.byContradiction hc
    obtain ⟨rfl, rfl⟩ := hz hc0
    obtain ⟨hlv, hbz⟩ := hsv.none_live
    have hbf2 : b.st.busy = false := by
      cases hbb : b.st.busy with
      | false => rfl
      | true =>
        have he : beginE s f = 14 := by
          unfold beginE
          rw [hls.br, u2, if_neg (by decide), hbu, hbb, if_pos rfl]
        have : (commitS s f).2.2 = 14 := by unfold commitS; rw [if_pos (by rw [he]; decide)]; exact he
        rw [this] at hc0
        cases hc0
    refine ⟨h'.ok.turn hsh _ (rdyB b f).broken _ b.erase b.data b.record hsv.ok hsm hsv.lg (.inl hlv.br) ?_ (fun e he => he) (.inr rfl), hfk, fun _ _ => ⟨hlv, ?_⟩, fun _ => hlv.up, ⟨_, hsv.sto⟩, h'.er2, fun d hd => ?_, by show (commitS s f).1.seq ≤ n + 1; have := h.sq; omega, h'.ul⟩
    · split
      · rw [hv1]; omega
      · rw [hv0]; omega
    · show b.record = _
      rw [hr, hbf2, hbz]
    · rw [hsh.p]
      exact h'.pg2 d hd

theorem recB_J {f : Fl} {b : Bk} {n : Int} (h : BkJ f b n) (hb : b.broken = false) (hd : f.down = false) {s : St} (hl : Live f s) (hsm : Same b.st s) (hsq : s.seq = b.st.seq) (hbu : s.busy = b.st.busy) (hsv : s.saved = b.st.saved) : BkJ f (recB b s f) n := by
  obtain ⟨hlb, hr⟩ := h.lv hb hd
  have hlv : Live f (beginS s f) := hl.begin
  have hre : (if beginE s f = 0 then true else b.record) = (beginS s f).busy := by
    split
    · rename_i he
      exact (begin_fields he).1.symm
    · rename_i he
      rw [hl.begin_no he, hbu]
      exact hr
  refine ⟨h.ok.turn (Shape.refl f) _ b.broken b.slot b.erase b.data _ hlv.ok (hsm.trans (beginS_same s f)) hlv.lgs (.inl hlv.br) h.ok.slot (fun e he => he) (.inr rfl), h.fo, fun _ _ => ⟨hlv, hre⟩, fun _ => hd, ⟨_, Sto.live hlv⟩, h.er2, h.pg2, ?_, h.ul⟩
  show (beginS s f).seq ≤ n
  rw [beginS_seq, hsq]
  exact h.sq
theorem confirmB_J {f : Fl} {b : Bk} {n : Int} (h : BkJ f b n) : BkJ f (confirmB b f).1 n := by
  have h' := h.rdy
  unfold confirmB
  split
  · exact h'
  rename_i hb
  split
  · exact h'
  split
  · exact h'
  have hbf : (rdyB b f).broken = false := by simpa using hb
  obtain ⟨u1, u2⟩ := rdy_up hbf
  obtain ⟨hl, _⟩ := h.lv u1 u2
  have hI : ∀ x ∈ [(b.slot : Int), 2, 0], I64 x := fun x hx => by
    have := h.ok.slot
    simp only [List.mem_cons, List.not_mem_nil, or_false] at hx
    rcases hx with rfl | rfl | rfl <;> (unfold I64; omega)
  obtain ⟨k1, k2, k3, k4, -⟩ := setN_keeps [(b.slot : Int), 2, 0] b.st 0
  exact recB_J h' hbf u2 (setN_live hl hI) (setN_same _ _ _) k3 k2 k4
theorem finishB_J {f : Fl} {b : Bk} {n : Int} (h : BkJ f b n) {c : Int} (hc : 0 ≤ c ∧ c < 4294967296) : BkJ f (finishB b f c).1 n := by
  have h' := h.rdy
  unfold finishB
  split
  · exact h'
  rename_i hb
  split
  · exact h'
  split
  · exact h'
  have hbf : (rdyB b f).broken = false := by simpa using hb
  obtain ⟨u1, u2⟩ := rdy_up hbf
  have hw : BkJ f { rdyB b f with upload := false } n := by
    have ho := h'.ok
    exact h'.with ⟨ho.ok, ho.sp, ho.fi, ho.bl, ho.lg, ho.br, ho.bk, ho.k1, ho.k8, ho.fw, ho.pg, ho.slot, ho.dst, ho.ver, ho.len, ho.fed, ho.er, ho.dt, ho.page⟩ rfl rfl rfl h'.er2 h'.pg2 (fun e => by cases e)
  split
  · exact hw
  obtain ⟨hl, _⟩ := h.lv u1 u2
  have hl8 : b.length ≤ 8192 := Nat.le_trans h.ok.len (by rw [h.ok.bk]; exact sizeF_le h.fo h.ok.k8)
  have hI1 : ∀ x ∈ [b.version, (b.length : Int), c], I64 x := fun x hx => by
    have := h.ok.ver
    simp only [List.mem_cons, List.not_mem_nil, or_false] at hx
    rcases hx with rfl | rfl | rfl <;> (unfold I64; omega)
  have hI2 : ∀ x ∈ [(b.dst : Int), 3], I64 x := fun x hx => by
    have := h.ok.dst
    simp only [List.mem_cons, List.not_mem_nil, or_false] at hx
    rcases hx with rfl | rfl <;> (unfold I64; omega)
  obtain ⟨k1, k2, k3, k4, -⟩ := setN_keeps [b.version, (b.length : Int), c] b.st (3 + 3 * b.dst)
  obtain ⟨j1, j2, j3, j4, -⟩ := setN_keeps [(b.dst : Int), 3] (setN b.st (3 + 3 * b.dst) [b.version, (b.length : Int), c]) 1
  exact recB_J hw hbf u2 (setN_live (setN_live hl hI1) hI2) ((setN_same _ _ _).trans (setN_same _ _ _)) (j3.trans k3) (j2.trans k2) (j4.trans k4)

theorem eraseF_code {f : Fl} {b : Int} (h : (eraseF f b).2 = 0) (hd : f.down = false) : (eraseF f b).1.down = false := by
  revert h
  unfold eraseF
  split
  · intro e; cases e
  split
  · intro e; cases e
  split
  · intro e; cases e
  · rename_i h1 h2 h3
    intro _
    rcases cutF_cases f with ⟨e, _⟩ | ⟨_, e⟩
    · exact absurd e h3
    · exact e.trans hd
theorem progF_code {f : Fl} {p : Int} {b : List Int} (h : (progF f p b).2 = 0) (hd : f.down = false) : (progF f p b).1.down = false := by
  revert h
  unfold progF
  split
  · rename_i h1; intro e; exact absurd e h1
  split
  · intro e; cases e
  split
  · intro e; cases e
  split
  · intro e; cases e
  · rename_i h1 h2 h3 h4
    intro _
    rcases cutF_cases f with ⟨e, _⟩ | ⟨_, e⟩
    · exact absurd e h4
    · exact e.trans hd

theorem stepB_J {f : Fl} {b : Bk} {n : Int} (h : BkJ f b n) : BkJ (stepB b f).2.1 (stepB b f).1 (n + 1) := by
  have h' := h.rdy
  unfold stepB
  split
  · exact h'.more (by omega)
  rename_i hb
  have hbf : (rdyB b f).broken = false := by simpa using hb
  obtain ⟨u1, u2⟩ := rdy_up hbf
  obtain ⟨hl, hr⟩ := h.lv u1 u2
  have hfi : b.st.first = b.first := h.ok.fi
  have hbl : b.st.blocks = 2 := h.ok.bl
  have hsq : b.st.seq ≤ n + 1 := by have := h.sq; omega
  cases he : b.erase with
  | cons e l =>
    simp only
    obtain ⟨x1, x2⟩ := h.er2 e (by rw [he]; simp)
    obtain ⟨E, rfl⟩ : ∃ E : Nat, e = E := ⟨e.toNat, by omega⟩
    have hok := eraseF_ok (f := f) (block := (E : Int)) h.fo
    have hsh := eraseF_shape f (E : Int)
    have hpg : ∀ x, b.st.first * f.pg ≤ x → x < (b.st.first + b.st.blocks) * f.pg → pageF (eraseF f (E : Int)).1 x = pageF f x := fun x h1 h2 => by
      refine eraseF_far h.fo ?_
      rw [hfi, hbl] at h2
      have : (b.first + 2) * f.pg ≤ E * f.pg := Nat.mul_le_mul_right _ (by omega)
      omega
    have hpp : ∀ d, b.data = some d → (b.first + 2) * (eraseF f (E : Int)).1.pg ≤ b.page ∧ b.page < (b.first + b.blocks) * (eraseF f (E : Int)).1.pg := fun d hd => by rw [hsh.p]; exact h.pg2 d hd
    have hsto : ∃ o, Sto (eraseF f (E : Int)).1 b.st o := ⟨_, .inl ⟨hl.nearUp hsh hok hpg, rfl⟩⟩
    split
    · exact ⟨h'.ok.turn hsh b.st true b.slot b.erase b.data b.record (hl.ok.shape hsh) (Same.refl _) h.ok.lg (.inr rfl) h.ok.slot (fun e he => he) (.inr rfl), hok, fun e => (by cases e), fun e => (by cases e), hsto, h.er2, hpp, hsq, h.ul⟩
    · rename_i hc
      have hc0 : (eraseF f (E : Int)).2 = 0 := Classical.byContradiction hc
      have hd2 := eraseF_code hc0 u2
      exact ⟨h'.ok.turn hsh b.st (rdyB b f).broken b.slot l b.data b.record (hl.ok.shape hsh) (Same.refl _) h.ok.lg (.inl hl.br) h.ok.slot (fun x hx => by show x ∈ b.erase; rw [he]; simp [hx]) (.inr rfl), hok, fun _ _ => ⟨hl.near hsh hok hd2 hpg, hr⟩, fun _ => hd2, hsto, fun x hx => h.er2 x (by rw [he]; simp only [List.mem_cons]; exact .inr hx), hpp, hsq, h.ul⟩
  | nil =>
    cases hd : b.data with
    | some d =>
      simp only
      obtain ⟨x1, x2⟩ := h.pg2 d hd
      obtain ⟨y1, y2⟩ := h.ok.dt d hd
      have hok := progF_ok (f := f) (page := (b.page : Int)) h.fo y2
      have hsh := progF_shape f (b.page : Int) d
      have hpg : ∀ x, b.st.first * f.pg ≤ x → x < (b.st.first + b.st.blocks) * f.pg → pageF (progF f (b.page : Int) d).1 x = pageF f x := fun x h1 h2 => by
        rw [hfi, hbl] at h2
        exact progF_far h.fo y1 (by omega)
      have hpp : ∀ d2, b.data = some d2 → (b.first + 2) * (progF f (b.page : Int) d).1.pg ≤ b.page ∧ b.page < (b.first + b.blocks) * (progF f (b.page : Int) d).1.pg := fun d2 hd2 => by rw [hsh.p]; exact h.pg2 d2 hd2
      have hsto : ∃ o, Sto (progF f (b.page : Int) d).1 b.st o := ⟨_, .inl ⟨hl.nearUp hsh hok hpg, rfl⟩⟩
      split
      · exact ⟨h'.ok.turn hsh b.st true b.slot b.erase b.data b.record (hl.ok.shape hsh) (Same.refl _) h.ok.lg (.inr rfl) h.ok.slot (fun e he => he) (.inr rfl), hok, fun e => (by cases e), fun e => (by cases e), hsto, h.er2, hpp, hsq, h.ul⟩
      · rename_i hc
        have hc0 : (progF f (b.page : Int) d).2 = 0 := Classical.byContradiction hc
        have hd2 := progF_code hc0 u2
        exact ⟨h'.ok.turn hsh b.st (rdyB b f).broken b.slot b.erase none b.record (hl.ok.shape hsh) (Same.refl _) h.ok.lg (.inl hl.br) h.ok.slot (fun e he => he) (.inl rfl), hok, fun _ _ => ⟨hl.near hsh hok hd2 hpg, hr⟩, fun _ => hd2, hsto, h.er2, fun d2 hd2 => (by cases hd2), hsq, h.ul⟩
    | none =>
      simp only
      split
      · rename_i hrc
        have hbu : b.st.busy = true := by rw [← hr]; exact hrc
        have hsh := stepS_shape b.st f
        have hsm := stepS_same b.st f
        have hsk := stepS_ok hl.ok
        have hfk := stepS_fok h.fo hl.ok
        have hsq2 : (stepS b.st f).1.seq ≤ n + 1 := by
          have e1 := stepS_seq b.st f
          have e2 := h.sq
          split at e1 <;> omega
        have hpp : ∀ d, b.data = some d → (b.first + 2) * (stepS b.st f).2.1.pg ≤ b.page ∧ b.page < (b.first + b.blocks) * (stepS b.st f).2.1.pg := fun d hd2 => by rw [hsh.p]; exact h.pg2 d hd2
        split
        · rename_i hc
          cases hl.step hbu with
          | more e1 e2 => exact absurd e2 hc
          | last e1 e2 => exact absurd e2 hc
          | dead e1 e2 e3 => exact ⟨h'.ok.turn hsh _ true b.slot b.erase b.data b.record hsk hsm e3.lgs (.inr rfl) h.ok.slot (fun e he => he) (.inr rfl), hfk, fun e => (by cases e), fun e => (by cases e), ⟨_, .inr ⟨e3, rfl⟩⟩, h.er2, hpp, hsq2, h.ul⟩
        · rename_i hc
          have hc0 : (stepS b.st f).2.2.2 = 0 := Classical.byContradiction hc
          cases hl.step hbu with
          | more e1 e2 e3 e4 => exact ⟨h'.ok.turn hsh _ (rdyB b f).broken b.slot b.erase b.data _ hsk hsm e3.lgs (.inl e3.br) h.ok.slot (fun e he => he) (.inr rfl), hfk, fun _ _ => ⟨e3, by show (!(stepS b.st f).2.2.1) = _; rw [e1, e4]; rfl⟩, fun _ => e3.up, ⟨_, Sto.live e3⟩, h.er2, hpp, hsq2, h.ul⟩
          | last e1 e2 e3 e4 => exact ⟨h'.ok.turn hsh _ (rdyB b f).broken b.slot b.erase b.data _ hsk hsm e3.lgs (.inl e3.br) h.ok.slot (fun e he => he) (.inr rfl), hfk, fun _ _ => ⟨e3, by show (!(stepS b.st f).2.2.1) = _; rw [e1, e4]; rfl⟩, fun _ => e3.up, ⟨_, Sto.live e3⟩, h.er2, hpp, hsq2, h.ul⟩
          | dead e1 e2 => rw [hc0] at e2; cases e2
      · exact h'.more (by omega)
end Go.Proofs.Ytjdknddnanopaaa
