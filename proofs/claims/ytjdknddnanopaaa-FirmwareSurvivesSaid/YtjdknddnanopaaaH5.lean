/-
  Firmware: the end of an installation, a confirmation; the state that they write. No program in sight.
-/
import Derived.Test.YtjdknddnanopaaaH4
namespace Go.Proofs.Ytjdknddnanopaaa
open Go.RowKit
set_option linter.unusedVariables false

/-- Values laid over a vector, from one on. -/
def setV (u : List Int) (i : Nat) : List Int → List Int
  | [] => u
  | v :: l => setV (u.set i v) (i + 1) l
theorem setN_staged : ∀ (l : List Int) {s : St} {i : Nat}, setOk s i l → (setN s i l).staged = setV s.staged i l
  | [], s, i, h => rfl
  | v :: l, s, i, h => by
    obtain ⟨h1, h2⟩ := h
    show (setN (setF s i v) (i + 1) l).staged = setV (s.staged.set i v) (i + 1) l
    rw [setN_staged l h2]
    unfold setF
    rw [if_pos h1, Int.toNat_natCast]
/-- The state that Finish writes. -/
def finV (u : List Int) (D : Nat) (v : Int) (n : Nat) (c : Int) : List Int := setV (setV u (3 + 3 * D) [v, (n : Int), c]) 1 [(D : Int), 3]
/-- The state that Confirm writes. -/
def conV (u : List Int) (s : Nat) : List Int := setV u 0 [(s : Int), 2, 0]

/-- The same pages, the same bytes. -/
theorem img_congr {f g : Fl} {a n m : Nat} (hm : n ≤ 64 * m) (h : ∀ x, a ≤ x → x < a + m → pageF g x = pageF f x) : (g.img.drop (64 * a)).take n = (f.img.drop (64 * a)).take n := by
  apply List.ext_getElem?
  intro i
  rw [List.getElem?_take, List.getElem?_take]
  split
  · rename_i hi
    have hp : (pageF g (a + i / 64))[i % 64]? = (pageF f (a + i / 64))[i % 64]? := by rw [h _ (by omega) (by omega)]
    unfold pageF at hp
    rw [List.getElem?_take, List.getElem?_take, if_pos (Nat.mod_lt _ (by omega)), if_pos (Nat.mod_lt _ (by omega)), List.getElem?_drop, List.getElem?_drop] at hp
    rw [List.getElem?_drop, List.getElem?_drop, show 64 * a + i = 64 * (a + i / 64) + i % 64 by omega]
    exact hp
  · rfl
theorem imgB_congr {f g : Fl} {b c : Bk} {s n : Nat} (hp : g.pg = f.pg) (hb : blkB c s = blkB b s) (hn : n ≤ b.k * f.pg * 64) (h : ∀ x, InSl f b s x → pageF g x = pageF f x) : imgB g c s n = imgB f b s n := by
  unfold imgB
  rw [hb, hp]
  refine img_congr (m := b.k * f.pg) (by omega) fun x h1 h2 => h x ⟨h1, ?_⟩
  rw [Nat.add_mul]
  exact h2

/-- What the end of an installation leaves. -/
structure EndR (f : Fl) (b : Bk) (n : Int) (u' : List Int) (q : Bk × Fl × Bool) : Prop where
  J : BkJ q.2.1 q.1 (n + 40)
  sh : Shape f q.2.1
  far : ∀ x, x < b.first * f.pg ∨ (b.first + 2) * f.pg ≤ x → pageF q.2.1 x = pageF f x
  slot : q.1.slot = b.slot
  first : q.1.first = b.first
  blocks : q.1.blocks = b.blocks
  out : (q.2.2 = true ∧ Rest q.2.1 q.1 ∧ Surv q.2.1 q.1.st u' none) ∨ (q.2.2 = false ∧ ¬ f.up ∧ Surv q.2.1 q.1.st b.st.saved (some u'))
  up : f.up → q.2.1.up

theorem rec_end {f : Fl} {b : Bk} {n : Int} (h : BkJ f b n) (hr : Rest f b) (hbu : b.st.busy = false) (hsq : n ≤ 1000000) {s : St} (hJ : BkJ f (recB b s f) n) (hsb : s.busy = false) (hbr : s.broken = false) (hss : s.saved = b.st.saved) (hseq : s.seq = b.st.seq) (hl : Live f s) {u' : List Int} (hu : s.staged = u') (hne : u' ≠ b.st.saved) : EndR f b n u' (stepsB 40 (recB b s f) f) := by
  have hdn := h.dn hr.br
  have he : beginE s f = 0 := by
    have h1 := hl.ok.q1
    have h2 := hl.ok.tl
    have h3 := hl.ok.n1
    have h4 := hl.ok.n2
    have h5 := h.sq
    unfold beginE
    rw [hbr, hdn, if_neg (by decide), hsb, if_neg (by decide), if_neg (by rw [hu, hss]; exact hne)]
    unfold encE
    rw [if_neg (by omega)]
  obtain ⟨e1, e2, e3, e4, _⟩ := begin_fields he
  have hrc : (recB b s f).record = true := by unfold recB; rw [he]; rfl
  have hlf : leftS (recB b s f).st ≤ 40 := by
    have : leftS (beginS s f) ≤ 10 := begin_left hl.ok he
    show leftS (beginS s f) ≤ 40
    omega
  have hR := stepsB_rec 40 hJ hr.br hr.er hr.da hrc hlf
  refine ⟨hR.J, hR.sh, hR.far, hR.sm.slot, hR.sm.first, hR.sm.blocks, ?_, hR.up⟩
  have hv : (recB b s f).st.values = u' := e2.trans hu
  have hsv : (recB b s f).st.saved = b.st.saved := e3.trans hss
  rcases hR.ok with ⟨r1, r2, r3⟩ | ⟨r1, r2, r3⟩
  · rw [hv] at r3
    exact .inl ⟨r1, r2, r3⟩
  · rw [hv, hsv] at r3
    exact .inr ⟨r1, r2, r3⟩

theorem fin_ne {u : List Int} (hl : u.length = 9) (ht : u[1]?.getD 0 = 2) {D : Nat} (hD : D ≤ 1) (v : Int) (n : Nat) (c : Int) : finV u D v n c ≠ u := by
  match u, hl with
  | [a, t, k, v0, l0, c0, v1, l1, c1], _ =>
    simp only [List.getElem?_cons_succ, List.getElem?_cons_zero, Option.getD_some] at ht
    match D, hD with
    | 0, _ =>
      intro e
      simp [finV, setV] at e
      omega
    | 1, _ =>
      intro e
      simp [finV, setV] at e
      omega
theorem inst_end {f0 f : Fl} {b0 b : Bk} {n v : Int} {img : List Int} (h0 : BkOk f0 b0) (h : Fil f0 b0 n v img (nPages img.length) f b) (hby : Bytes img) (h1 : 1 ≤ img.length) (h2 : img.length ≤ sizeF f0 b0.blocks) (hbu : b0.st.busy = false) (hst : b0.st.staged = b0.st.saved) (ht : savB b0 1 = 2) (hsq : n ≤ 1000000) :
    (finishB b f (sumZ img)).2 = 0 ∧ imgB f b0 (1 - (savB b0 0).toNat) img.length = img ∧ EndR f b n (finV b0.st.saved (1 - (savB b0 0).toNat) v img.length (sumZ img)) (stepsB 40 (finishB b f (sumZ img)).1 f) := by
  have hdn := h.J.dn h.rs.br
  have hrd := rdyB_up h.rs.br hdn
  obtain ⟨D, hD⟩ : ∃ D, 1 - (savB b0 0).toNat = D := ⟨_, rfl⟩
  have hD1 : D ≤ 1 := by omega
  have hpg := h.sh.p
  have hfed : b.fed = b.length := by rw [h.fed, h.len]; unfold nPages; omega
  have hblk : blkB b D = blkB b0 D := by
    unfold blkB Bk.k
    rw [h.first, h.blocks]
  have him : imgB f b0 D img.length = img := by
    unfold imgB
    rw [hpg]
    refine img_of_pages fun i hi => ?_
    have := h.pgs i hi hi
    rw [hD] at this
    exact this
  have him2 : imgB f b b.dst b.length = img := by
    rw [h.dst, hD, h.len]
    unfold imgB at him ⊢
    rw [hblk]
    exact him
  rw [hD]
  have hc := sumZ_u32 img
  have hsb : b.st.broken = false := by rcases h.J.ok.br with e | e; exact e; rw [h.rs.br] at e; cases e
  have hdst : b.dst ≤ 1 := by rw [h.dst, hD]; exact hD1
  obtain ⟨k1, k2⟩ := finish_ok h.J.ok hsb hdst hc
  have hq : finishB b f (sumZ img) = (recB { b with upload := false } (finishS b (sumZ img)) f, 0) := by
    unfold finishB
    rw [hrd, if_neg (by rw [h.rs.br]; decide), if_neg (by rw [h.up]; simp [hfed]), if_neg (by rw [h.rs.work]; decide), if_neg (by rw [him2]; simp)]
  have hJ := finishB_J h.J hc
  have hl9 : b0.st.saved.length = 9 := by rw [h0.ok.sl, h0.sp]; rfl
  have hus : (finishS b (sumZ img)).staged = finV b0.st.saved D v img.length (sumZ img) := by
    unfold finishS finV
    rw [setN_staged _ k2, setN_staged _ k1, h.st, hst, h.dst, h.ver, h.len, hD]
  have hlv : Live f b.st := (h.J.lv h.rs.br hdn).1
  obtain ⟨m1, m2, m3, m4, -⟩ := setN_keeps [b.version, (b.length : Int), sumZ img] b.st (3 + 3 * b.dst)
  obtain ⟨j1, j2, j3, j4, -⟩ := setN_keeps [(b.dst : Int), 3] (setN b.st (3 + 3 * b.dst) [b.version, (b.length : Int), sumZ img]) 1
  have hl8 : b.length ≤ 8192 := Nat.le_trans h.J.ok.len (by rw [h.J.ok.bk]; exact sizeF_le h.J.fo h.J.ok.k8)
  have hI1 : ∀ x ∈ [b.version, (b.length : Int), sumZ img], I64 x := fun x hx => by
    have := h.J.ok.ver
    have := hc.1
    have := hc.2
    simp only [List.mem_cons, List.not_mem_nil, or_false] at hx
    rcases hx with rfl | rfl | rfl <;> (unfold I64; omega)
  have hI2 : ∀ x ∈ [(b.dst : Int), 3], I64 x := fun x hx => by
    simp only [List.mem_cons, List.not_mem_nil, or_false] at hx
    rcases hx with rfl | rfl <;> (unfold I64; omega)
  rw [hq] at hJ ⊢
  refine ⟨rfl, him, ?_⟩
  have hw : BkJ f { b with upload := false } n := by
    have ho := h.J.ok
    exact h.J.with ⟨ho.ok, ho.sp, ho.fi, ho.bl, ho.lg, ho.br, ho.bk, ho.k1, ho.k8, ho.fw, ho.pg, ho.slot, ho.dst, ho.ver, ho.len, ho.fed, ho.er, ho.dt, ho.page⟩ rfl rfl rfl h.J.er2 h.J.pg2 (fun e => by cases e)
  have hR := rec_end (b := { b with upload := false }) (s := finishS b (sumZ img)) hw ⟨h.rs.br, h.rs.er, h.rs.da, h.rs.rc⟩ (by show b.st.busy = false; rw [h.st]; exact hbu) hsq hJ (by rw [show (finishS b (sumZ img)).busy = b.st.busy from j2.trans m2, h.st]; exact hbu) (j1.trans (m1.trans hsb)) (j4.trans m4) (j3.trans m3) (setN_live (setN_live hlv hI1) hI2) hus (by
    show _ ≠ b.st.saved
    rw [h.st]
    exact fin_ne hl9 ht hD1 _ _ _)
  exact ⟨hR.J, hR.sh, hR.far, hR.slot, hR.first, hR.blocks, hR.out, hR.up⟩

/-- What an installation leaves. -/
structure InstR (f0 : Fl) (b0 : Bk) (n : Int) (img : List Int) (D : Nat) (u' : List Int) (q : Bk × Fl × Bool) : Prop where
  J : BkJ q.2.1 q.1 (n + 40)
  sh : Shape f0 q.2.1
  first : q.1.first = b0.first
  blocks : q.1.blocks = b0.blocks
  far : ∀ x, x < b0.first * f0.pg ∨ (b0.first + 2) * f0.pg ≤ x → ¬ InSl f0 b0 D x → pageF q.2.1 x = pageF f0 x
  out : (q.2.2 = false ∧ ¬ f0.up ∧ q.1.st = b0.st) ∨
    (imgB q.2.1 b0 D img.length = img ∧ ((q.2.2 = true ∧ Rest q.2.1 q.1 ∧ Surv q.2.1 q.1.st u' none) ∨ (q.2.2 = false ∧ ¬ f0.up ∧ Surv q.2.1 q.1.st b0.st.saved (some u'))))
  up : f0.up → q.2.1.up
theorem install_r {f : Fl} {b : Bk} {n : Int} (h : BkJ f b n) (hr : Rest f b) (hs : b.slot ≠ 2) (ht : savB b 1 = 2) (hu : b.upload = false) (hbu : b.st.busy = false) (hst : b.st.staged = b.st.saved) (hsq : n ≤ 1000000) {v : Int} (hv : 1 ≤ v ∧ v ≤ 1073741824) {img : List Int} (hby : Bytes img) (h1 : 1 ≤ img.length) (h2 : img.length ≤ sizeF f b.blocks) :
    InstR f b n img (1 - (savB b 0).toNat) (finV b.st.saved (1 - (savB b 0).toNat) v img.length (sumZ img)) (installB v img b f) := by
  obtain ⟨a1, a2, a3⟩ := inst_begin h hr hs ht hu hv h1 h2
  obtain ⟨q, hq⟩ : ∃ q, stepsB 40 (beginB b f v img.length).1 f = q := ⟨_, rfl⟩
  unfold installB
  rw [if_neg (by rw [a1]; simp)]
  rw [hq] at a2 a3
  simp only [hq]
  rcases a2 with ⟨b1, b2⟩ | ⟨b1, b2, b3⟩
  rotate_left
  · rw [if_pos b1]
    exact ⟨b3.J.more (by omega), b3.sh, b3.first, b3.blocks, fun x _ hx => b3.far x hx, .inl ⟨b1, b2, b3.st⟩, a3⟩
  rw [if_neg (by rw [b1]; decide)]
  obtain ⟨c1, c2⟩ := inst_feeds h.ok hby h2 (nPages img.length) 0 b2 (by omega)
  obtain ⟨r, hr2⟩ : ∃ r, feedsB img (nPages img.length) 0 q.1 q.2.1 = r := ⟨_, rfl⟩
  rw [hr2] at c1 c2
  simp only [hr2]
  rcases c1 with ⟨d1, d2⟩ | ⟨d1, d2, d3⟩
  rotate_left
  · rw [if_pos d1]
    exact ⟨d3.J.more (by omega), d3.sh, d3.first, d3.blocks, fun x _ hx => d3.far x hx, .inl ⟨d1, fun hup => d2 (a3 hup), d3.st⟩, fun hup => c2 (a3 hup)⟩
  rw [if_neg (by rw [d1]; decide)]
  obtain ⟨e1, e2, e3⟩ := inst_end h.ok d2 hby h1 h2 hbu hst ht hsq
  unfold endB
  rw [if_neg (by rw [e1]; simp)]
  have hpg := d2.sh.p
  have hfi := d2.first
  refine ⟨e3.J, d2.sh.trans e3.sh, e3.first.trans hfi, e3.blocks.trans d2.blocks, fun x hx hx2 => ?_, .inr ⟨?_, ?_⟩, fun hup => e3.up (c2 (a3 hup))⟩
  · rw [e3.far x (by rw [hfi, hpg]; exact hx)]
    exact d2.far x hx2
  · rw [← e2]
    rw [show img.length = img.length from rfl]
    have hk : img.length ≤ b.k * r.2.1.pg * 64 := by rw [hpg]; exact h2
    have : ∀ l : List Int, l = img → imgB (stepsB 40 (finishB r.1 r.2.1 (sumZ img)).1 r.2.1).2.1 b (1 - (savB b 0).toNat) img.length = imgB r.2.1 b (1 - (savB b 0).toNat) img.length := fun l _ =>
      imgB_congr e3.sh.p rfl hk (fun x hx => e3.far x (.inr (by
        have h3 := Nat.mul_le_mul_right r.2.1.pg (show r.1.first + 2 ≤ blkB b (1 - (savB b 0).toNat) by rw [hfi]; unfold blkB; omega)
        have := hx.1
        omega)))
    rw [e2]
    exact (this img rfl).trans e2
  · rcases e3.out with ⟨o1, o2, o3⟩ | ⟨o1, o2, o3⟩
    · exact .inl ⟨o1, o2, o3⟩
    · rw [d2.st] at o3
      exact .inr ⟨o1, fun hup => o2 (c2 (a3 hup)), o3⟩
end Go.Proofs.Ytjdknddnanopaaa
