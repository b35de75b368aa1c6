/-
  Firmware: erasing and programming without a power failure; the state's parameters; Format as a value. No program in sight.
-/
import Derived.Test.YtjdknddnanopaaaPlainK
namespace Go.Proofs.Ytjdknddnanopaaa
open Go.RowKit
set_option linter.unusedVariables false

theorem eraseF_up {f : Fl} (h : f.up) {B : Nat} (hB : B < f.wear.length) : (eraseF f (B : Int)).2 = 0 ∧ (eraseF f (B : Int)).1.up ∧ (eraseF f (B : Int)).1.pg = f.pg ∧ (eraseF f (B : Int)).1.wear.length = f.wear.length ∧
    (eraseF f (B : Int)).1.picks = f.picks ∧ ∀ x, pageF (eraseF f (B : Int)).1 x = if B * f.pg ≤ x ∧ x < B * f.pg + f.pg then blankP else pageF f x := by
  have hp := erase_pages h.ok h.dn hB
  have hk := eraseF_ok (f := f) (block := (B : Int)) h.ok
  have key : (eraseF f (B : Int)).2 = 0 ∧ (eraseF f (B : Int)).1.fuse = -1 ∧ (eraseF f (B : Int)).1.picks = f.picks := by
    unfold eraseF
    rw [if_neg (by rw [h.dn]; decide), if_neg (by omega), cutF_up h.fu, if_neg (by simp)]
    exact ⟨rfl, h.fu, rfl⟩
  rcases hp.ok with ⟨c1, c2, c3⟩ | ⟨c1, _, _⟩
  · exact ⟨c1, ⟨hk, c2, key.2.1⟩, hp.pg, by rw [hp.wear, bumpF_length], key.2.2, c3⟩
  · rw [key.1] at c1; cases c1

theorem progF_up {f : Fl} (h : f.up) {P : Nat} (hP : P < f.wear.length * f.pg) {b : List Int} (hl : b.length = 64) (hb : Bytes b) (hbl : pageF f P = blankP) : (progF f (P : Int) b).2 = 0 ∧ (progF f (P : Int) b).1.up ∧ (progF f (P : Int) b).1.pg = f.pg ∧
    (progF f (P : Int) b).1.wear.length = f.wear.length ∧ (progF f (P : Int) b).1.picks = f.picks ∧ ∀ x, pageF (progF f (P : Int) b).1 x = if x = P then b else pageF f x := by
  have hp := prog_pages h.ok h.dn hP hl hbl
  have hk := progF_ok (f := f) (page := (P : Int)) h.ok hb
  have hbk : blankF (pageF f P) = true := (blankF_blank (by rw [hbl, blankP_len])).2 hbl
  have h0 : atF f (P : Int) = 0 := by unfold atF; rw [h.dn, if_neg (by decide), if_neg (by omega)]
  have key : (progF f (P : Int) b).2 = 0 ∧ (progF f (P : Int) b).1.fuse = -1 ∧ (progF f (P : Int) b).1.picks = f.picks := by
    unfold progF
    rw [if_neg (by rw [h0]; decide), if_neg (by omega), Int.toNat_natCast, if_neg (by rw [hbk]; decide), cutF_up h.fu, if_neg (by simp)]
    exact ⟨rfl, h.fu, rfl⟩
  rcases hp.ok with ⟨c1, c2, c3⟩ | ⟨c1, _, _⟩
  · exact ⟨c1, ⟨hk, c2, key.2.1⟩, hp.pg, by rw [hp.wear], key.2.2, c3⟩
  · rw [key.1] at c1; cases c1

/-- The first blocks of a region are erased. -/
def eraseN (f : Fl) (a : Nat) : Nat → Fl
  | 0 => f
  | n + 1 => (eraseF (eraseN f a n) ((a + n : Nat) : Int)).1
structure EraN (f g : Fl) (a n : Nat) : Prop where
  up : g.up
  pg : g.pg = f.pg
  wl : g.wear.length = f.wear.length
  pk : g.picks = f.picks
  page : ∀ x, pageF g x = if a * f.pg ≤ x ∧ x < (a + n) * f.pg then blankP else pageF f x
theorem eraseN_up {f : Fl} (h : f.up) {a : Nat} : ∀ {n : Nat}, a + n ≤ f.wear.length → EraN f (eraseN f a n) a n
  | 0, _ => ⟨h, rfl, rfl, rfl, fun x => by rw [if_neg (by rw [Nat.add_zero]; omega)]; rfl⟩
  | n + 1, hn => by
    have ih := eraseN_up h (a := a) (n := n) (by omega)
    obtain ⟨e0, e1, e2, e3, e4, e5⟩ := eraseF_up ih.up (B := a + n) (by rw [ih.wl]; omega)
    refine ⟨e1, e2.trans ih.pg, e3.trans ih.wl, e4.trans ih.pk, fun x => ?_⟩
    show pageF (eraseF (eraseN f a n) ((a + n : Nat) : Int)).1 x = _
    rw [e5, ih.page, ih.pg]
    have e : (a + (n + 1)) * f.pg = (a + n) * f.pg + f.pg := by rw [← Nat.add_assoc, Nat.add_mul (a + n), Nat.one_mul]
    have e' : a * f.pg ≤ (a + n) * f.pg := Nat.mul_le_mul_right _ (by omega)
    rw [e]
    by_cases hx : (a + n) * f.pg ≤ x ∧ x < (a + n) * f.pg + f.pg
    · rw [if_pos hx, if_pos (by omega)]
    · rw [if_neg hx]
      by_cases hy : a * f.pg ≤ x ∧ x < (a + n) * f.pg
      · rw [if_pos hy, if_pos (by omega)]
      · rw [if_neg hy, if_neg (by omega)]
theorem eraseN_code {f : Fl} (h : f.up) {a n m : Nat} (hn : a + n ≤ f.wear.length) (hm : m < n) : (eraseF (eraseN f a m) ((a + m : Nat) : Int)).2 = 0 := by
  have ih := eraseN_up h (a := a) (n := m) (by omega)
  exact (eraseF_up ih.up (B := a + m) (by rw [ih.wl]; omega)).1

/-- A page that begins with bytes. -/
def padB (b : List Int) : List Int := b ++ List.replicate (64 - b.length) 255
def chunkB (img : List Int) (k : Nat) : List Int := (img.drop (64 * k)).take 64
def nPages (n : Nat) : Nat := (n + 63) / 64
theorem padB_length {b : List Int} (h : b.length ≤ 64) : (padB b).length = 64 := by unfold padB; rw [List.length_append, List.length_replicate]; omega
theorem padB_bytes {b : List Int} (h : Bytes b) : Bytes (padB b) := by
  intro x hx
  unfold padB at hx
  rcases List.mem_append.1 hx with hx | hx
  · exact h x hx
  · rw [List.mem_replicate] at hx
    omega
theorem chunkB_length (img : List Int) (k : Nat) : (chunkB img k).length = min 64 (img.length - 64 * k) := by unfold chunkB; rw [List.length_take, List.length_drop]
theorem chunkB_bytes {img : List Int} (h : Bytes img) (k : Nat) : Bytes (chunkB img k) := fun x hx => h x (List.mem_of_mem_drop (List.mem_of_mem_take hx))

/-- The first pages of an image are programmed. -/
def progN (f : Fl) (a : Nat) (img : List Int) : Nat → Fl
  | 0 => f
  | n + 1 => (progF (progN f a img n) ((a + n : Nat) : Int) (padB (chunkB img n))).1
structure ProgN (f g : Fl) (a : Nat) (img : List Int) (n : Nat) : Prop where
  up : g.up
  pg : g.pg = f.pg
  wl : g.wear.length = f.wear.length
  pk : g.picks = f.picks
  page : ∀ x, pageF g x = if a ≤ x ∧ x < a + n then padB (chunkB img (x - a)) else pageF f x
theorem progN_up {f : Fl} (h : f.up) {a : Nat} {img : List Int} (hi : Bytes img) : ∀ {n : Nat}, a + n ≤ f.wear.length * f.pg → (∀ x, a ≤ x → x < a + n → pageF f x = blankP) → ProgN f (progN f a img n) a img n
  | 0, _, _ => ⟨h, rfl, rfl, rfl, fun x => by rw [if_neg (by omega)]; rfl⟩
  | n + 1, hn, hb => by
    have ih := progN_up h hi (a := a) (n := n) (by omega) (fun x h1 h2 => hb x h1 (by omega))
    have hbl : pageF (progN f a img n) (a + n) = blankP := by rw [ih.page, if_neg (by omega)]; exact hb _ (by omega) (by omega)
    obtain ⟨e0, e1, e2, e3, e4, e5⟩ := progF_up ih.up (P := a + n) (by rw [ih.wl, ih.pg]; omega) (padB_length (by rw [chunkB_length]; omega)) (padB_bytes (chunkB_bytes hi n)) hbl
    refine ⟨e1, e2.trans ih.pg, e3.trans ih.wl, e4.trans ih.pk, fun x => ?_⟩
    show pageF (progF (progN f a img n) ((a + n : Nat) : Int) (padB (chunkB img n))).1 x = _
    rw [e5, ih.page]
    by_cases hx : x = a + n
    · rw [if_pos hx, if_pos (by omega), hx, show a + n - a = n by omega]
    · rw [if_neg hx]
      by_cases hy : a ≤ x ∧ x < a + n
      · rw [if_pos hy, if_pos (by omega)]
      · rw [if_neg hy, if_neg (by omega)]
theorem progN_code {f : Fl} (h : f.up) {a n m : Nat} {img : List Int} (hi : Bytes img) (hn : a + n ≤ f.wear.length * f.pg) (hb : ∀ x, a ≤ x → x < a + n → pageF f x = blankP) (hm : m < n) : (progF (progN f a img m) ((a + m : Nat) : Int) (padB (chunkB img m))).2 = 0 := by
  have ih := progN_up h hi (a := a) (n := m) (by omega) (fun x h1 h2 => hb x h1 (by omega))
  have hbl : pageF (progN f a img m) (a + m) = blankP := by rw [ih.page, if_neg (by omega)]; exact hb _ (by omega) (by omega)
  exact (progF_up ih.up (P := a + m) (by rw [ih.wl, ih.pg]; omega) (padB_length (by rw [chunkB_length]; omega)) (padB_bytes (chunkB_bytes hi m)) hbl).1

/-- The parameters of the state. -/
def fwSpec (n : Nat) : List Par :=
  [⟨0, 1, 0⟩, ⟨0, 2, 2⟩, ⟨0, 3, 0⟩, ⟨0, 1073741824, 0⟩, ⟨0, n, 0⟩, ⟨0, 4294967295, 0⟩, ⟨0, 1073741824, 0⟩, ⟨0, n, 0⟩, ⟨0, 4294967295, 0⟩]
theorem fwSpec_ok {n : Nat} (h : n ≤ 1000000) : ∀ p ∈ fwSpec n, p.ok := by
  intro p hp
  simp only [fwSpec, List.mem_cons, List.not_mem_nil, or_false] at hp
  rcases hp with rfl | rfl | rfl | rfl | rfl | rfl | rfl | rfl | rfl <;> exact ⟨by unfold I64; simp only; omega, by unfold I64; simp only; omega, by unfold I64; simp only; omega⟩
theorem fwSpec_bad (n : Nat) : (fwSpec n).any badP = false := by
  simp only [fwSpec, badP, List.any_cons, List.any_nil, Bool.or_false, Bool.or_eq_false_iff, decide_eq_false_iff_not]
  omega
/-- The bytes of a slot. -/
def sizeF (f : Fl) (blocks : Nat) : Nat := (blocks - 2) / 2 * f.pg * 64

/-- The number of a region's error. -/
def regE (f : Fl) (first blocks : Int) : Int :=
  if f.down = true then 20 else if blocks % 2 ≠ 0 ∨ blocks < 4 ∨ 18 < blocks then 3 else if first < 0 ∨ (f.wear.length : Int) - blocks < first then 10 else if f.pg < 2 then 11 else 0
theorem regE_zero {f : Fl} {first blocks : Int} (h : regE f first blocks = 0) : f.down = false ∧ ∃ a k : Nat, first = a ∧ blocks = ((2 * k + 2 : Nat) : Int) ∧ 1 ≤ k ∧ k ≤ 8 ∧ a + (2 * k + 2) ≤ f.wear.length ∧ 2 ≤ f.pg := by
  unfold regE at h
  split at h
  · cases h
  rename_i h1
  split at h
  · cases h
  rename_i h2
  split at h
  · cases h
  rename_i h3
  split at h
  · cases h
  rename_i h4
  refine ⟨by simpa using h1, first.toNat, (blocks.toNat - 2) / 2, by omega, ?_, ?_, ?_, ?_, by omega⟩ <;> omega
theorem reg_open {f : Fl} {first blocks : Int} (h : regE f first blocks = 0) (n : Nat) : openE f first ((2 : Nat) : Int) (fwSpec n) = 0 := by
  obtain ⟨hd, a, k, rfl, rfl, k1, k8, hw, hp⟩ := regE_zero h
  unfold openE
  rw [if_neg (by rw [hd]; decide), if_neg (by omega), if_neg (by omega), if_neg (by simp [fwSpec]), if_neg (by have := fwSpec_bad n; unfold badP at this; rw [this]; decide), if_neg (by simp only [fwSpec, List.length_cons, List.length_nil, pgs]; omega)]

/-- The parameters that Format stages. -/
def fmtS (f : Fl) (first n : Nat) (v m c : Int) : St := setF (setF (setF (openF f first 2 (fwSpec n)) 3 v) 4 m) 5 c
def fmtG (f : Fl) (first blocks : Nat) (img : List Int) : Fl := progN (eraseN f first blocks) ((first + 2) * f.pg) img (nPages img.length)
/-- Format: the memory, and the error of its last call. -/
def fmtC (f : Fl) (first blocks : Nat) (v c : Int) (img : List Int) : St × Fl × Int :=
  commitS (fmtS (fmtG f first blocks img) first (sizeF f blocks) v img.length c) (fmtG f first blocks img)

theorem Surv.firstR {f : Fl} {fi bl : Nat} {sp : List Par} (hf : f.ok) (hbl : ∀ x, fi * f.pg ≤ x → x < (fi + bl) * f.pg → pageF f x = blankP) (hs : ∀ p ∈ sp, p.ok) (he : openE f fi bl sp = 0) :
    Surv f (openF f fi bl sp) (sp.map Par.df) none ∧ Live f (openF f fi bl sp) ∧ (openF f fi bl sp).saved = sp.map Par.df ∧ (openF f fi bl sp).staged = sp.map Par.df ∧ (openF f fi bl sp).busy = false ∧ (openF f fi bl sp).slot = -1 ∧ (openF f fi bl sp).block = 0 ∧ (openF f fi bl sp).spec = sp ∧ (openF f fi bl sp).first = fi ∧ (openF f fi bl sp).blocks = bl ∧ (openF f fi bl sp).seq = 0 ∧ (openF f fi bl sp).broken = false := by
  obtain ⟨hd, b2, b16, f0, f1, n1, n48, hbad, hkp⟩ := openE_zero he
  have hok := openF_ok hs he
  obtain ⟨s0, hs0⟩ : ∃ s0, initS fi bl sp = s0 := ⟨_, rfl⟩
  have hbad0 : ∀ b j, b < s0.blocks → j < slotsS s0 f → recS f s0 b j = none := by
    intro b j h1 h2
    have hk : s0.k = pgs sp.length := by rw [← hs0]; rfl
    have hk1 := pgs_pos n1
    have hT : slotsS s0 f = f.pg / pgs sp.length := by rw [← hs0]; rfl
    have hBl : s0.blocks = bl := by rw [← hs0]; rfl
    rw [hBl] at h1
    rw [hT] at h2
    have h3 : (j + 1) * pgs sp.length ≤ f.pg := by
      have := Nat.mul_le_mul_right (pgs sp.length) (show j + 1 ≤ f.pg / pgs sp.length by omega)
      exact Nat.le_trans this (Nat.div_mul_le_self _ _)
    rw [Nat.add_mul, Nat.one_mul] at h3
    have h4 : (fi + b + 1) * f.pg ≤ (fi + bl) * f.pg := Nat.mul_le_mul_right _ (by omega)
    have h5 : fi * f.pg ≤ (fi + b) * f.pg := Nat.mul_le_mul_right _ (by omega)
    rw [Nat.add_mul (fi + b), Nat.one_mul] at h4
    have hp : pageS s0 f b j = (fi + b) * f.pg + j * pgs sp.length := by unfold pageS; rw [hk, ← hs0]; rfl
    refine recS_bad (i := 0) (by omega) ?_
    rw [hp, hbl _ (by omega) (by omega)]
    exact blankP_bad
  have hn : Newest f s0 none := hbad0
  have hall := openAll_newest (f := f) (s0 := s0) (by rw [← hs0]; rfl) hn
  simp only at hall
  have ht : openF f fi bl sp = { s0 with staged := s0.saved } := by
    unfold openF
    rw [hs0, show f.pg / pgs sp.length = slotsS s0 f by rw [← hs0]; rfl, show bl = s0.blocks by rw [← hs0]; rfl, hall]
  rw [ht] at hok ⊢
  have e1 : s0.slot = -1 := by rw [← hs0]; rfl
  have e2 : s0.saved = sp.map Par.df := by rw [← hs0]; rfl
  have e3 : s0.block = 0 := by rw [← hs0]; rfl
  have e4 : s0.busy = false := by rw [← hs0]; rfl
  have e5 : s0.broken = false := by rw [← hs0]; rfl
  have e6 : s0.first = fi := by rw [← hs0]; rfl
  have e7 : s0.blocks = bl := by rw [← hs0]; rfl
  have e8 : s0.spec = sp := by rw [← hs0]; rfl
  have e9 : s0.seq = 0 := by rw [← hs0]; rfl
  have hcur : curS { s0 with staged := s0.saved } = none := by unfold curS; rw [if_pos e1]
  have hlive : Live f { s0 with staged := s0.saved } := by
    refine ⟨hf, hok, hd, e5, fun x h1 h2 => ?_, ?_, fun _ => ⟨e9, e3, by simp only [e8]; exact e2⟩, by simp only [e8, e2]; exact lg_df hbad, by simp only [e8, e2]; exact lg_df hbad, fun e => by simp only [e4] at e; cases e⟩
    · simp only [e6, e7] at h1 h2
      rw [hbl x h1 h2]
      exact Trn.blank
    · rw [hcur]
      exact hn.congr rfl rfl rfl (fun b j _ _ => recS_congr rfl rfl rfl (fun _ _ => rfl))
  exact ⟨⟨e2, .inl ⟨hlive, by simp only [e4]; simp⟩⟩, hlive, e2, e2, e4, e1, e3, e8, e6, e7, e9, e5⟩

/-- Without a failure the memory stays up. -/
theorem eraseF_still {f : Fl} (h : f.down = false ∧ f.fuse = -1) (b : Int) : (eraseF f b).1.down = false ∧ (eraseF f b).1.fuse = -1 := by
  unfold eraseF
  split
  · exact h
  split
  · exact h
  rw [cutF_up h.2, if_neg (by simp)]
  exact h
theorem progF_still {f : Fl} (h : f.down = false ∧ f.fuse = -1) (p : Int) (b : List Int) : (progF f p b).1.down = false ∧ (progF f p b).1.fuse = -1 := by
  unfold progF
  split
  · exact h
  split
  · exact h
  split
  · exact h
  rw [cutF_up h.2, if_neg (by simp)]
  exact h
theorem stepS_still {f : Fl} (h : f.down = false ∧ f.fuse = -1) (s : St) : (stepS s f).2.1.down = false ∧ (stepS s f).2.1.fuse = -1 := by
  have ho : (opS s f).1.down = false ∧ (opS s f).1.fuse = -1 := by
    unfold opS
    split
    · exact eraseF_still h _
    · exact progF_still h _ _
  unfold stepS
  split
  · exact h
  split
  · exact h
  split
  · exact ho
  split
  · exact ho
  · exact ho
theorem runS_still : ∀ (n : Nat) {f : Fl} (s : St), f.down = false ∧ f.fuse = -1 → (runS n s f).2.1.down = false ∧ (runS n s f).2.1.fuse = -1
  | 0, f, s, h => h
  | n + 1, f, s, h => by
    rw [runS_succ]
    split
    · exact stepS_still h s
    · exact runS_still n _ (stepS_still h s)
theorem commitS_still {f : Fl} (h : f.down = false ∧ f.fuse = -1) (s : St) : (commitS s f).2.1.down = false ∧ (commitS s f).2.1.fuse = -1 := by
  unfold commitS
  split
  · exact h
  · exact runS_still _ _ h
/-- A commit without a failure. -/
theorem Live.commit_up {f : Fl} {s : St} (h : Live f s) (hf : f.fuse = -1) (hb : s.busy = false) (hq : s.seq ≤ 1000000) (hne : s.staged ≠ s.saved) :
    (commitS s f).2.2 = 0 ∧ Surv (commitS s f).2.1 (commitS s f).1 s.staged none ∧ (commitS s f).2.1.up := by
  have hst := commitS_still ⟨h.up, hf⟩ s
  have he : beginE s f = 0 := by
    unfold beginE
    rw [h.br, h.up, if_neg (by decide), hb, if_neg (by decide), if_neg hne]
    have h1 := h.ok.q1
    have h2 := h.ok.tl
    have h3 := h.ok.n1
    have h4 := h.ok.n2
    unfold encE
    rw [if_neg (by omega)]
  have hs : Surv f s s.saved none := ⟨rfl, .inl ⟨h, by rw [hb]; rfl⟩⟩
  have hc : commitS s f = runS 10 (beginS s f) f := by unfold commitS; rw [if_neg (by rw [he]; decide)]
  obtain ⟨e1, e2, e3, e4, _⟩ := begin_fields he
  have hr := h.begin.run e1 (begin_left h.ok he)
  rw [← hc] at hr
  cases hr with
  | last b1 b2 b3 b4 b5 => exact ⟨b1, ⟨b4.trans e2, .inl ⟨b2, by rw [b3]; rfl⟩⟩, ⟨b2.fok, hst.1, hst.2⟩⟩
  | dead b1 b2 b3 b4 => rw [b2.dn] at hst; cases hst.1
end Go.Proofs.Ytjdknddnanopaaa
