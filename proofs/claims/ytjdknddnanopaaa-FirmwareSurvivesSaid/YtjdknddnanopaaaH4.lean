/-
  Firmware: an installation as a value. No program in sight.
-/
import Derived.Test.YtjdknddnanopaaaH3
import Derived.Test.YtjdknddnanopaaaG5
namespace Go.Proofs.Ytjdknddnanopaaa
open Go.RowKit
set_option linter.unusedVariables false

/-- Pages from i on are fed and programmed. -/
def feedsB (img : List Int) : Nat → Nat → Bk → Fl → Bk × Fl × Bool
  | 0, i, b, f => (b, f, true)
  | n + 1, i, b, f => if (feedB b f (chunkB img i)).2 ≠ 0 then ((feedB b f (chunkB img i)).1, f, false) else
    if (stepsB 40 (feedB b f (chunkB img i)).1 f).2.2 = false then stepsB 40 (feedB b f (chunkB img i)).1 f else feedsB img n (i + 1) (stepsB 40 (feedB b f (chunkB img i)).1 f).1 (stepsB 40 (feedB b f (chunkB img i)).1 f).2.1
/-- The end of an installation. -/
def endB (img : List Int) (b : Bk) (f : Fl) : Bk × Fl × Bool :=
  if (finishB b f (sumZ img)).2 ≠ 0 then ((finishB b f (sumZ img)).1, f, false) else stepsB 40 (finishB b f (sumZ img)).1 f
def installB (v : Int) (img : List Int) (b : Bk) (f : Fl) : Bk × Fl × Bool :=
  if (beginB b f v img.length).2 ≠ 0 then ((beginB b f v img.length).1, f, false) else
  let q := stepsB 40 (beginB b f v img.length).1 f
  if q.2.2 = false then q else
  let r := feedsB img (nPages img.length) 0 q.1 q.2.1
  if r.2.2 = false then r else endB img r.1 r.2.1

/-- The pages of a slot. -/
def InSl (f : Fl) (b : Bk) (s x : Nat) : Prop := blkB b s * f.pg ≤ x ∧ x < (blkB b s + b.k) * f.pg
/-- A bank whose slot D is being filled: what stays, and what is in the slot so far. -/
structure Fil (f0 : Fl) (b0 : Bk) (n : Int) (v : Int) (img : List Int) (i : Nat) (f : Fl) (b : Bk) : Prop where
  J : BkJ f b n
  st : b.st = b0.st
  sh : Shape f0 f
  far : ∀ x, ¬ InSl f0 b0 (1 - (savB b0 0).toNat) x → pageF f x = pageF f0 x
  rs : Rest f b
  first : b.first = b0.first
  blocks : b.blocks = b0.blocks
  slot : b.slot = b0.slot
  up : b.upload = true
  dst : b.dst = 1 - (savB b0 0).toNat
  ver : b.version = v
  len : b.length = img.length
  fed : b.fed = min (64 * i) img.length
  pgs : ∀ j, j < i → j < nPages img.length → pageF f (blkB b0 (1 - (savB b0 0).toNat) * f0.pg + j) = padB (chunkB img j)
  bl : ∀ x, InSl f0 b0 (1 - (savB b0 0).toNat) x → blkB b0 (1 - (savB b0 0).toNat) * f0.pg + i ≤ x → pageF f x = blankP
/-- An installation that was broken off before its end. -/
structure Off (f0 : Fl) (b0 : Bk) (n : Int) (f : Fl) (b : Bk) : Prop where
  J : BkJ f b n
  st : b.st = b0.st
  first : b.first = b0.first
  blocks : b.blocks = b0.blocks
  sh : Shape f0 f
  far : ∀ x, ¬ InSl f0 b0 (1 - (savB b0 0).toNat) x → pageF f x = pageF f0 x

theorem Rest.work {f : Fl} {b : Bk} (h : Rest f b) : workB b = false := by unfold workB; rw [h.er, h.da, h.rc]; rfl

/-- Begin, and the erasing. -/
theorem inst_begin {f : Fl} {b : Bk} {n : Int} (h : BkJ f b n) (hr : Rest f b) (hs : b.slot ≠ 2) (ht : savB b 1 = 2) (hu : b.upload = false) {v : Int} (hv : 1 ≤ v ∧ v ≤ 1073741824) {img : List Int} (h1 : 1 ≤ img.length) (h2 : img.length ≤ sizeF f b.blocks) :
    (beginB b f v img.length).2 = 0 ∧ (((stepsB 40 (beginB b f v img.length).1 f).2.2 = true ∧ Fil f b n v img 0 (stepsB 40 (beginB b f v img.length).1 f).2.1 (stepsB 40 (beginB b f v img.length).1 f).1) ∨
      ((stepsB 40 (beginB b f v img.length).1 f).2.2 = false ∧ ¬ f.up ∧ Off f b n (stepsB 40 (beginB b f v img.length).1 f).2.1 (stepsB 40 (beginB b f v img.length).1 f).1)) ∧ (f.up → (stepsB 40 (beginB b f v img.length).1 f).2.1.up) := by
  have hdn := h.dn hr.br
  have hrd := rdyB_up hr.br hdn
  obtain ⟨D, hD⟩ : ∃ D, 1 - (savB b 0).toNat = D := ⟨_, rfl⟩
  have hq : beginB b f v img.length = ({ b with upload := true, dst := D, version := v, length := img.length, fed := 0, erase := (List.range b.k).map fun i => ((blkB b D + i : Nat) : Int) }, 0) := by
    unfold beginB
    rw [hrd, if_neg (by rw [hr.br]; decide), if_neg (by rw [hu, ht]; simp [hs]), if_neg (by rw [hr.work]; decide), if_neg (by omega), Int.toNat_natCast, hD]
  have hJ := beginB_J h (fun v l => beginB_ok h.ok h.fo v l) v img.length
  rw [hq] at hJ ⊢
  have hk1 := h.ok.k1
  have hk8 := h.ok.k8
  have hes : (List.range b.k).map (fun i => ((blkB b D + i : Nat) : Int)) = ((List.range b.k).map fun i => blkB b D + i).map (fun (e : Nat) => (e : Int)) := by rw [List.map_map]; rfl
  have hin : ∀ x, (∃ e ∈ (List.range b.k).map (fun i => blkB b D + i), e * f.pg ≤ x ∧ x < e * f.pg + f.pg) ↔ InSl f b D x := fun x => by
    unfold InSl
    constructor
    · rintro ⟨e, he, h1, h2⟩
      obtain ⟨i, hi, rfl⟩ := List.mem_map.1 he
      have hi := List.mem_range.1 hi
      have e1 := Nat.mul_le_mul_right f.pg (show blkB b D ≤ blkB b D + i by omega)
      have e2 := Nat.mul_le_mul_right f.pg (show blkB b D + i + 1 ≤ blkB b D + b.k by omega)
      rw [Nat.add_mul (blkB b D + i), Nat.one_mul] at e2
      omega
    · rintro ⟨h1, h2⟩
      have hp : 0 < f.pg := h.fo.p1
      have e1 : blkB b D ≤ x / f.pg := (Nat.le_div_iff_mul_le hp).2 h1
      have e2 : x / f.pg < blkB b D + b.k := (Nat.div_lt_iff_lt_mul hp).2 h2
      refine ⟨x / f.pg, List.mem_map.2 ⟨x / f.pg - blkB b D, List.mem_range.2 (by omega), by omega⟩, Nat.div_mul_le_self _ _, ?_⟩
      have := Nat.mod_lt x hp
      have := Nat.div_add_mod x f.pg
      rw [Nat.mul_comm] at this
      omega
  have hR := stepsB_erase 40 ((List.range b.k).map fun i => blkB b D + i) hJ hr.br hes (by
    intro e
    have := congrArg List.length e
    simp at this
    omega) hr.da hr.rc
  obtain ⟨q, hqq⟩ : ∃ q, stepsB 40 { b with upload := true, dst := D, version := v, length := img.length, fed := 0, erase := (List.range b.k).map fun i => ((blkB b D + i : Nat) : Int) } f = q := ⟨_, rfl⟩
  simp only [hqq] at hR ⊢
  have hfar : ∀ x, ¬ InSl f b D x → pageF q.2.1 x = pageF f x := fun x hx => hR.far x (fun e he hx' => hx ((hin x).1 ⟨e, he, hx'⟩))
  have hlen : ((List.range b.k).map fun i => blkB b D + i).length ≤ 40 := by simp; omega
  refine ⟨trivial, ?_, fun hup => (hR.up hup hlen).2⟩
  cases hb : q.2.2 with
  | true =>
    left
    obtain ⟨r1, r2⟩ := hR.ok hb
    refine ⟨rfl, hR.J, hR.st, hR.sh, by rw [hD]; exact hfar, r1, hR.sm.first, hR.sm.blocks, hR.sm.slot, hR.sm.upload, by rw [hD]; exact hR.sm.dst, hR.sm.version, hR.sm.length, ?_, fun j hj => absurd hj (by omega), fun x hx _ => ?_⟩
    · rw [hR.sm.fed]
      show 0 = _
      omega
    · rw [hD] at hx
      exact r2 x ((hin x).2 hx)
  | false =>
    right
    refine ⟨rfl, fun hup => ?_, hR.J, hR.st, hR.sm.first, hR.sm.blocks, hR.sh, by rw [hD]; exact hfar⟩
    have := (hR.up hup hlen).1
    rw [hb] at this
    cases this

/-- One page is fed and programmed. -/
theorem inst_feed {f0 f : Fl} {b0 b : Bk} {n v : Int} {img : List Int} {i : Nat} (h0 : BkOk f0 b0) (h : Fil f0 b0 n v img i f b) (hi : i < nPages img.length) (hby : Bytes img) (h2 : img.length ≤ sizeF f0 b0.blocks) :
    (feedB b f (chunkB img i)).2 = 0 ∧ (((stepsB 40 (feedB b f (chunkB img i)).1 f).2.2 = true ∧ Fil f0 b0 n v img (i + 1) (stepsB 40 (feedB b f (chunkB img i)).1 f).2.1 (stepsB 40 (feedB b f (chunkB img i)).1 f).1) ∨
      ((stepsB 40 (feedB b f (chunkB img i)).1 f).2.2 = false ∧ ¬ f.up ∧ Off f0 b0 n (stepsB 40 (feedB b f (chunkB img i)).1 f).2.1 (stepsB 40 (feedB b f (chunkB img i)).1 f).1)) ∧ (f.up → (stepsB 40 (feedB b f (chunkB img i)).1 f).2.1.up) := by
  have hdn := h.J.dn h.rs.br
  have hrd := rdyB_up h.rs.br hdn
  obtain ⟨D, hD⟩ : ∃ D, 1 - (savB b0 0).toNat = D := ⟨_, rfl⟩
  have hD1 : D ≤ 1 := by omega
  have hcl := chunkB_length img i
  have hi64 : 64 * i < img.length := by unfold nPages at hi; omega
  have hfed : b.fed = 64 * i := by rw [h.fed]; omega
  have hpg := h.sh.p
  have hblk : blkB b b.dst = blkB b0 D := by
    rw [h.dst, hD]
    unfold blkB Bk.k
    rw [h.first, h.blocks]
  have hpage : blkB b b.dst * f.pg + b.fed / 64 = blkB b0 D * f0.pg + i := by rw [hblk, hpg, hfed]; omega
  have hq : feedB b f (chunkB img i) = ({ b with page := blkB b0 D * f0.pg + i, data := some (padB (chunkB img i)), fed := b.fed + (chunkB img i).length }, 0) := by
    unfold feedB
    rw [hrd, if_neg (by rw [h.rs.br]; decide), if_neg (by rw [h.up, h.len]; simp; omega), if_neg (by rw [h.rs.work]; decide), if_neg (by rw [h.len, hfed, hcl]; omega), hpage]
  have hJ := feedB_J h.J (chunkB_bytes hby i)
  rw [hq] at hJ ⊢
  have hsz : sizeF f0 b0.blocks = b0.k * f0.pg * 64 := rfl
  rw [hsz] at h2
  have hin : InSl f0 b0 D (blkB b0 D * f0.pg + i) := by
    unfold InSl
    rw [Nat.add_mul]
    generalize b0.k * f0.pg = y at *
    omega
  have hbl : pageF f (blkB b0 D * f0.pg + i) = blankP := h.bl _ (by rw [hD]; exact hin) (by rw [hD]; omega)
  have hR := stepsB_page 39 (d := padB (chunkB img i)) hJ h.rs.br h.rs.er rfl h.rs.rc hbl
  obtain ⟨q, hqq⟩ : ∃ q, stepsB (39 + 1) { b with page := blkB b0 D * f0.pg + i, data := some (padB (chunkB img i)), fed := b.fed + (chunkB img i).length } f = q := ⟨_, rfl⟩
  have hqq' : stepsB 40 { b with page := blkB b0 D * f0.pg + i, data := some (padB (chunkB img i)), fed := b.fed + (chunkB img i).length } f = q := hqq
  simp only [hqq] at hR
  simp only [hqq']
  have hfar1 : ∀ x, x ≠ blkB b0 D * f0.pg + i → pageF q.2.1 x = pageF f x := hR.far
  have hfar : ∀ x, ¬ InSl f0 b0 (1 - (savB b0 0).toNat) x → pageF q.2.1 x = pageF f0 x := fun x hx => by
    rw [hD] at hx
    rw [hfar1 x (fun e => hx (by rw [e]; exact hin))]
    exact h.far x (by rw [hD]; exact hx)
  have hst : q.1.st = b0.st := hR.st.trans h.st
  refine ⟨trivial, ?_, fun hup => (hR.up hup).2⟩
  cases hb : q.2.2 with
  | true =>
    left
    obtain ⟨r1, r2⟩ := hR.ok hb
    refine ⟨rfl, hR.J, hst, h.sh.trans hR.sh, hfar, r1, hR.sm.first.trans h.first, hR.sm.blocks.trans h.blocks, hR.sm.slot.trans h.slot, hR.sm.upload.trans h.up, hR.sm.dst.trans h.dst, hR.sm.version.trans h.ver, hR.sm.length.trans h.len, ?_, fun j hj hj2 => ?_, fun x hx hx2 => ?_⟩
    · rw [hR.sm.fed]
      show b.fed + (chunkB img i).length = _
      rw [hfed, hcl]
      omega
    · rw [hD]
      by_cases e : j = i
      · subst e
        exact r2
      · rw [hfar1 _ (by omega)]
        have := h.pgs j (by omega) hj2
        rw [hD] at this
        exact this
    · rw [hD] at hx2
      rw [hfar1 x (by omega)]
      exact h.bl x hx (by rw [hD]; omega)
  | false =>
    right
    refine ⟨rfl, fun hup => ?_, hR.J, hst, hR.sm.first.trans h.first, hR.sm.blocks.trans h.blocks, h.sh.trans hR.sh, hfar⟩
    have := (hR.up hup).1
    rw [hb] at this
    cases this

/-- All pages from i on. -/
theorem inst_feeds {f0 : Fl} {b0 : Bk} {n v : Int} {img : List Int} (h0 : BkOk f0 b0) (hby : Bytes img) (h2 : img.length ≤ sizeF f0 b0.blocks) : ∀ (m i : Nat) {f : Fl} {b : Bk}, Fil f0 b0 n v img i f b → i + m = nPages img.length →
    (((feedsB img m i b f).2.2 = true ∧ Fil f0 b0 n v img (nPages img.length) (feedsB img m i b f).2.1 (feedsB img m i b f).1) ∨ ((feedsB img m i b f).2.2 = false ∧ ¬ f.up ∧ Off f0 b0 n (feedsB img m i b f).2.1 (feedsB img m i b f).1)) ∧ (f.up → (feedsB img m i b f).2.1.up)
  | 0, i, f, b, h, hm => ⟨.inl ⟨rfl, by rw [← hm]; exact h⟩, fun hup => hup⟩
  | m + 1, i, f, b, h, hm => by
    obtain ⟨c1, c2, c3⟩ := inst_feed h0 h (by omega) hby h2
    unfold feedsB
    rw [if_neg (by rw [c1]; simp)]
    rcases c2 with ⟨d1, d2⟩ | ⟨d1, d2, d3⟩
    · rw [if_neg (by rw [d1]; decide)]
      obtain ⟨e1, e2⟩ := inst_feeds h0 hby h2 m (i + 1) d2 (by omega)
      refine ⟨?_, fun hup => e2 (c3 hup)⟩
      rcases e1 with e1 | ⟨g1, g2, g3⟩
      · exact .inl e1
      · exact .inr ⟨g1, fun hup => g2 (c3 hup), g3⟩
    · rw [if_pos d1]
      exact ⟨.inr ⟨d1, d2, d3⟩, c3⟩
end Go.Proofs.Ytjdknddnanopaaa
