/-
  What Format leaves, and what Open finds behind it. No program in sight.
-/
import Derived.Test.YtjdknddnanopaaaF1
namespace Go.Proofs.Ytjdknddnanopaaa
open Go.RowKit
set_option linter.unusedVariables false

theorem set_fw {s : St} {n : Nat} (hb : s.broken = false) (hsp : s.spec = fwSpec n) {i : Nat} {p : Par} {v : Int} (hp : (fwSpec n)[i]? = some p) (hv : p.lo ≤ v ∧ v ≤ p.hi) : setE s (i : Int) v = 0 ∧ setF s (i : Int) v = { s with staged := s.staged.set i v } := by
  have hi := (List.getElem?_eq_some_iff.1 hp).1
  have he : setE s (i : Int) v = 0 := by
    unfold setE
    rw [if_neg (by rw [hb]; decide), if_neg (by rw [hsp]; omega), Int.toNat_natCast, hsp, hp, if_neg]
    unfold inPar
    simp only [Option.getD_some, decide_eq_false_iff_not, Classical.not_not]
    exact hv
  refine ⟨he, ?_⟩
  unfold setF
  rw [if_pos he, Int.toNat_natCast]

theorem fmtG_blank {f : Fl} (h : f.up) {first k : Nat} (hw : first + (2 * k + 2) ≤ f.wear.length) (hk : 1 ≤ k) {img : List Int} (hi : Bytes img) (h2 : img.length ≤ sizeF f (2 * k + 2)) :
    (fmtG f first (2 * k + 2) img).up ∧ (fmtG f first (2 * k + 2) img).pg = f.pg ∧ (fmtG f first (2 * k + 2) img).wear.length = f.wear.length ∧ (fmtG f first (2 * k + 2) img).picks = f.picks ∧
    (∀ x, pageF (fmtG f first (2 * k + 2) img) x = if (first + 2) * f.pg ≤ x ∧ x < (first + 2) * f.pg + nPages img.length then padB (chunkB img (x - (first + 2) * f.pg)) else if first * f.pg ≤ x ∧ x < (first + (2 * k + 2)) * f.pg then blankP else pageF f x) ∧
    (first + 2) * f.pg + nPages img.length ≤ (first + (k + 2)) * f.pg ∧ (first + (k + 2)) * f.pg ≤ f.wear.length * f.pg ∧ ∀ x, (first + 2) * f.pg ≤ x → x < (first + 2) * f.pg + nPages img.length → pageF (eraseN f first (2 * k + 2)) x = blankP := by
  have he := eraseN_up h (a := first) (n := 2 * k + 2) hw
  have hn : nPages img.length ≤ k * f.pg := by
    unfold sizeF at h2
    rw [show (2 * k + 2 - 2) / 2 = k by omega] at h2
    unfold nPages
    omega
  have e1 : (first + (k + 2)) * f.pg = (first + 2) * f.pg + k * f.pg := by rw [← Nat.add_mul]; congr 1; omega
  have e2 : (first + (k + 2)) * f.pg ≤ (first + (2 * k + 2)) * f.pg := Nat.mul_le_mul_right _ (by omega)
  have e3 : (first + (2 * k + 2)) * f.pg ≤ f.wear.length * f.pg := Nat.mul_le_mul_right _ hw
  have e4 : first * f.pg ≤ (first + 2) * f.pg := Nat.mul_le_mul_right _ (by omega)
  have hbl : ∀ x, (first + 2) * f.pg ≤ x → x < (first + 2) * f.pg + nPages img.length → pageF (eraseN f first (2 * k + 2)) x = blankP := fun x h1 h2 => by rw [he.page, if_pos (by omega)]
  have hp := progN_up he.up hi (a := (first + 2) * f.pg) (n := nPages img.length) (by rw [he.wl, he.pg]; omega) hbl
  refine ⟨hp.up, hp.pg.trans he.pg, hp.wl.trans he.wl, hp.pk.trans he.pk, fun x => ?_, by omega, by omega, hbl⟩
  show pageF (progN _ _ _ _) x = _
  rw [hp.page, he.page]

structure FmtD (f : Fl) (first k : Nat) (v c : Int) (img : List Int) : Prop where
  op : openE (fmtG f first (2 * k + 2) img) first ((2 : Nat) : Int) (fwSpec (sizeF f (2 * k + 2))) = 0
  ok : ∀ p ∈ fwSpec (sizeF f (2 * k + 2)), p.ok
  s1 : setE (openF (fmtG f first (2 * k + 2) img) first 2 (fwSpec (sizeF f (2 * k + 2)))) 3 v = 0
  s2 : setE (setF (openF (fmtG f first (2 * k + 2) img) first 2 (fwSpec (sizeF f (2 * k + 2)))) 3 v) 4 img.length = 0
  s3 : setE (setF (setF (openF (fmtG f first (2 * k + 2) img) first 2 (fwSpec (sizeF f (2 * k + 2)))) 3 v) 4 img.length) 5 c = 0
  code : (fmtC f first (2 * k + 2) v c img).2.2 = 0
  sv : Surv (fmtC f first (2 * k + 2) v c img).2.1 (fmtC f first (2 * k + 2) v c img).1 [0, 2, 0, v, img.length, c, 0, 0, 0] none
  up : (fmtC f first (2 * k + 2) v c img).2.1.up
  sp : (fmtC f first (2 * k + 2) v c img).1.spec = fwSpec (sizeF f (2 * k + 2))
  fi : (fmtC f first (2 * k + 2) v c img).1.first = first
  bl : (fmtC f first (2 * k + 2) v c img).1.blocks = 2

theorem sizeF_le {f : Fl} (h : f.ok) {k : Nat} (hk : k ≤ 8) : sizeF f (2 * k + 2) ≤ 8192 := by
  unfold sizeF
  rw [show (2 * k + 2 - 2) / 2 = k by omega]
  have h2 := h.p2
  have := Nat.mul_le_mul hk h2
  omega

theorem fmt_done {f : Fl} (h : f.up) {first k : Nat} (hk : 1 ≤ k) (hk8 : k ≤ 8) (hw : first + (2 * k + 2) ≤ f.wear.length) (hp : 2 ≤ f.pg) {img : List Int} (hi : Bytes img) (h1 : 1 ≤ img.length) (h2 : img.length ≤ sizeF f (2 * k + 2))
    {v c : Int} (hv : 1 ≤ v ∧ v ≤ 1073741824) (hc : 0 ≤ c ∧ c ≤ 4294967295) : FmtD f first k v c img := by
  obtain ⟨g1, g2, g3, g4, g5, g6, g7, _⟩ := fmtG_blank h hw hk hi h2
  have hsz := sizeF_le h.ok hk8
  obtain ⟨N, hN⟩ : ∃ N, sizeF f (2 * k + 2) = N := ⟨_, rfl⟩
  obtain ⟨g, hg⟩ : ∃ g, fmtG f first (2 * k + 2) img = g := ⟨_, rfl⟩
  obtain ⟨m, hm⟩ : ∃ m, img.length = m := ⟨_, rfl⟩
  rw [hg] at g1 g2 g3 g4 g5
  rw [hN] at h2 hsz
  rw [hm] at h1 h2
  have hreg : regE g (first : Int) ((2 * k + 2 : Nat) : Int) = 0 := by
    unfold regE
    rw [if_neg (by rw [g1.dn]; decide), if_neg (by omega), if_neg (by rw [g3]; omega), if_neg (by rw [g2]; omega)]
  have hop := reg_open hreg N
  have hok := fwSpec_ok (n := N) (by omega)
  have hst : ∀ x, first * g.pg ≤ x → x < (first + 2) * g.pg → pageF g x = blankP := fun x h1 h2 => by
    rw [g2] at h1 h2
    have : (first + 2) * f.pg ≤ (first + (2 * k + 2)) * f.pg := Nat.mul_le_mul_right _ (by omega)
    rw [g5, if_neg (by omega), if_pos (by omega)]
  obtain ⟨-, s2, s3, s4, s5, -, -, s8, s9, s10, s11, s12⟩ := Surv.firstR g1.ok hst hok hop
  obtain ⟨s0, hs0⟩ : ∃ s, openF g first 2 (fwSpec N) = s := ⟨_, rfl⟩
  rw [hs0] at s2 s3 s4 s5 s8 s9 s10 s11 s12
  obtain ⟨a1, a2⟩ := set_fw (n := N) s12 s8 (i := 3) (v := v) rfl ⟨by simp only; omega, hv.2⟩
  obtain ⟨b1, b2⟩ := set_fw (n := N) (s := setF s0 ((3 : Nat) : Int) v) (by rw [a2]; exact s12) (by rw [a2]; exact s8) (i := 4) (v := (m : Int)) rfl ⟨by simp only; omega, by simp only; omega⟩
  obtain ⟨c1, c2⟩ := set_fw (n := N) (s := setF (setF s0 ((3 : Nat) : Int) v) ((4 : Nat) : Int) (m : Int)) (by rw [b2, a2]; exact s12) (by rw [b2, a2]; exact s8) (i := 5) (v := c) rfl ⟨hc.1, hc.2⟩
  have hv64 : I64 v := by unfold I64; omega
  have hm64 : I64 (m : Int) := by unfold I64; omega
  have hc64 : I64 c := by unfold I64; omega
  have hL := ((s2.set (i := ((3 : Nat) : Int)) hv64).set (i := ((4 : Nat) : Int)) hm64).set (i := ((5 : Nat) : Int)) hc64
  have hstg : (setF (setF (setF s0 ((3 : Nat) : Int) v) ((4 : Nat) : Int) (m : Int)) ((5 : Nat) : Int) c).staged = [0, 2, 0, v, (m : Int), c, 0, 0, 0] := by
    rw [c2, b2, a2]
    simp only [s4]
    rfl
  have hsav : (setF (setF (setF s0 ((3 : Nat) : Int) v) ((4 : Nat) : Int) (m : Int)) ((5 : Nat) : Int) c).saved = [0, 2, 0, 0, 0, 0, 0, 0, 0] := by
    rw [c2, b2, a2]
    simp only [s3]
    rfl
  have hsame : Same s0 (setF (setF (setF s0 ((3 : Nat) : Int) v) ((4 : Nat) : Int) (m : Int)) ((5 : Nat) : Int) c) := ((setF_same _ _ _).trans (setF_same _ _ _)).trans (setF_same _ _ _)
  obtain ⟨d1, d2, d3⟩ := hL.commit_up g1.fu (by rw [c2, b2, a2]; exact s5) (by rw [c2, b2, a2]; simp only [s11]; omega) (by
    rw [hstg, hsav]
    intro e
    simp only [List.cons.injEq] at e
    omega)
  rw [hstg] at d2
  have hsame2 := hsame.trans (commitS_same (setF (setF (setF s0 ((3 : Nat) : Int) v) ((4 : Nat) : Int) (m : Int)) ((5 : Nat) : Int) c) g)
  have e : fmtC f first (2 * k + 2) v c img = commitS (setF (setF (setF s0 ((3 : Nat) : Int) v) ((4 : Nat) : Int) (m : Int)) ((5 : Nat) : Int) c) g := by
    unfold fmtC fmtS
    rw [hg, hN, hs0, hm]
    rfl
  refine ⟨?_, ?_, ?_, ?_, ?_, ?_, ?_, ?_, ?_, ?_, ?_⟩
  · rw [hg, hN]; exact hop
  · rw [hN]; exact hok
  · rw [hg, hN, hs0]; exact a1
  · rw [hg, hN, hs0, hm]; exact b1
  · rw [hg, hN, hs0, hm]; exact c1
  · rw [e]; exact d1
  · rw [e, hm]; exact d2
  · rw [e]; exact d3
  · rw [e, hN]; exact hsame2.spec.trans s8
  · rw [e]; exact hsame2.first.trans s9
  · rw [e]; exact hsame2.blocks.trans s10

/-- What Open finds behind what was saved. -/
theorem open_saved {f : Fl} {s : St} {v : List Int} {n first : Nat} (h : Surv f s v none) (hd : f.down = false) (hsp : s.spec = fwSpec n) (hfi : s.first = first) (hbl : s.blocks = 2) :
    openE f first ((2 : Nat) : Int) (fwSpec n) = 0 ∧ Surv f (openF f first 2 (fwSpec n)) v none ∧ (openF f first 2 (fwSpec n)).saved = v ∧ (openF f first 2 (fwSpec n)).spec = fwSpec n ∧ (openF f first 2 (fwSpec n)).first = first ∧ (openF f first 2 (fwSpec n)).blocks = 2 := by
  have hs : startF f = f := by unfold startF; rw [if_neg (by rw [hd]; decide)]
  obtain ⟨a1, a2, a3, a4⟩ := h.again (by rw [hsp]; exact fwSpec_bad n)
  rw [hs, hsp, hfi, hbl] at a1 a2 a3 a4
  have hv : (openF f first 2 (fwSpec n)).saved = v := by
    rcases a3 with e | e
    · exact e
    · cases e
  rw [hv] at a2
  exact ⟨a1, a2, hv, a4.spec.trans hsp, a4.first.trans hfi, a4.blocks.trans hbl⟩
end Go.Proofs.Ytjdknddnanopaaa
