/-
  Fuses: a flash of two blocks whose bytes are all 255. No program in sight.
-/
import Derived.Test.YtfeceamhlphelaaPlainF
namespace Go.Proofs.Ytfeceamhlphelaa
open Go.RowKit
set_option linter.unusedVariables false

/-- After k operations with a fuse of n. -/
structure FU (f : Fl) (n k : Nat) : Prop where
  pg : f.pg = 16
  wl : f.wear.length = 2
  im : f.img = List.replicate 2048 255
  pk : f.picks = []
  up : k ≤ n → f.down = false ∧ f.fuse = (n : Int) - k
  dn : n < k → f.down = true

theorem orB_255_0 : orB 255 0 = 255 := by decide
theorem torn_255 (n : Nat) : torn (List.replicate n 255) [] = List.replicate n 255 := by
  apply List.ext_getElem?
  intro i
  rw [torn_get, List.getElem?_replicate]
  split
  · simp [pickF, orB_255_0]
  · rfl
theorem lay_rep (N a n : Nat) (x : Int) (h : a + n ≤ N) : lay (List.replicate N x) a (List.replicate n x) = List.replicate N x := by
  apply List.ext_getElem?
  intro i
  rw [lay_get _ _ _ (by rw [List.length_replicate, List.length_replicate]; exact h), List.length_replicate]
  split
  · rw [List.getElem?_replicate, List.getElem?_replicate, if_pos (by omega), if_pos (by omega)]
  · rfl
theorem part_rep (N a n : Nat) (x : Int) (h : a + n ≤ N) : ((List.replicate N x).drop a).take n = List.replicate n x := by
  rw [List.drop_replicate, List.take_replicate, Nat.min_eq_left (by omega)]
theorem blank_rep (n : Nat) : blankF (List.replicate n 255) = true := by
  unfold blankF
  rw [List.all_eq_true]
  intro x hx
  rw [List.mem_replicate] at hx
  simp [hx.2]

/-- What a step gives. -/
def fuC (n k : Nat) : Int := if n ≤ k then 20 else 0

theorem fu_new (n : Nat) : FU (fuseF (newF 2 16) n []) n 0 := by
  refine ⟨rfl, rfl, rfl, rfl, fun _ => ⟨rfl, ?_⟩, fun h => absurd h (Nat.not_lt_zero _)⟩
  simp only [fuseF]
  omega

theorem fu_cut {f : Fl} {n k : Nat} (h : FU f n k) (hk : k ≤ n) : cutF f = (if k = n then ({ f with down := true }, true) else ({ f with fuse := (n : Int) - k - 1 }, false)) := by
  obtain ⟨h1, h2⟩ := h.up hk
  unfold cutF
  rw [h2]
  by_cases hkn : k = n
  · rw [if_pos (by omega), if_pos hkn]
  · rw [if_neg (by omega), if_pos (by omega), if_neg hkn]

theorem fu_bad {f : Fl} {n k : Nat} (h : FU f n k) : eraseF f 2 = (f, if n < k then 20 else 10) ∧ progF f (-1) [] = (f, if n < k then 20 else 10) := by
  by_cases hk : n < k
  · have hd := h.dn hk
    have ha : atF f (-1) = 20 := by unfold atF; rw [if_pos hd]
    refine ⟨by unfold eraseF; rw [if_pos hd, if_pos hk], ?_⟩
    unfold progF
    rw [ha, if_pos (by omega), if_pos hk]
  · have hd := (h.up (by omega)).1
    have ha : atF f (-1) = 10 := by unfold atF; rw [if_neg (by simp [hd]), if_pos (by omega)]
    refine ⟨?_, ?_⟩
    · unfold eraseF
      rw [if_neg (by simp [hd]), if_pos (by rw [h.wl]; omega), if_neg hk]
    · unfold progF
      rw [ha, if_pos (by omega), if_neg hk]

theorem fu_erase {f : Fl} {n k : Nat} (h : FU f n k) (b : Nat) (hb : b < 2) : (eraseF f b).2 = fuC n k ∧ FU (eraseF f b).1 n (k + 1) := by
  unfold fuC
  by_cases hk : n < k
  · have hd := h.dn hk
    have he : eraseF f b = (f, 20) := by unfold eraseF; rw [if_pos hd]
    rw [he, if_pos (by omega)]
    exact ⟨rfl, h.pg, h.wl, h.im, h.pk, fun hh => by omega, fun _ => hd⟩
  · obtain ⟨hd, hf⟩ := h.up (by omega)
    have hc := fu_cut h (by omega)
    have hpart : (f.img.drop (64 * f.pg * (b : Int).toNat)).take (64 * f.pg) = List.replicate 1024 255 := by
      rw [h.im, h.pg, part_rep _ _ _ _ (by omega)]
    have hl : ∀ m, m = 1024 → lay f.img (64 * f.pg * (b : Int).toNat) (List.replicate m 255) = f.img := by
      intro m hm
      rw [h.im, h.pg, hm, lay_rep _ _ _ _ (by omega)]
    unfold eraseF
    rw [if_neg (by simp [hd]), if_neg (by rw [h.wl]; omega), hc]
    by_cases hkn : k = n
    · rw [if_pos hkn, if_pos rfl, if_pos (by omega)]
      refine ⟨rfl, h.pg, by simp [bumpF_length, h.wl], ?_, h.pk, fun hh => by omega, fun _ => rfl⟩
      simp only
      rw [hpart, h.pk, torn_255, hl _ rfl, h.im]
    · rw [if_neg hkn, if_neg (by simp), if_neg (by omega)]
      refine ⟨rfl, h.pg, by simp [bumpF_length, h.wl], ?_, h.pk, fun hh => ⟨hd, by simp only; omega⟩, fun hh => by omega⟩
      simp only
      rw [hl _ (by rw [h.pg]), h.im]

theorem fu_prog {f : Fl} {n k : Nat} (h : FU f n k) (p : Nat) (hp : p < 16) : (progF f p (List.replicate 64 255)).2 = fuC n k ∧ FU (progF f p (List.replicate 64 255)).1 n (k + 1) := by
  unfold fuC
  by_cases hk : n < k
  · have hd := h.dn hk
    have ha : atF f p = 20 := by unfold atF; rw [if_pos hd]
    have he : progF f p (List.replicate 64 255) = (f, 20) := by unfold progF; rw [ha, if_pos (by omega)]
    rw [he, if_pos (by omega)]
    exact ⟨rfl, h.pg, h.wl, h.im, h.pk, fun hh => by omega, fun _ => hd⟩
  · obtain ⟨hd, hf⟩ := h.up (by omega)
    have hc := fu_cut h (by omega)
    have ha : atF f p = 0 := by unfold atF; rw [if_neg (by simp [hd]), if_neg (by rw [h.wl, h.pg]; omega)]
    have hb : blankF (pageF f (p : Int).toNat) = true := by
      unfold pageF
      rw [h.im, part_rep _ _ _ _ (by omega), blank_rep]
    have hl : lay f.img (64 * (p : Int).toNat) (List.replicate 64 255) = f.img := by
      rw [h.im, lay_rep _ _ _ _ (by omega)]
    unfold progF
    rw [ha, if_neg (by omega), if_neg (by rw [List.length_replicate]; omega), hb, if_neg (by simp), hc]
    by_cases hkn : k = n
    · rw [if_pos hkn, if_pos rfl, if_pos (by omega)]
      refine ⟨rfl, h.pg, h.wl, ?_, h.pk, fun hh => by omega, fun _ => rfl⟩
      simp only
      rw [h.pk, torn_255, hl, h.im]
    · rw [if_neg hkn, if_neg (by simp), if_neg (by omega)]
      refine ⟨rfl, h.pg, h.wl, ?_, h.pk, fun hh => ⟨hd, by simp only; omega⟩, fun hh => by omega⟩
      simp only
      rw [hl, h.im]

/-- Behind the start. -/
theorem fu_start {f : Fl} {n k : Nat} (h : FU f n k) (hk : n < k) : (startF f).down = false ∧ (eraseF (startF f) 0).2 = 0 ∧ (eraseF (eraseF (startF f) 0).1 0).2 = 0 := by
  have hd := h.dn hk
  have hs : startF f = { f with down := false, fuse := -1, picks := [] } := by unfold startF; rw [if_pos hd]
  have he : ∀ g : Fl, g.down = false → g.fuse = -1 → g.wear.length = 2 → (eraseF g 0).2 = 0 ∧ (eraseF g 0).1.down = false ∧ (eraseF g 0).1.fuse = -1 ∧ (eraseF g 0).1.wear.length = 2 := by
    intro g g1 g2 g3
    have hc : cutF g = (g, false) := by unfold cutF; rw [g2, if_neg (by omega), if_neg (by omega)]
    unfold eraseF
    rw [if_neg (by simp [g1]), if_neg (by rw [g3]; omega), hc, if_neg (by simp)]
    exact ⟨rfl, g1, g2, by simp [bumpF_length, g3]⟩
  rw [hs]
  obtain ⟨a1, a2, a3, a4⟩ := he { f with down := false, fuse := -1, picks := [] } rfl rfl h.wl
  obtain ⟨b1, _⟩ := he _ a2 a3 a4
  exact ⟨rfl, a1, b1⟩
theorem fu_start_up {f : Fl} {n k : Nat} (h : FU f n k) (hk : k ≤ n) : (startF f).down = false := by
  have hd := (h.up hk).1
  unfold startF
  rw [if_neg (by simp [hd])]
  exact hd
end Go.Proofs.Ytfeceamhlphelaa
