/-
  What was programmed is read. No program in sight.
-/
import Derived.Test.YtfeceamhlphelaaPlainT
namespace Go.Proofs.Ytfeceamhlphelaa
open Go.RowKit
set_option linter.unusedVariables false

/-- A flash with power and without a fuse. -/
structure Fl.up (f : Fl) : Prop where
  ok : f.ok
  dn : f.down = false
  fu : f.fuse = -1

theorem cutF_up {f : Fl} (h : f.fuse = -1) : cutF f = (f, false) := by unfold cutF; rw [h, if_neg (by omega), if_neg (by omega)]
theorem up_room {f : Fl} (h : f.ok) {K : Nat} (hK : K < f.wear.length * f.pg) : 64 * K + 64 ≤ f.img.length := by
  rw [h.len]
  have : K + 1 ≤ f.wear.length * f.pg := by omega
  omega
theorem up_prog {f : Fl} (h : f.up) {K : Nat} (hK : K < f.wear.length * f.pg) {b : List Int} (hb : b.length = 64) :
    progF f K b = if blankF (pageF f K) = true then ({ f with img := lay f.img (64 * K) b }, 0) else (f, 12) := by
  unfold progF
  rw [atF_ok h.dn (by omega) (by omega), if_neg (by omega), if_neg (by omega), cutF_up h.fu]
  simp only [Int.toNat_natCast]
  by_cases hbl : blankF (pageF f K) = true
  · rw [hbl, if_neg (by simp), if_neg (by simp), if_pos rfl]
  · have hbl' : blankF (pageF f K) = false := by simpa using hbl
    rw [hbl', if_pos rfl, if_neg (by simp)]
theorem up_read {f : Fl} (h : f.up) {K : Nat} (hK : K < f.wear.length * f.pg) : readF f K = (pageF f K, 0) := by
  unfold readF
  rw [atF_ok h.dn (by omega) (by omega), if_neg (by omega)]
  simp only [Int.toNat_natCast]
theorem pageF_lay {f : Fl} (h : f.ok) {K : Nat} (hK : K < f.wear.length * f.pg) {b : List Int} (hb : b.length = 64) : pageF { f with img := lay f.img (64 * K) b } K = b := by
  have hr := up_room h hK
  apply List.ext_getElem?
  intro i
  unfold pageF
  simp only
  rw [List.getElem?_take, List.getElem?_drop, lay_get _ _ _ (by omega)]
  by_cases hi : i < 64
  · rw [if_pos hi, if_pos (by omega), show 64 * K + i - 64 * K = i by omega]
  · rw [if_neg hi, List.getElem?_eq_none (by omega)]
theorem up_erase {f : Fl} (h : f.up) {B : Nat} (hB : B < f.wear.length) : eraseF f B = ({ f with img := lay f.img (64 * f.pg * B) (List.replicate (64 * f.pg) 255), wear := bumpF f.wear B }, 0) := by
  unfold eraseF
  rw [if_neg (by simp [h.dn]), if_neg (by omega), cutF_up h.fu, if_neg (by simp)]
  simp only [Int.toNat_natCast]
theorem pageF_erase {f : Fl} (h : f.ok) {K : Nat} (hK : K < f.wear.length * f.pg) (w : List Int) : pageF { f with img := lay f.img (64 * f.pg * (K / f.pg)) (List.replicate (64 * f.pg) 255), wear := w } K = List.replicate 64 255 := by
  have hp := h.p1
  have hdm := Nat.div_add_mod K f.pg
  have hlt := Nat.mod_lt K (show 0 < f.pg by omega)
  have hB : K / f.pg < f.wear.length := Nat.div_lt_of_lt_mul (by rw [Nat.mul_comm]; exact hK)
  have hroom : 64 * f.pg * (K / f.pg) + 64 * f.pg ≤ f.img.length := by
    rw [h.len]
    have hb : K / f.pg + 1 ≤ f.wear.length := by omega
    have := Nat.mul_le_mul_right (64 * f.pg) hb
    rw [Nat.add_mul, Nat.one_mul] at this
    rw [Nat.mul_comm (64 * f.pg), Nat.mul_assoc f.wear.length, Nat.mul_comm f.pg 64]
    exact this
  have e1 : 64 * f.pg * (K / f.pg) = 64 * (f.pg * (K / f.pg)) := by rw [Nat.mul_assoc]
  apply List.ext_getElem?
  intro i
  unfold pageF
  simp only
  rw [List.getElem?_take, List.getElem?_drop, lay_get _ _ _ (by rw [List.length_replicate]; exact hroom), List.length_replicate]
  by_cases hi : i < 64
  · rw [if_pos hi, if_pos (by omega), List.getElem?_replicate, List.getElem?_replicate, if_pos (by omega), if_pos hi]
  · rw [if_neg hi, List.getElem?_eq_none (by rw [List.length_replicate]; omega)]
theorem new_up {b p : Nat} (h1 : 1 ≤ b) (h2 : b ≤ 64) (h3 : 1 ≤ p) (h4 : p ≤ 16) : (newF b p).up := ⟨newF_ok h1 h2 h3 h4, rfl, rfl⟩
theorem up_lay {f : Fl} (h : f.up) {K : Nat} (hK : K < f.wear.length * f.pg) {b : List Int} (hb : b.length = 64) (hbb : Bytes b) : ({ f with img := lay f.img (64 * K) b } : Fl).up := by
  have hr := up_room h.ok hK
  exact ⟨⟨h.ok.p1, h.ok.p2, h.ok.b1, h.ok.b2, by simp only; rw [lay_length _ _ _ (by omega), h.ok.len], lay_bytes h.ok.byt hbb, h.ok.pby, h.ok.fu1, h.ok.fu2⟩, h.dn, h.fu⟩
theorem new_blank (b p K : Nat) (hK : K < b * p) : blankF (pageF (newF b p) K) = true := by
  unfold pageF
  simp only [newF]
  rw [part_rep _ _ _ _ (by omega), blank_rep]
theorem blank_iff {x : List Int} (hx : x.length = 64) : blankF x = true ↔ x = List.replicate 64 255 := by
  constructor
  · intro h
    apply List.ext_getElem?
    intro i
    rw [List.getElem?_replicate]
    by_cases hi : i < 64
    · obtain ⟨y, hy⟩ := getElem?_of_lt (l := x) (k := i) (by omega)
      unfold blankF at h
      rw [List.all_eq_true] at h
      have := h y (List.mem_of_getElem? hy)
      rw [hy, if_pos hi]
      simpa using this
    · rw [List.getElem?_eq_none (by omega), if_neg hi]
  · intro h
    rw [h]
    exact blank_rep 64

/-- The whole story. -/
structure Held (bl pg K : Nat) (x y : List Int) (f1 f2 f3 f4 : Fl) : Prop where
  p1 : progF (newF bl pg) K x = (f1, 0)
  p2 : progF f1 K y = (f2, if x = List.replicate 64 255 then 0 else 12)
  r2 : readF f2 K = (if x = List.replicate 64 255 then y else x, 0)
  e3 : eraseF f2 ((K / pg : Nat) : Int) = (f3, 0)
  p4 : progF f3 K y = (f4, 0)
  r4 : readF f4 K = (y, 0)
  w4 : f4.wear.length = bl ∧ f4.wear[K / pg]? = some 1

theorem held {bl pg K : Nat} {x y : List Int} (h1 : 1 ≤ bl) (h2 : bl ≤ 64) (h3 : 1 ≤ pg) (h4 : pg ≤ 16) (hK : K < bl * pg) (hx : x.length = 64) (hy : y.length = 64) (hxb : Bytes x) (hyb : Bytes y) : ∃ f1 f2 f3 f4, Held bl pg K x y f1 f2 f3 f4 := by
  have u0 := new_up h1 h2 h3 h4
  have k0 : K < (newF bl pg).wear.length * (newF bl pg).pg := by simpa [newF] using hK
  have q1 := up_prog u0 k0 hx
  rw [if_pos (new_blank bl pg K hK)] at q1
  have u1 := up_lay u0 k0 hx hxb
  have g1 := pageF_lay u0.ok k0 hx
  have w1 : ({ newF bl pg with img := lay (newF bl pg).img (64 * K) x } : Fl).wear = List.replicate bl 0 := rfl
  have s1 : ({ newF bl pg with img := lay (newF bl pg).img (64 * K) x } : Fl).pg = pg := rfl
  generalize ({ newF bl pg with img := lay (newF bl pg).img (64 * K) x } : Fl) = f1 at *
  have k1 : K < f1.wear.length * f1.pg := by rw [w1, s1, List.length_replicate]; exact hK
  have q2 := up_prog u1 k1 hy
  rw [g1] at q2
  obtain ⟨f2, hf2⟩ : ∃ f2, (if x = List.replicate 64 255 then ({ f1 with img := lay f1.img (64 * K) y } : Fl) else f1) = f2 := ⟨_, rfl⟩
  have q2' : progF f1 K y = (f2, if x = List.replicate 64 255 then 0 else 12) := by
    rw [q2, ← hf2]
    by_cases hb : x = List.replicate 64 255
    · rw [if_pos hb, if_pos hb, if_pos ((blank_iff hx).2 hb)]
    · rw [if_neg hb, if_neg hb, if_neg (fun h => hb ((blank_iff hx).1 h))]
  have u2 : f2.up ∧ f2.wear = List.replicate bl 0 ∧ f2.pg = pg ∧ pageF f2 K = if x = List.replicate 64 255 then y else x := by
    rw [← hf2]
    by_cases hb : x = List.replicate 64 255
    · rw [if_pos hb, if_pos hb]
      exact ⟨up_lay u1 k1 hy hyb, w1, s1, pageF_lay u1.ok k1 hy⟩
    · rw [if_neg hb, if_neg hb]
      exact ⟨u1, w1, s1, g1⟩
  obtain ⟨u2, w2, s2, g2⟩ := u2
  have k2 : K < f2.wear.length * f2.pg := by rw [w2, s2, List.length_replicate]; exact hK
  have r2 := up_read u2 k2
  rw [g2] at r2
  have hB : K / pg < bl := Nat.div_lt_of_lt_mul (by rw [Nat.mul_comm]; exact hK)
  have hBp : K / pg = K / f2.pg := by rw [s2]
  rw [hBp] at hB
  have e3 := up_erase u2 (B := K / f2.pg) (by rw [w2, List.length_replicate]; exact hB)
  have pe := pageF_erase u2.ok k2 (bumpF f2.wear (K / f2.pg))
  have ok3 : ({ f2 with img := lay f2.img (64 * f2.pg * (K / f2.pg)) (List.replicate (64 * f2.pg) 255), wear := bumpF f2.wear (K / f2.pg) } : Fl).ok := by
    have := (eraseF_ok (block := ((K / f2.pg : Nat) : Int)) u2.ok)
    rw [e3] at this
    exact this
  have w3 : ({ f2 with img := lay f2.img (64 * f2.pg * (K / f2.pg)) (List.replicate (64 * f2.pg) 255), wear := bumpF f2.wear (K / f2.pg) } : Fl).wear = bumpF (List.replicate bl 0) (K / f2.pg) := by rw [← w2]
  have s3 : ({ f2 with img := lay f2.img (64 * f2.pg * (K / f2.pg)) (List.replicate (64 * f2.pg) 255), wear := bumpF f2.wear (K / f2.pg) } : Fl).pg = pg := s2
  have u3 : ({ f2 with img := lay f2.img (64 * f2.pg * (K / f2.pg)) (List.replicate (64 * f2.pg) 255), wear := bumpF f2.wear (K / f2.pg) } : Fl).up := ⟨ok3, u2.dn, u2.fu⟩
  generalize ({ f2 with img := lay f2.img (64 * f2.pg * (K / f2.pg)) (List.replicate (64 * f2.pg) 255), wear := bumpF f2.wear (K / f2.pg) } : Fl) = f3 at *
  have l3 : f3.wear.length = bl := by rw [w3, bumpF_length, List.length_replicate]
  have k3 : K < f3.wear.length * f3.pg := by rw [l3, s3]; exact hK
  have q4 := up_prog u3 k3 hy
  rw [pe, if_pos (blank_rep 64)] at q4
  have u4 := up_lay u3 k3 hy hyb
  have r4 := up_read u4 (K := K) (by show K < f3.wear.length * f3.pg; exact k3)
  rw [pageF_lay u3.ok k3 hy] at r4
  refine ⟨f1, f2, f3, _, q1, q2', r2, by rw [hBp]; exact e3, q4, r4, l3, ?_⟩
  show f3.wear[K / pg]? = some 1
  rw [w3, hBp]
  unfold bumpF
  rw [List.getElem?_set, if_pos rfl, List.length_replicate, if_pos hB, List.getElem?_replicate, if_pos hB]
  show some (wrap64 (0 + 1)) = some 1
  rw [show wrap64 (0 + 1) = 1 by unfold wrap64; omega]
end Go.Proofs.Ytfeceamhlphelaa
