/-
  Interrupted operations. No program in sight.
-/
import Derived.Test.YtfeceamhlphelaaPlainU
namespace Go.Proofs.Ytfeceamhlphelaa
open Go.RowKit
set_option linter.unusedVariables false

theorem orB_zero {y : Int} (h : 0 ≤ y ∧ y < 256) : orB y 0 = y := by
  obtain ⟨Y, rfl⟩ := Int.eq_ofNat_of_zero_le h.1
  unfold orB
  have := u8_or_nat Y 0 (by omega) (by omega)
  simpa using this

theorem cutF_zero {f : Fl} (h : f.fuse = 0) : cutF f = ({ f with down := true }, true) := by unfold cutF; rw [if_pos h]
theorem fuseF_zero (f : Fl) (p : List Int) : (fuseF f 0 p).fuse = 0 := by show max (0 : Int) (-1) = 0; omega
theorem atF_ok {f : Fl} {page : Int} (h1 : f.down = false) (h2 : 0 ≤ page) (h3 : page < (f.wear.length * f.pg : Nat)) : atF f page = 0 := by
  unfold atF
  rw [if_neg (by simp [h1]), if_neg (by omega)]

/-- An image in which a page was torn. -/
def tornI (k : Nat) (x p : List Int) : List Int := lay (List.replicate 256 255) (64 * k) (torn x p)
theorem tornI_length {k : Nat} {x p : List Int} (hx : x.length = 64) (hk : k < 4) : (tornI k x p).length = 256 := by
  unfold tornI
  rw [lay_length _ _ _ (by rw [torn_length, List.length_replicate]; omega), List.length_replicate]
theorem tornI_bytes {k : Nat} {x p : List Int} (hb : Bytes x) (hp : Bytes p) : Bytes (tornI k x p) := by
  refine lay_bytes (fun y hy => ?_) (torn_bytes hb hp)
  rw [List.mem_replicate] at hy
  omega
theorem tornI_part {k : Nat} {x p : List Int} (hx : x.length = 64) (hk : k < 4) : ((tornI k x p).drop (64 * k)).take 64 = torn x p := by
  apply List.ext_getElem?
  intro i
  rw [List.getElem?_take, List.getElem?_drop, torn_get]
  unfold tornI
  rw [lay_get _ _ _ (by rw [torn_length, List.length_replicate]; omega), torn_length, hx]
  by_cases h : i < 64
  · rw [if_pos h, if_pos (by omega), show 64 * k + i - 64 * k = i by omega, torn_get]
  · rw [if_neg h, List.getElem?_eq_none (by omega)]
    rfl

theorem torn_prog (x p : List Int) (hx : x.length = 64) (k : Nat) (hk : k < 4) :
    (progF (fuseF (newF 2 2) 0 p) k x).2 = 20 ∧ startF (progF (fuseF (newF 2 2) 0 p) k x).1 = ⟨2, tornI k x p, [0, 0], false, -1, []⟩ := by
  have ha : atF (fuseF (newF 2 2) 0 p) k = 0 := atF_ok rfl (by omega) (by show (k : Int) < ((List.replicate 2 (0 : Int)).length * 2 : Nat); rw [List.length_replicate]; omega)
  have hb : blankF (pageF (fuseF (newF 2 2) 0 p) (k : Int).toNat) = true := by
    unfold pageF
    simp only [fuseF, newF]
    rw [part_rep _ _ _ _ (by omega), blank_rep]
  have hc : cutF (fuseF (newF 2 2) 0 p) = ({ fuseF (newF 2 2) 0 p with down := true }, true) := cutF_zero (fuseF_zero _ _)
  unfold progF
  rw [ha, if_neg (by omega), if_neg (by omega), hb, if_neg (by simp), hc, if_pos rfl]
  exact ⟨rfl, rfl⟩

theorem torn_read {k : Nat} {x p : List Int} (hx : x.length = 64) (hk : k < 4) : readF ⟨2, tornI k x p, [0, 0], false, -1, []⟩ k = (torn x p, 0) := by
  have ha : atF ⟨2, tornI k x p, [0, 0], false, -1, []⟩ k = 0 := by
    unfold atF
    rw [if_neg (by simp), if_neg (by simp only [List.length_cons, List.length_nil]; omega)]
  unfold readF
  rw [ha, if_neg (by omega)]
  unfold pageF
  simp only [Int.toNat_natCast]
  rw [tornI_part hx hk]

theorem torn_erase {I p : List Int} (hI : I.length = 256) (hIb : Bytes I) (hp : Bytes p) (h : Nat) (hh : h < 2) :
    (eraseF (fuseF ⟨2, I, [0, 0], false, -1, []⟩ 0 p) h).2 = 20 ∧ (eraseF (fuseF ⟨2, I, [0, 0], false, -1, []⟩ 0 p) h).1.img.length = 256 ∧
      ∀ i y, I[i]? = some y → (eraseF (fuseF ⟨2, I, [0, 0], false, -1, []⟩ 0 p) h).1.img[i]? = some (orB y (if 128 * h ≤ i ∧ i < 128 * h + 128 then pickF p (i - 128 * h) else 0)) := by
  have hc : cutF (fuseF ⟨2, I, [0, 0], false, -1, []⟩ 0 p) = ({ fuseF ⟨2, I, [0, 0], false, -1, []⟩ 0 p with down := true }, true) := cutF_zero (fuseF_zero _ _)
  have he : eraseF (fuseF ⟨2, I, [0, 0], false, -1, []⟩ 0 p) h = ({ fuseF ⟨2, I, [0, 0], false, -1, []⟩ 0 p with down := true, img := lay I (128 * h) (torn ((I.drop (128 * h)).take 128) p), wear := bumpF [0, 0] h }, 20) := by
    unfold eraseF
    rw [if_neg (by simp [fuseF]), if_neg (by simp only [fuseF, List.length_cons, List.length_nil]; omega), hc, if_pos rfl]
    rfl
  have hpl : (torn ((I.drop (128 * h)).take 128) p).length = 128 := by
    rw [torn_length, List.length_take, List.length_drop]
    omega
  rw [he]
  refine ⟨rfl, ?_, fun i y hy => ?_⟩
  · simp only
    rw [lay_length _ _ _ (by omega), hI]
  · simp only
    rw [lay_get _ _ _ (by omega), hpl]
    by_cases hin : 128 * h ≤ i ∧ i < 128 * h + 128
    · rw [if_pos hin, if_pos hin, torn_get, List.getElem?_take, if_pos (by omega), List.getElem?_drop, show 128 * h + (i - 128 * h) = i by omega, hy]
      rfl
    · rw [if_neg hin, if_neg hin, hy, orB_zero (hIb y (List.mem_of_getElem? hy))]

theorem pickF_none {p : List Int} {i : Nat} (h : p.length ≤ i) : pickF p i = 0 := by
  unfold pickF
  rw [List.getElem?_eq_none h]
  rfl
theorem pickF_some {p : List Int} {i : Nat} {y : Int} (h : p[i]? = some y) : pickF p i = y := by
  unfold pickF
  rw [h]
  rfl
end Go.Proofs.Ytfeceamhlphelaa
