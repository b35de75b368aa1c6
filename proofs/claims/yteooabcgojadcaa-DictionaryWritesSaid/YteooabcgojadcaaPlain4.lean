/-
  Bytes and numbers, there and back. No program in sight.
-/
import Derived.Test.YteooabcgojadcaaPlain3
namespace Go.Proofs.Yteooabcgojadcaa

theorem bytesTo1 (v : Int) : bytesTo v 1 = [v % 256] := by simp [bytesTo, List.range_succ]
theorem bytesTo2 (v : Int) : bytesTo v 2 = [v % 256, v / 256 % 256] := by simp [bytesTo, List.range_succ]
theorem bytesTo4 (v : Int) : bytesTo v 4 = [v % 256, v / 256 % 256, v / 65536 % 256, v / 16777216 % 256] := by simp [bytesTo, List.range_succ]
theorem leTo1 (a : Int) : leTo [a] 1 = a := by simp [leTo]
theorem leTo2 (a b : Int) : leTo [a, b] 2 = a + b * 256 := by simp [leTo]
theorem leTo4 (a b c d : Int) : leTo [a, b, c, d] 4 = a + b * 256 + c * 65536 + d * 16777216 := by simp [leTo]

theorem back_bytes (t v : Int) (h : (bytesO t v).2 = 0) : numO t (bytesO t v).1 = (v, 0) := by
  have hb : ∀ kd : Kd, kindOf t = kd → kd.n ≠ 0 → ¬ (v < kd.lo ∨ kd.hi < v) ∧ bytesO t v = (bytesTo v kd.n, 0) := by
    intro kd e hn
    have hr : ¬ (v < kd.lo ∨ kd.hi < v) := by
      intro hr
      unfold bytesO at h
      rw [e, if_neg hn, if_pos hr] at h
      simp at h
    refine ⟨hr, ?_⟩
    unfold bytesO
    rw [e, if_neg hn, if_neg hr]
  have hnum : ∀ kd : Kd, kindOf t = kd → kd.n ≠ 0 → ∀ z, leTo (bytesTo v kd.n) kd.n = z → (t = 0 → z ≤ 1) → (kd.lo < 0 ∧ -kd.lo ≤ z → z + 2 * kd.lo = v) → (¬ (kd.lo < 0 ∧ -kd.lo ≤ z) → z = v) → numO t (bytesTo v kd.n) = (v, 0) := by
    intro kd e hn z hz h1 h2 h3
    unfold numO
    rw [e, if_neg hn, bytesTo_length, if_neg (by simp), hz, if_neg (by intro hh; have := h1 hh.1; omega)]
    split
    · rename_i hh; rw [h2 hh]
    · rename_i hh; rw [h3 hh]
  rcases kind_cases t with ⟨e, g⟩ | ⟨e, g⟩ | ⟨e, g⟩ | ⟨e, g⟩ | ⟨e, g⟩ | ⟨e, g⟩ | ⟨e, g⟩ | ⟨e, g⟩
  · obtain ⟨hr, hv⟩ := hb _ e (by decide)
    simp only at hr
    rw [hv]
    exact hnum _ e (by decide) _ (by simp only [bytesTo1, leTo1]; rfl) (by omega) (by simp only; omega) (by simp only; omega)
  · obtain ⟨hr, hv⟩ := hb _ e (by decide)
    simp only at hr
    rw [hv]
    exact hnum _ e (by decide) _ (by simp only [bytesTo1, leTo1]; rfl) (by omega) (by simp only; omega) (by simp only; omega)
  · obtain ⟨hr, hv⟩ := hb _ e (by decide)
    simp only at hr
    rw [hv]
    exact hnum _ e (by decide) _ (by simp only [bytesTo1, leTo1]; rfl) (by omega) (by simp only; omega) (by simp only; omega)
  · obtain ⟨hr, hv⟩ := hb _ e (by decide)
    simp only at hr
    rw [hv]
    exact hnum _ e (by decide) _ (by simp only [bytesTo2, leTo2]; rfl) (by omega) (by simp only; omega) (by simp only; omega)
  · obtain ⟨hr, hv⟩ := hb _ e (by decide)
    simp only at hr
    rw [hv]
    exact hnum _ e (by decide) _ (by simp only [bytesTo2, leTo2]; rfl) (by omega) (by simp only; omega) (by simp only; omega)
  · obtain ⟨hr, hv⟩ := hb _ e (by decide)
    simp only at hr
    rw [hv]
    exact hnum _ e (by decide) _ (by simp only [bytesTo4, leTo4]; rfl) (by omega) (by simp only; omega) (by simp only; omega)
  · obtain ⟨hr, hv⟩ := hb _ e (by decide)
    simp only at hr
    rw [hv]
    exact hnum _ e (by decide) _ (by simp only [bytesTo4, leTo4]; rfl) (by omega) (by simp only; omega) (by simp only; omega)
  · exfalso
    unfold bytesO at h
    rw [e] at h
    simp at h

theorem len1 {b : List Int} (h : b.length = 1) : ∃ x, b = [x] := by
  match b, h with
  | [x], _ => exact ⟨x, rfl⟩
theorem len2 {b : List Int} (h : b.length = 2) : ∃ x y, b = [x, y] := by
  match b, h with
  | [x, y], _ => exact ⟨x, y, rfl⟩
theorem len4 {b : List Int} (h : b.length = 4) : ∃ x y z u, b = [x, y, z, u] := by
  match b, h with
  | [x, y, z, u], _ => exact ⟨x, y, z, u, rfl⟩

theorem back_num (t : Int) (b : List Int) (hr : ∀ x ∈ b, 0 ≤ x ∧ x < 256) (h : (numO t b).2 = 0) : bytesO t (numO t b).1 = (b, 0) := by
  have hn : ∀ kd : Kd, kindOf t = kd → kd.n ≠ 0 → b.length = kd.n ∧ ∃ z v, leTo b kd.n = z ∧ (t = 0 → z ≤ 1) ∧ numO t b = (v, 0) ∧ (kd.lo < 0 ∧ -kd.lo ≤ z → v = z + 2 * kd.lo) ∧ (¬ (kd.lo < 0 ∧ -kd.lo ≤ z) → v = z) := by
    intro kd e hn
    unfold numO at h ⊢
    rw [e, if_neg hn] at h ⊢
    by_cases hl : b.length = kd.n
    · rw [if_neg (by simpa using hl)] at h ⊢
      rw [hl] at h ⊢
      by_cases h1 : t = 0 ∧ 1 < leTo b kd.n
      · rw [if_pos h1] at h; simp at h
      · rw [if_neg h1] at h ⊢
        by_cases h2 : kd.lo < 0 ∧ -kd.lo ≤ leTo b kd.n
        · exact ⟨rfl, _, _, rfl, fun h0 => by omega, if_pos h2, fun _ => rfl, fun h3 => absurd h2 h3⟩
        · exact ⟨rfl, _, _, rfl, fun h0 => by omega, if_neg h2, fun h3 => absurd h3 h2, fun _ => rfl⟩
    · rw [if_pos hl] at h; simp at h
  have hb : ∀ kd : Kd, kindOf t = kd → kd.n ≠ 0 → ∀ v, ¬ (v < kd.lo ∨ kd.hi < v) → bytesTo v kd.n = b → bytesO t v = (b, 0) := by
    intro kd e hn v h1 h2
    unfold bytesO
    rw [e, if_neg hn, if_neg h1, h2]
  rcases kind_cases t with ⟨e, g⟩ | ⟨e, g⟩ | ⟨e, g⟩ | ⟨e, g⟩ | ⟨e, g⟩ | ⟨e, g⟩ | ⟨e, g⟩ | ⟨e, g⟩
  · obtain ⟨hl, q, v, hq, h1, hv, h2, h3⟩ := hn _ e (by decide)
    simp only at hl h2 h3
    obtain ⟨x, rfl⟩ := len1 hl
    obtain ⟨x0, x1⟩ := hr x (by simp)
    simp only [leTo1] at hq
    rw [hv]
    refine hb _ e (by decide) v (by simp only; omega) ?_
    simp only [bytesTo1, List.cons.injEq, and_true]
    omega
  · obtain ⟨hl, q, v, hq, h1, hv, h2, h3⟩ := hn _ e (by decide)
    simp only at hl h2 h3
    obtain ⟨x, rfl⟩ := len1 hl
    obtain ⟨x0, x1⟩ := hr x (by simp)
    simp only [leTo1] at hq
    rw [hv]
    refine hb _ e (by decide) v (by simp only; omega) ?_
    simp only [bytesTo1, List.cons.injEq, and_true]
    omega
  · obtain ⟨hl, q, v, hq, h1, hv, h2, h3⟩ := hn _ e (by decide)
    simp only at hl h2 h3
    obtain ⟨x, rfl⟩ := len1 hl
    obtain ⟨x0, x1⟩ := hr x (by simp)
    simp only [leTo1] at hq
    rw [hv]
    refine hb _ e (by decide) v (by simp only; omega) ?_
    simp only [bytesTo1, List.cons.injEq, and_true]
    omega
  · obtain ⟨hl, q, v, hq, h1, hv, h2, h3⟩ := hn _ e (by decide)
    simp only at hl h2 h3
    obtain ⟨x, y, rfl⟩ := len2 hl
    obtain ⟨x0, x1⟩ := hr x (by simp)
    obtain ⟨y0, y1⟩ := hr y (by simp)
    simp only [leTo2] at hq
    rw [hv]
    refine hb _ e (by decide) v (by simp only; omega) ?_
    simp only [bytesTo2, List.cons.injEq, and_true]
    omega
  · obtain ⟨hl, q, v, hq, h1, hv, h2, h3⟩ := hn _ e (by decide)
    simp only at hl h2 h3
    obtain ⟨x, y, rfl⟩ := len2 hl
    obtain ⟨x0, x1⟩ := hr x (by simp)
    obtain ⟨y0, y1⟩ := hr y (by simp)
    simp only [leTo2] at hq
    rw [hv]
    refine hb _ e (by decide) v (by simp only; omega) ?_
    simp only [bytesTo2, List.cons.injEq, and_true]
    omega
  · obtain ⟨hl, q, v, hq, h1, hv, h2, h3⟩ := hn _ e (by decide)
    simp only at hl h2 h3
    obtain ⟨x, y, z, u, rfl⟩ := len4 hl
    obtain ⟨x0, x1⟩ := hr x (by simp)
    obtain ⟨y0, y1⟩ := hr y (by simp)
    obtain ⟨z0, z1⟩ := hr z (by simp)
    obtain ⟨u0, u1⟩ := hr u (by simp)
    simp only [leTo4] at hq
    rw [hv]
    refine hb _ e (by decide) v (by simp only; omega) ?_
    simp only [bytesTo4, List.cons.injEq, and_true]
    omega
  · obtain ⟨hl, q, v, hq, h1, hv, h2, h3⟩ := hn _ e (by decide)
    simp only at hl h2 h3
    obtain ⟨x, y, z, u, rfl⟩ := len4 hl
    obtain ⟨x0, x1⟩ := hr x (by simp)
    obtain ⟨y0, y1⟩ := hr y (by simp)
    obtain ⟨z0, z1⟩ := hr z (by simp)
    obtain ⟨u0, u1⟩ := hr u (by simp)
    simp only [leTo4] at hq
    rw [hv]
    refine hb _ e (by decide) v (by simp only; omega) ?_
    simp only [bytesTo4, List.cons.injEq, and_true]
    omega
  · exfalso
    unfold numO at h
    rw [e] at h
    simp at h
end Go.Proofs.Yteooabcgojadcaa
