
/-
  Packed values are unpacked again, and unpacked data is packed again. No program in sight.
-/
import Derived.Test.YtjdknddnanopaaaBPlain9
namespace Go.Proofs.Ytjdknddnanopaaa.Bus

/-- An object's type is known, and its limits lie within the type's. -/
def Kept (x : Ob) : Prop := (kindOf x.t).n ≠ 0 ∧ (kindOf x.t).lo ≤ x.lo ∧ x.hi ≤ (kindOf x.t).hi

theorem kept_of_check {l : List Ob} (h : checkO l = 0) : ∀ x ∈ l, Kept x := by
  intro x hx
  unfold checkO at h
  split at h
  · simp at h
  · obtain ⟨a, _, _⟩ := checkFrom_zero l none h
    obtain ⟨h1, h2, h3, h4⟩ := a x hx
    unfold Ob.wide at h4
    exact ⟨h2, by omega, by omega⟩

theorem sign_back {t v : Int} (hn : (kindOf t).n ≠ 0) (h1 : (kindOf t).lo ≤ v) (h2 : v ≤ (kindOf t).hi) : signO t (v % 2 ^ bitsO t) = v := by
  unfold signO bitsO
  rcases kind_cases t with ⟨e, g⟩ | ⟨e, g⟩ | ⟨e, g⟩ | ⟨e, g⟩ | ⟨e, g⟩ | ⟨e, g⟩ | ⟨e, g⟩ | ⟨e, g⟩ <;> rw [e] at hn h1 h2 ⊢ <;> simp only at hn h1 h2 ⊢
  · subst g; simp; omega
  · subst g; simp; omega
  · subst g; simp; omega
  · subst g; simp; omega
  · subst g; simp; omega
  · subst g; simp; omega
  · subst g; simp; omega
  · exact absurd rfl hn

theorem sign_mod (t v : Int) : signO t v % 2 ^ bitsO t = v % 2 ^ bitsO t := by
  unfold signO
  split
  · rw [Int.sub_emod, Int.emod_self, Int.sub_zero, Int.emod_emod]
  · rfl

theorem read_laid (b : List Int) : ∀ (f : List Ob) (vs : List Int) (a : Nat), vs.length = f.length → (∀ x ∈ f, Kept x) → fitV f vs = true →
    (∀ i, i < sumB f → bitOf b (a + i) = (laidB f vs)[i]?.getD 0) → readV b f a = vs
  | [], [], a, _, _, _, _ => rfl
  | [], v :: vs, a, h, _, _, _ => by simp at h
  | x :: f, [], a, h, _, _, _ => by simp at h
  | x :: f, v :: vs, a, hl, hk, hf, hb => by
    simp [fitV] at hf
    obtain ⟨k1, k2, k3⟩ := hk x (by simp)
    have e1 : bitsAt b a (bitsO x.t) = bitsN v (bitsO x.t) := by
      apply List.ext_getElem?
      intro i
      by_cases hi : i < bitsO x.t
      · have hh := hb i (by rw [sumB]; omega)
        rw [laidB, List.getElem?_append_left (by rw [bitsN_length]; exact hi)] at hh
        rw [bitsAt_get _ _ hi, hh]
        simp [bitsN, hi]
      · rw [List.getElem?_eq_none (by rw [bitsAt_length]; omega), List.getElem?_eq_none (by rw [bitsN_length]; omega)]
    rw [readV, e1, valB_bitsN, sign_back k1 (by omega) (by omega)]
    rw [read_laid b f vs (a + bitsO x.t) (by simpa using hl) (fun y hy => hk y (by simp [hy])) hf.2 (fun i hi => by
      have hh := hb (bitsO x.t + i) (by rw [sumB]; omega)
      rw [laidB, List.getElem?_append_right (by rw [bitsN_length]; omega), bitsN_length, show bitsO x.t + i - bitsO x.t = i by omega] at hh
      rw [Nat.add_assoc]
      exact hh)]

theorem pack_back {l : List Ob} {m : List It} {vs b : List Int} (h : packO l m vs = (b, 0)) : unpackO l m b = (vs, 0) ∧ sizeO l m = (b.length, 0) := by
  unfold packO unpackO sizeO at *
  obtain ⟨f, e⟩ : ∃ q, findM l noChk m = q := ⟨_, rfl⟩
  obtain ⟨f, e'⟩ := f
  rw [e] at h ⊢
  unfold packQ at h
  unfold unpackQ sizeQ
  simp only at h ⊢
  split at h
  · rename_i hc
    simp only [Prod.mk.injEq] at h
    exact absurd h.2 hc
  rename_i hc
  have he : e' = 0 := by omega
  subst he
  obtain ⟨c1, c2, c3, c4, c5⟩ := findM_ok e
  split at h
  · simp at h
  rename_i hl
  split at h
  · simp at h
  rename_i hf
  simp only [Prod.mk.injEq, and_true] at h
  have hl' : vs.length = f.length := by omega
  have hf' : fitV f vs = true := by simpa using hf
  have hlen : b.length = (sumB f + 7) / 8 := by rw [← h, packB_length]
  have hL := laidB_length f vs hl'
  have hbit : ∀ i, i < 8 * b.length → bitOf b i = (laidB f vs)[i]?.getD 0 := by
    intro i hi
    rw [hlen] at hi
    rw [← h]
    exact bitOf_packB (laidB_bin f vs) hi
  have hr : readV b f 0 = vs := read_laid b f vs 0 hl' (fun x hx => kept_of_check c1 x (c4 x hx)) hf' (fun i hi => by
    rw [Nat.zero_add]
    exact hbit i (by omega))
  have hlo : loose b (sumB f) = false := by
    rw [Bool.eq_false_iff, Ne, loose_iff]
    rintro ⟨i, h1, h2, h3⟩
    rw [hbit i h2, List.getElem?_eq_none (by omega)] at h3
    simp at h3
  refine ⟨?_, ?_⟩
  · rw [if_neg (by simp), if_neg (by simp [hlen]), if_neg (by simp [hlo]), hr, if_neg (by simp [hf'])]
  · rw [if_neg (by simp), hlen]

theorem laid_read (b : List Int) : ∀ (f : List Ob) (a : Nat), laidB f (readV b f a) = bitsAt b a (sumB f)
  | [], a => by simp [laidB, sumB, bitsAt]
  | x :: f, a => by
    have hb := bitsAt_bin b a (bitsO x.t)
    have e1 : bitsN (signO x.t (valB (bitsAt b a (bitsO x.t)))) (bitsO x.t) = bitsAt b a (bitsO x.t) := by
      rw [bitsN_mod (sign_mod x.t _)]
      have := bitsN_valB hb
      rw [bitsAt_length] at this
      exact this
    rw [readV, laidB, laid_read b f, e1, sumB, bitsAt_add]

theorem byte_ext {x y : Int} (hx : 0 ≤ x ∧ x < 256) (hy : 0 ≤ y ∧ y < 256) (h : ∀ r, r < 8 → x / 2 ^ r % 2 = y / 2 ^ r % 2) : x = y := by
  have e : bitsN x 8 = bitsN y 8 := by
    unfold bitsN
    apply List.map_congr_left
    intro r hr
    exact h r (List.mem_range.1 hr)
  have e2 := valB_bitsN x 8
  rw [e, valB_bitsN y 8] at e2
  omega

theorem unpack_back {l : List Ob} {m : List It} {vs b : List Int} (hb : ∀ x ∈ b, 0 ≤ x ∧ x < 256) (h : unpackO l m b = (vs, 0)) : packO l m vs = (b, 0) ∧ sizeO l m = (b.length, 0) := by
  unfold packO unpackO sizeO at *
  obtain ⟨f, e⟩ : ∃ q, findM l noChk m = q := ⟨_, rfl⟩
  obtain ⟨f, e'⟩ := f
  rw [e] at h ⊢
  unfold unpackQ at h
  unfold packQ sizeQ
  simp only at h ⊢
  split at h
  · rename_i hc
    simp only [Prod.mk.injEq] at h
    exact absurd h.2 hc
  rename_i hc
  have he : e' = 0 := by omega
  subst he
  split at h
  · simp at h
  rename_i hl
  split at h
  · simp at h
  rename_i hlo
  split at h
  · simp at h
  rename_i hf
  simp only [Prod.mk.injEq, and_true] at h
  have hlen : b.length = (sumB f + 7) / 8 := by omega
  have hf' : fitV f vs = true := by rw [← h]; simpa using hf
  have hlo' : loose b (sumB f) = false := by simpa using hlo
  have hL : laidB f vs = bitsAt b 0 (sumB f) := by rw [← h, laid_read]
  have hp : packB (laidB f vs) ((sumB f + 7) / 8) = b := by
    rw [hL]
    apply List.ext_getElem?
    intro j
    by_cases hj : j < b.length
    · rw [packB_get _ (by omega), List.getElem?_eq_getElem hj]
      congr 1
      refine byte_ext (byteAt_range (bitsAt_bin _ _ _) _) (hb _ (List.getElem_mem hj)) (fun r hr => ?_)
      rw [byteAt_bit (bitsAt_bin _ _ _) _ hr]
      have e3 : b[j] / 2 ^ r % 2 = bitOf b (8 * j + r) := by
        unfold bitOf
        rw [show (8 * j + r) / 8 = j by omega, show (8 * j + r) % 8 = r by omega, List.getElem?_eq_getElem hj]
        rfl
      rw [e3]
      by_cases hs : 8 * j + r < sumB f
      · rw [bitsAt_get _ _ hs, Nat.zero_add]; rfl
      · rw [List.getElem?_eq_none (by rw [bitsAt_length]; omega)]
        rcases bitOf_bin b (8 * j + r) with e4 | e4
        · rw [e4]; rfl
        · have : loose b (sumB f) = true := loose_iff.2 ⟨8 * j + r, by omega, by omega, e4⟩
          rw [this] at hlo'
          cases hlo'
    · rw [List.getElem?_eq_none (by rw [packB_length]; omega), List.getElem?_eq_none (by omega)]
  refine ⟨?_, ?_⟩
  · rw [if_neg (by simp), if_neg (by rw [← h, readV_length]; simp), if_neg (by simp [hf']), hp]
  · rw [if_neg (by simp), hlen]
end Go.Proofs.Ytjdknddnanopaaa.Bus
