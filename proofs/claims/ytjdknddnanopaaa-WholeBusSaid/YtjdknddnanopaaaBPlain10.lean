
/-
  Frames and their checksum. No program in sight.
-/
import Derived.Test.YtjdknddnanopaaaBMem
namespace Go.Proofs.Ytjdknddnanopaaa.Bus

/-- One bit of the checksum. -/
def crc1 (c : Nat) : Nat := if 128 ≤ c then (2 * c) ^^^ 263 else 2 * c
def crcK : Nat → Nat → Nat
  | 0, c => c
  | k + 1, c => crc1 (crcK k c)

def un1 (r : Nat) : Nat := if r % 2 = 1 then (r ^^^ 263) / 2 else r / 2
set_option maxRecDepth 100000 in
theorem crc1_lt : ∀ c < 256, crc1 c < 256 := by decide
set_option maxRecDepth 100000 in
theorem un1_crc1 : ∀ c < 256, un1 (crc1 c) = c := by decide
theorem crc1_inj {a b : Nat} (ha : a < 256) (hb : b < 256) (h : crc1 a = crc1 b) : a = b := by
  rw [← un1_crc1 a ha, h, un1_crc1 b hb]
theorem crcK_lt : ∀ (k : Nat) {c : Nat}, c < 256 → crcK k c < 256
  | 0, _, h => h
  | k + 1, _, h => crc1_lt _ (crcK_lt k h)
theorem crcK_inj : ∀ (k : Nat) {a b : Nat}, a < 256 → b < 256 → crcK k a = crcK k b → a = b
  | 0, _, _, _, _, h => h
  | k + 1, _, _, ha, hb, h => crcK_inj k ha hb (crc1_inj (crcK_lt k ha) (crcK_lt k hb) h)

theorem xor_lt256 {a b : Nat} (ha : a < 256) (hb : b < 256) : a ^^^ b < 256 := Nat.xor_lt_two_pow (n := 8) ha hb
theorem xor_cancel {a b x : Nat} (h : a ^^^ x = b ^^^ x) : a = b := by
  have := congrArg (· ^^^ x) h
  simpa [Nat.xor_assoc] using this
theorem xor_cancel_left {a x y : Nat} (h : a ^^^ x = a ^^^ y) : x = y := by
  rw [Nat.xor_comm a x, Nat.xor_comm a y] at h
  exact xor_cancel h

def Bytes (b : List Int) : Prop := ∀ x ∈ b, 0 ≤ x ∧ x < 256

/-- One byte more of the checksum. -/
def stepF (c : Nat) (x : Int) : Nat := crcK 8 (c ^^^ x.toNat)
theorem stepF_lt {c : Nat} {x : Int} (hc : c < 256) (hx : 0 ≤ x ∧ x < 256) : stepF c x < 256 := crcK_lt 8 (xor_lt256 hc (by omega))
theorem stepF_left {c d : Nat} {x : Int} (hc : c < 256) (hd : d < 256) (hx : 0 ≤ x ∧ x < 256) (h : stepF c x = stepF d x) : c = d := by
  unfold stepF at h
  exact xor_cancel (crcK_inj 8 (xor_lt256 hc (by omega)) (xor_lt256 hd (by omega)) h)
theorem stepF_right {c : Nat} {x y : Int} (hc : c < 256) (hx : 0 ≤ x ∧ x < 256) (hy : 0 ≤ y ∧ y < 256) (h : stepF c x = stepF c y) : x = y := by
  unfold stepF at h
  have := xor_cancel_left (crcK_inj 8 (xor_lt256 hc (by omega)) (xor_lt256 hc (by omega)) h)
  omega
def sumF (b : List Int) : Nat := b.foldl stepF 0

theorem fold_lt : ∀ (b : List Int) (c : Nat), Bytes b → c < 256 → b.foldl stepF c < 256
  | [], _, _, h => h
  | x :: b, c, hb, h => by
    have hx := hb x (by simp)
    rw [List.foldl_cons]
    exact fold_lt b _ (fun y hy => hb y (by simp [hy])) (stepF_lt h hx)
theorem sumF_lt {b : List Int} (h : Bytes b) : sumF b < 256 := fold_lt b 0 h (by omega)
theorem sumF_take {b : List Int} {k : Nat} {x : Int} (h : b[k]? = some x) : sumF (b.take (k + 1)) = stepF (sumF (b.take k)) x := by
  rw [take_snoc_get b k x h]
  simp only [sumF, List.foldl_append, List.foldl_cons, List.foldl_nil]

theorem fold_inj : ∀ (b : List Int) (c d : Nat), Bytes b → c < 256 → d < 256 → b.foldl stepF c = b.foldl stepF d → c = d
  | [], _, _, _, _, _, h => h
  | x :: b, c, d, hb, hc, hd, h => by
    have hx := hb x (by simp)
    rw [List.foldl_cons, List.foldl_cons] at h
    exact stepF_left hc hd hx (fold_inj b _ _ (fun y hy => hb y (by simp [hy])) (stepF_lt hc hx) (stepF_lt hd hx) h)

/-- One changed byte changes the sum. -/
theorem fold_set : ∀ (b : List Int) (c j : Nat) (x y : Int), Bytes b → 0 ≤ y ∧ y < 256 → b[j]? = some x → x ≠ y → c < 256 → (b.set j y).foldl stepF c ≠ b.foldl stepF c
  | [], _, _, x, _, _, _, h, _, _ => by simp at h
  | z :: b, c, 0, x, y, hb, hy, h, hne, hc => by
    simp at h
    subst h
    have hz := hb z (by simp)
    intro e
    rw [List.set_cons_zero, List.foldl_cons, List.foldl_cons] at e
    have e := stepF_right hc hz hy (fold_inj b _ _ (fun u hu => hb u (by simp [hu])) (stepF_lt hc hz) (stepF_lt hc hy) e.symm)
    exact hne e
  | z :: b, c, j + 1, x, y, hb, hy, h, hne, hc => by
    have hz := hb z (by simp)
    rw [List.set_cons_succ, List.foldl_cons, List.foldl_cons]
    exact fold_set b _ j x y (fun u hu => hb u (by simp [hu])) hy (by simpa using h) hne (stepF_lt hc hz)

def headF (s : Int) (d : List Int) : List Int := s :: (d.length : Int) :: d
def encO (s : Int) (d : List Int) : List Int × Int := if s < 0 ∨ 255 < s then ([], 3) else if 32 < d.length then ([], 4) else (headF s d ++ [(sumF (headF s d) : Int)], 0)
def decO (b : List Int) : (Int × List Int) × Int :=
  if b.length < 3 then ((0, []), 18) else if b[1]?.getD 0 ≠ (b.length : Int) - 3 ∨ 35 < b.length then ((0, []), 2) else
  if b[b.length - 1]?.getD 0 ≠ sumF (b.take (b.length - 1)) then ((0, []), 19) else ((b[0]?.getD 0, (b.drop 2).take (b.length - 3)), 0)

theorem headF_length (s : Int) (d : List Int) : (headF s d).length = d.length + 2 := by simp [headF]
theorem headF_bytes {s : Int} {d : List Int} (hs : 0 ≤ s ∧ s < 256) (hd : d.length ≤ 32) (hb : Bytes d) : Bytes (headF s d) := by
  intro x hx
  simp only [headF, List.mem_cons] at hx
  rcases hx with rfl | rfl | hx
  · exact hs
  · omega
  · exact hb x hx

theorem encO_ok {s : Int} {d x : List Int} (h : encO s d = (x, 0)) : 0 ≤ s ∧ s < 256 ∧ d.length ≤ 32 ∧ x = headF s d ++ [(sumF (headF s d) : Int)] := by
  unfold encO at h
  split at h
  · simp at h
  split at h
  · simp at h
  simp only [Prod.mk.injEq, and_true] at h
  exact ⟨by omega, by omega, by omega, h.symm⟩

theorem enc_bytes {s : Int} {d x : List Int} (hd : Bytes d) (h : encO s d = (x, 0)) : Bytes x := by
  obtain ⟨h1, h2, h3, rfl⟩ := encO_ok h
  have hh := headF_bytes ⟨h1, h2⟩ h3 hd
  intro y hy
  rcases List.mem_append.1 hy with hy | hy
  · exact hh y hy
  · rw [List.mem_singleton] at hy
    subst hy
    have := sumF_lt hh
    omega

theorem enc_len {s : Int} {d x : List Int} (h : encO s d = (x, 0)) : x.length = d.length + 3 := by
  obtain ⟨h1, h2, h3, rfl⟩ := encO_ok h
  simp [headF_length]

theorem enc_dec {s : Int} {d x : List Int} (h : encO s d = (x, 0)) : decO x = ((s, d), 0) := by
  have hl := enc_len h
  obtain ⟨h1, h2, h3, rfl⟩ := encO_ok h
  have hh := headF_length s d
  unfold decO
  rw [hl]
  have e0 : (headF s d ++ [(sumF (headF s d) : Int)])[0]? = some s := by simp [headF]
  have e1 : (headF s d ++ [(sumF (headF s d) : Int)])[1]? = some (d.length : Int) := by simp [headF]
  have e2 : (headF s d ++ [(sumF (headF s d) : Int)])[d.length + 3 - 1]? = some (sumF (headF s d) : Int) := by
    rw [List.getElem?_append_right (by omega), hh, show d.length + 3 - 1 - (d.length + 2) = 0 by omega]
    rfl
  have e3 : (headF s d ++ [(sumF (headF s d) : Int)]).take (d.length + 3 - 1) = headF s d := by
    rw [List.take_append_of_le_length (by omega), List.take_of_length_le (by omega)]
  have e4 : ((headF s d ++ [(sumF (headF s d) : Int)]).drop 2).take (d.length + 3 - 3) = d := by simp [headF]
  rw [e0, e1, e2, e3, e4, if_neg (by omega), if_neg (by simp; omega), if_neg (by simp)]
  rfl

theorem decO_ok {b d : List Int} {s : Int} (h : decO b = ((s, d), 0)) : 3 ≤ b.length ∧ b.length ≤ 35 ∧ b[1]?.getD 0 = (b.length : Int) - 3 ∧ b[b.length - 1]?.getD 0 = sumF (b.take (b.length - 1)) ∧ s = b[0]?.getD 0 ∧ d = (b.drop 2).take (b.length - 3) := by
  unfold decO at h
  split at h
  · simp at h
  split at h
  · simp at h
  split at h
  · simp at h
  simp only [Prod.mk.injEq, and_true] at h
  exact ⟨by omega, by omega, by omega, by omega, h.1.symm, h.2.symm⟩

theorem dec_enc {b d : List Int} {s : Int} (hb : Bytes b) (h : decO b = ((s, d), 0)) : encO s d = (b, 0) := by
  obtain ⟨h1, h2, h3, h4, rfl, rfl⟩ := decO_ok h
  match b, h1, h2, h3, h4, hb with
  | x :: y :: r, h1, h2, h3, h4, hb =>
    simp only [List.length_cons] at h1 h2 h3 h4
    simp only [List.length_cons, List.getElem?_cons_zero, List.getElem?_cons_succ, Option.getD_some, List.drop_succ_cons, List.drop_zero] at h3 h4 ⊢
    have hx := hb x (by simp)
    have hr : r ≠ [] := by
      rintro rfl
      simp at h1
    have e1 : r.length + 1 + 1 - 3 = r.length - 1 := by omega
    have e2 : (r.take (r.length - 1)).length = r.length - 1 := by rw [List.length_take]; omega
    have e3 : r.take (r.length - 1) ++ [r[r.length - 1]?.getD 0] = r := by
      obtain ⟨z, hz⟩ := getElem?_of_lt (l := r) (k := r.length - 1) (by omega)
      rw [hz]
      have := take_snoc_get r (r.length - 1) z hz
      rw [show r.length - 1 + 1 = r.length by omega, List.take_length] at this
      exact this.symm
    rw [e1]
    have e4 : headF x (r.take (r.length - 1)) = (x :: y :: r).take (r.length + 1 + 1 - 1) := by
      rw [show r.length + 1 + 1 - 1 = (r.length - 1) + 1 + 1 by omega]
      simp only [headF, List.take_succ_cons, e2]
      rw [show ((r.length - 1 : Nat) : Int) = y by omega]
    have e5 : (x :: y :: r)[r.length + 1 + 1 - 1]?.getD 0 = r[r.length - 1]?.getD 0 := by
      rw [show r.length + 1 + 1 - 1 = (r.length - 1) + 1 + 1 by omega]
      simp
    unfold encO
    rw [if_neg (by omega), if_neg (by omega), e4, ← h4, e5]
    rw [← e4, headF, e2, show ((r.length - 1 : Nat) : Int) = y by omega]
    simp only [List.cons_append, e3]

/-- A frame of which one byte is changed is refused. -/
theorem spoil {s : Int} {d x : List Int} (hd : Bytes d) (h : encO s d = (x, 0)) {j : Nat} {u y : Int} (hu : x[j]? = some u) (hne : u ≠ y) (hy : 0 ≤ y ∧ y < 256) : (decO (x.set j y)).2 ≠ 0 := by
  intro hc
  obtain ⟨⟨⟨s', d'⟩, e⟩, hq⟩ : ∃ q, decO (x.set j y) = q := ⟨_, rfl⟩
  rw [hq] at hc
  simp only at hc
  subst hc
  have hb := enc_bytes hd h
  have hl := enc_len h
  have h' := decO_ok (enc_dec h)
  obtain ⟨h1, h2, h3, h4, h5, h6⟩ := decO_ok hq
  obtain ⟨g1, g2, g3, g4, g5, g6⟩ := h'
  rw [List.length_set] at h1 h2 h3 h4 h6
  have hj : j < x.length := (List.getElem?_eq_some_iff.1 hu).1
  by_cases e1 : j = 1
  · subst e1
    rw [List.getElem?_set_self hj] at h3
    rw [hu] at g3
    simp only [Option.getD_some] at h3 g3
    omega
  by_cases e2 : j = x.length - 1
  · rw [e2, List.getElem?_set_self (by omega), List.take_set_of_le (Nat.le_refl _), ← g4, ← e2, hu] at h4
    simp only [Option.getD_some] at h4
    exact hne h4.symm
  · rw [List.getElem?_set_ne e2, g4, List.take_set] at h4
    have hu' : (x.take (x.length - 1))[j]? = some u := by rw [List.getElem?_take, if_pos (by omega)]; exact hu
    have := fold_set (x.take (x.length - 1)) 0 j u y (fun z hz => hb z (List.mem_of_mem_take hz)) hy hu' hne (by omega)
    unfold sumF at h4
    omega

/-- A frame that is cut is refused. -/
theorem cut_off {s : Int} {d x : List Int} (h : encO s d = (x, 0)) {c : Nat} (hc : c < x.length) : (decO (x.take c)).2 ≠ 0 := by
  intro hz
  obtain ⟨⟨⟨s', d'⟩, e⟩, hq⟩ : ∃ q, decO (x.take c) = q := ⟨_, rfl⟩
  rw [hq] at hz
  simp only at hz
  subst hz
  obtain ⟨g1, g2, g3, _⟩ := decO_ok (enc_dec h)
  obtain ⟨h1, h2, h3, _⟩ := decO_ok hq
  rw [List.length_take] at h1 h2 h3
  rw [List.getElem?_take, if_pos (by omega)] at h3
  omega

/-- Frames missed. -/
def missO (a b : Int) : Int := (b - a - 1) % 256
theorem miss_back (a n : Int) (hn : 0 ≤ n ∧ n < 256) : missO a ((a + 1 + n) % 256) = n := by unfold missO; omega
end Go.Proofs.Ytjdknddnanopaaa.Bus
