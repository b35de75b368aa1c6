
/-
  Bits of numbers, packed into bytes and read again. No program in sight.
-/
import Derived.Test.YtjdknddnanopaaaBPlain8
namespace Go.Proofs.Ytjdknddnanopaaa.Bus

/-- Bits, the least first, as a number. -/
def valB : List Int → Int
  | [] => 0
  | b :: r => b + 2 * valB r

def Bin (l : List Int) : Prop := ∀ y ∈ l, y = 0 ∨ y = 1

theorem pow2_pos (n : Nat) : (0 : Int) < 2 ^ n := Int.pow_pos (by omega)

theorem valB_snoc : ∀ (l : List Int) (y : Int), valB (l ++ [y]) = valB l + y * 2 ^ l.length
  | [], y => by simp [valB]
  | b :: r, y => by
    simp only [List.cons_append, valB, valB_snoc r y, List.length_cons, Int.pow_succ]
    rw [Int.mul_add, ← Int.mul_assoc 2 y, Int.mul_comm 2 y, Int.mul_assoc y 2, Int.mul_comm (2 ^ r.length) 2]
    omega

theorem valB_range : ∀ {l : List Int}, Bin l → 0 ≤ valB l ∧ valB l < 2 ^ l.length
  | [], _ => by simp [valB]
  | b :: r, h => by
    obtain ⟨h1, h2⟩ := valB_range (l := r) (fun y hy => h y (by simp [hy]))
    have := h b (by simp)
    simp only [valB, List.length_cons, Int.pow_succ]
    omega

theorem valB_bit : ∀ {l : List Int}, Bin l → ∀ r, valB l / 2 ^ r % 2 = l[r]?.getD 0
  | [], _, r => by simp [valB]
  | b :: q, h, 0 => by
    have := h b (by simp)
    simp only [valB, Int.pow_zero, List.getElem?_cons_zero, Option.getD_some]
    omega
  | b :: q, h, r + 1 => by
    have ih := valB_bit (l := q) (fun y hy => h y (by simp [hy])) r
    have hb := h b (by simp)
    simp only [valB, List.getElem?_cons_succ]
    rw [← ih, Int.pow_succ, Int.mul_comm (2 ^ r) 2, ← Int.ediv_ediv_of_nonneg (by omega : (0 : Int) ≤ 2), show (b + 2 * valB q) / 2 = valB q by omega]

/-- The first n bits of a number. -/
def bitsN (v : Int) (n : Nat) : List Int := (List.range n).map (fun k => v / 2 ^ k % 2)
theorem bitsN_length (v : Int) (n : Nat) : (bitsN v n).length = n := by simp [bitsN]
theorem bitsN_succ (v : Int) (n : Nat) : bitsN v (n + 1) = bitsN v n ++ [v / 2 ^ n % 2] := by simp [bitsN, List.range_succ]
theorem bitsN_bin (v : Int) (n : Nat) : Bin (bitsN v n) := by
  intro y hy
  simp only [bitsN, List.mem_map] at hy
  obtain ⟨k, _, rfl⟩ := hy
  omega
theorem valB_bitsN (v : Int) : ∀ n, valB (bitsN v n) = v % 2 ^ n
  | 0 => by simp [bitsN, valB, Int.emod_one]
  | n + 1 => by
    have hp := pow2_pos n
    rw [bitsN_succ, valB_snoc, valB_bitsN v n, bitsN_length, Int.pow_succ]
    have h1 := Int.mul_ediv_add_emod v (2 ^ n)
    generalize hq : v / 2 ^ n = q at *
    have h2 : q = 2 * (q / 2) + q % 2 := by omega
    have h3 : 0 ≤ v % 2 ^ n ∧ v % 2 ^ n < 2 ^ n := ⟨Int.emod_nonneg _ (by omega), Int.emod_lt_of_pos _ hp⟩
    generalize hr : v % 2 ^ n = r at *
    have h4 : v = (2 ^ n * 2) * (q / 2) + (q % 2 * 2 ^ n + r) := by
      rw [← h1]
      conv => lhs; rw [h2]
      rw [Int.mul_add, Int.mul_assoc, Int.mul_comm (q % 2)]
      omega
    have h5 : q % 2 = 0 ∨ q % 2 = 1 := by omega
    have h6 : 0 ≤ q % 2 * 2 ^ n + r ∧ q % 2 * 2 ^ n + r < 2 ^ n * 2 := by
      rcases h5 with h5 | h5 <;> rw [h5] <;> omega
    rw [h4, Int.mul_add_emod_self_left, Int.emod_eq_of_lt h6.1 h6.2]
    omega

theorem bits_ext {a b : List Int} (ha : Bin a) (hb : Bin b) (hl : a.length = b.length) (h : valB a = valB b) : a = b := by
  apply List.ext_getElem?
  intro i
  by_cases hi : i < a.length
  · have e1 := valB_bit ha i
    have e2 := valB_bit hb i
    rw [h, e2, List.getElem?_eq_getElem hi, List.getElem?_eq_getElem (by omega)] at e1
    rw [List.getElem?_eq_getElem hi, List.getElem?_eq_getElem (by omega)]
    simp at e1
    rw [e1]
  · rw [List.getElem?_eq_none (by omega), List.getElem?_eq_none (by omega)]

theorem bitsN_valB {l : List Int} (h : Bin l) : bitsN (valB l) l.length = l := by
  apply bits_ext (bitsN_bin _ _) h (bitsN_length _ _)
  obtain ⟨h1, h2⟩ := valB_range h
  rw [valB_bitsN, Int.emod_eq_of_lt h1 h2]
theorem bitsN_mod {v v' : Int} {n : Nat} (h : v % 2 ^ n = v' % 2 ^ n) : bitsN v n = bitsN v' n :=
  bits_ext (bitsN_bin _ _) (bitsN_bin _ _) (by rw [bitsN_length, bitsN_length]) (by rw [valB_bitsN, valB_bitsN, h])

/-- Byte j of bits. -/
def byteAt (bs : List Int) (j : Nat) : Int := valB ((bs.drop (8 * j)).take 8)
def packB (bs : List Int) (n : Nat) : List Int := (List.range n).map (byteAt bs)
theorem packB_length (bs : List Int) (n : Nat) : (packB bs n).length = n := by simp [packB]
theorem packB_get (bs : List Int) {n j : Nat} (h : j < n) : (packB bs n)[j]? = some (byteAt bs j) := by simp [packB, h]
theorem packB_nil (n : Nat) : packB [] n = List.replicate n 0 := by
  apply List.ext_getElem?
  intro i
  by_cases hi : i < n
  · rw [packB_get _ hi, List.getElem?_replicate, if_pos hi]; simp [byteAt, valB]
  · rw [List.getElem?_eq_none (by rw [packB_length]; omega), List.getElem?_eq_none (by rw [List.length_replicate]; omega)]

theorem sub_bin {bs : List Int} (h : Bin bs) (j : Nat) : Bin ((bs.drop j).take 8) := fun y hy => h y (List.mem_of_mem_drop (List.mem_of_mem_take hy))

theorem byteAt_other (bs : List Int) (y : Int) {j : Nat} (h : j ≠ bs.length / 8) : byteAt (bs ++ [y]) j = byteAt bs j := by
  unfold byteAt
  by_cases h1 : j < bs.length / 8
  · rw [List.drop_append_of_le_length (by omega), List.take_append_of_le_length (by rw [List.length_drop]; omega)]
  · rw [List.drop_eq_nil_of_le (by rw [List.length_append, List.length_singleton]; omega), List.drop_eq_nil_of_le (by omega)]

theorem byteAt_at {bs : List Int} (h : Bin bs) (y : Int) : byteAt (bs ++ [y]) (bs.length / 8) = byteAt bs (bs.length / 8) + y * 2 ^ (bs.length % 8) ∧ 0 ≤ byteAt bs (bs.length / 8) ∧ byteAt bs (bs.length / 8) < 2 ^ (bs.length % 8) := by
  have hl : (bs.drop (8 * (bs.length / 8))).length = bs.length % 8 := by rw [List.length_drop]; omega
  have ht : (bs.drop (8 * (bs.length / 8))).take 8 = bs.drop (8 * (bs.length / 8)) := List.take_of_length_le (by omega)
  refine ⟨?_, ?_⟩
  · unfold byteAt
    rw [List.drop_append_of_le_length (by omega), ht, List.take_of_length_le (by rw [List.length_append, hl]; simp; omega), valB_snoc, hl]
  · have := valB_range (sub_bin h (8 * (bs.length / 8)))
    unfold byteAt
    rw [ht] at this ⊢
    rw [hl] at this
    exact this

theorem packB_snoc {bs : List Int} (y : Int) {n : Nat} : packB (bs ++ [y]) n = (packB bs n).set (bs.length / 8) (byteAt (bs ++ [y]) (bs.length / 8)) := by
  apply List.ext_getElem?
  intro i
  by_cases hi : i < n
  · rw [packB_get _ hi, List.getElem?_set]
    split
    · rename_i e
      rw [if_pos (by rw [packB_length]; omega), e]
    · rename_i e
      rw [packB_get _ hi, byteAt_other _ _ (by omega)]
  · rw [List.getElem?_eq_none (by rw [packB_length]; omega), List.getElem?_eq_none (by rw [List.length_set, packB_length]; omega)]

theorem byteAt_range {bs : List Int} (h : Bin bs) (j : Nat) : 0 ≤ byteAt bs j ∧ byteAt bs j < 256 := by
  obtain ⟨h1, h2⟩ := valB_range (sub_bin h (8 * j))
  refine ⟨h1, Int.lt_of_lt_of_le h2 ?_⟩
  rw [show (256 : Int) = 2 ^ 8 by rfl]
  exact_mod_cast Nat.pow_le_pow_right (by omega) (by rw [List.length_take]; omega)

theorem packB_range {bs : List Int} (h : Bin bs) (n : Nat) : ∀ x ∈ packB bs n, 0 ≤ x ∧ x < 256 := by
  intro x hx
  simp only [packB, List.mem_map] at hx
  obtain ⟨j, _, rfl⟩ := hx
  exact byteAt_range h j

/-- Bit i of bytes. -/
def bitOf (b : List Int) (i : Nat) : Int := (b[i / 8]?.getD 0) / 2 ^ (i % 8) % 2
theorem bitOf_bin (b : List Int) (i : Nat) : bitOf b i = 0 ∨ bitOf b i = 1 := by unfold bitOf; omega

theorem byteAt_bit {bs : List Int} (h : Bin bs) (j : Nat) {r : Nat} (hr : r < 8) : byteAt bs j / 2 ^ r % 2 = bs[8 * j + r]?.getD 0 := by
  unfold byteAt
  rw [valB_bit (sub_bin h _), List.getElem?_take, if_pos hr, List.getElem?_drop]

theorem bitOf_packB {bs : List Int} (h : Bin bs) {n i : Nat} (hi : i < 8 * n) : bitOf (packB bs n) i = bs[i]?.getD 0 := by
  unfold bitOf
  rw [packB_get _ (by omega), Option.getD_some, byteAt_bit h _ (by omega)]
  congr 2
  omega

/-- n bits of bytes, from one on. -/
def bitsAt (b : List Int) (at' n : Nat) : List Int := (List.range n).map (fun k => bitOf b (at' + k))
theorem bitsAt_length (b : List Int) (a n : Nat) : (bitsAt b a n).length = n := by simp [bitsAt]
theorem bitsAt_succ (b : List Int) (a n : Nat) : bitsAt b a (n + 1) = bitsAt b a n ++ [bitOf b (a + n)] := by simp [bitsAt, List.range_succ]
theorem bitsAt_bin (b : List Int) (a n : Nat) : Bin (bitsAt b a n) := by
  intro y hy
  simp only [bitsAt, List.mem_map] at hy
  obtain ⟨k, _, rfl⟩ := hy
  exact bitOf_bin _ _
theorem bitsAt_get (b : List Int) (a : Nat) {n i : Nat} (h : i < n) : (bitsAt b a n)[i]? = some (bitOf b (a + i)) := by simp [bitsAt, h]
theorem bitsAt_add (b : List Int) (a n k : Nat) : bitsAt b a (n + k) = bitsAt b a n ++ bitsAt b (a + n) k := by
  apply List.ext_getElem?
  intro i
  by_cases h1 : i < n
  · rw [bitsAt_get _ _ (by omega), List.getElem?_append_left (by rw [bitsAt_length]; exact h1), bitsAt_get _ _ h1]
  · rw [List.getElem?_append_right (by rw [bitsAt_length]; omega), bitsAt_length]
    by_cases h2 : i < n + k
    · rw [bitsAt_get _ _ h2, bitsAt_get _ _ (by omega), Nat.add_assoc, show n + (i - n) = i by omega]
    · rw [List.getElem?_eq_none (by rw [bitsAt_length]; omega), List.getElem?_eq_none (by rw [bitsAt_length]; omega)]

/-- The bits of values. -/
def laidB : List Ob → List Int → List Int
  | x :: f, v :: vs => bitsN v (bitsO x.t) ++ laidB f vs
  | _, _ => []
theorem laidB_bin : ∀ (f : List Ob) (vs : List Int), Bin (laidB f vs)
  | [], _ => by simp [laidB, Bin]
  | x :: f, [] => by simp [laidB, Bin]
  | x :: f, v :: vs => by
    intro y hy
    rw [laidB] at hy
    rcases List.mem_append.1 hy with h | h
    · exact bitsN_bin _ _ y h
    · exact laidB_bin f vs y h
theorem laidB_length : ∀ (f : List Ob) (vs : List Int), vs.length = f.length → (laidB f vs).length = sumB f
  | [], vs, _ => by simp [laidB, sumB]
  | x :: f, [], h => by simp at h
  | x :: f, v :: vs, h => by
    rw [laidB, List.length_append, bitsN_length, laidB_length f vs (by simpa using h), sumB]
theorem laidB_append : ∀ (f : List Ob) (vs : List Int) (x : Ob) (v : Int), vs.length = f.length → laidB (f ++ [x]) (vs ++ [v]) = laidB f vs ++ bitsN v (bitsO x.t)
  | [], [], x, v, _ => by simp [laidB]
  | [], w :: vs, x, v, h => by simp at h
  | y :: f, [], x, v, h => by simp at h
  | y :: f, w :: vs, x, v, h => by
    simp only [List.cons_append, laidB, laidB_append f vs x v (by simpa using h), List.append_assoc]
theorem laidB_take {f : List Ob} {vs : List Int} {k : Nat} {x : Ob} {v : Int} (hl : vs.length = f.length) (hx : f[k]? = some x) (hv : vs[k]? = some v) :
    laidB (f.take (k + 1)) (vs.take (k + 1)) = laidB (f.take k) (vs.take k) ++ bitsN v (bitsO x.t) := by
  rw [take_snoc_get f k x hx, take_snoc_get vs k v hv, laidB_append _ _ _ _ (by rw [List.length_take, List.length_take, hl])]

/-- Do the values lie within their limits? -/
def fitV : List Ob → List Int → Bool
  | x :: f, v :: vs => decide (x.lo ≤ v ∧ v ≤ x.hi) && fitV f vs
  | _, _ => true
theorem fitV_step {f : List Ob} {vs : List Int} {k : Nat} {x : Ob} {v : Int} (hx : f[k]? = some x) (hv : vs[k]? = some v) :
    fitV (f.drop k) (vs.drop k) = (decide (x.lo ≤ v ∧ v ≤ x.hi) && fitV (f.drop (k + 1)) (vs.drop (k + 1))) := by
  rw [drop_cons_get f k x hx, drop_cons_get vs k v hv, fitV]
theorem fitV_end {f : List Ob} {vs : List Int} : fitV (f.drop f.length) (vs.drop f.length) = true := by
  rw [List.drop_length]; simp [fitV]
theorem fitV_get : ∀ {f : List Ob} {vs : List Int}, fitV f vs = true → ∀ (k : Nat) (x : Ob) (v : Int), f[k]? = some x → vs[k]? = some v → x.lo ≤ v ∧ v ≤ x.hi
  | [], _, _, k, x, v, hx, _ => by simp at hx
  | y :: f, [], _, k, x, v, _, hv => by simp at hv
  | y :: f, w :: vs, h, 0, x, v, hx, hv => by
    simp [fitV] at h
    simp at hx hv
    subst hx hv
    exact h.1
  | y :: f, w :: vs, h, k + 1, x, v, hx, hv => by
    simp [fitV] at h
    exact fitV_get h.2 k x v (by simpa using hx) (by simpa using hv)

/-- The number of the bits of a type. -/
def signO (t v : Int) : Int := if (kindOf t).lo < 0 ∧ (kindOf t).hi < v then v - 2 ^ bitsO t else v
/-- The numbers of bytes. -/
def readV (b : List Int) : List Ob → Nat → List Int
  | [], _ => []
  | x :: f, a => signO x.t (valB (bitsAt b a (bitsO x.t))) :: readV b f (a + bitsO x.t)
theorem readV_length (b : List Int) : ∀ (f : List Ob) (a : Nat), (readV b f a).length = f.length
  | [], _ => rfl
  | x :: f, a => by simp [readV, readV_length b f]
theorem readV_snoc (b : List Int) : ∀ (f : List Ob) (x : Ob) (a : Nat), readV b (f ++ [x]) a = readV b f a ++ [signO x.t (valB (bitsAt b (a + sumB f) (bitsO x.t)))]
  | [], x, a => by simp [readV, sumB]
  | y :: f, x, a => by simp [readV, readV_snoc b f x, sumB, Nat.add_assoc]
theorem readV_take (b : List Int) {f : List Ob} {k : Nat} {x : Ob} (hx : f[k]? = some x) : readV b (f.take (k + 1)) 0 = readV b (f.take k) 0 ++ [signO x.t (valB (bitsAt b (sumB (f.take k)) (bitsO x.t)))] := by
  rw [take_snoc_get f k x hx, readV_snoc, Nat.zero_add]

/-- Is a bit set behind the first s? -/
def loose (b : List Int) (s : Nat) : Bool := (List.range (8 * b.length - s)).any (fun k => decide (bitOf b (s + k) = 1))
theorem loose_iff {b : List Int} {s : Nat} : loose b s = true ↔ ∃ i, s ≤ i ∧ i < 8 * b.length ∧ bitOf b i = 1 := by
  unfold loose
  simp only [List.any_eq_true, List.mem_range, decide_eq_true_eq]
  constructor
  · rintro ⟨k, h1, h2⟩; exact ⟨s + k, by omega, by omega, h2⟩
  · rintro ⟨i, h1, h2, h3⟩; exact ⟨i - s, by omega, by rw [show s + (i - s) = i by omega]; exact h3⟩
theorem loose_step {b : List Int} {s : Nat} (h : s < 8 * b.length) : loose b s = (decide (bitOf b s = 1) || loose b (s + 1)) := by
  rw [Bool.eq_iff_iff, Bool.or_eq_true, decide_eq_true_eq, loose_iff, loose_iff]
  constructor
  · rintro ⟨i, h1, h2, h3⟩
    by_cases e : i = s
    · subst e; exact .inl h3
    · exact .inr ⟨i, by omega, h2, h3⟩
  · rintro (h1 | ⟨i, h1, h2, h3⟩)
    · exact ⟨s, Nat.le_refl _, h, h1⟩
    · exact ⟨i, by omega, h2, h3⟩
theorem loose_end {b : List Int} {s : Nat} (h : 8 * b.length ≤ s) : loose b s = false := by
  unfold loose
  rw [show 8 * b.length - s = 0 by omega]
  rfl

def packQ (q : List Ob × Int) (vs : List Int) : List Int × Int :=
  if q.2 ≠ 0 then ([], q.2) else if vs.length ≠ q.1.length then ([], 11) else if fitV q.1 vs = false then ([], 3) else (packB (laidB q.1 vs) ((sumB q.1 + 7) / 8), 0)
def unpackQ (q : List Ob × Int) (b : List Int) : List Int × Int :=
  if q.2 ≠ 0 then ([], q.2) else if b.length ≠ (sumB q.1 + 7) / 8 then ([], 11) else if loose b (sumB q.1) = true then ([], 2) else if fitV q.1 (readV b q.1 0) = false then ([], 3) else (readV b q.1 0, 0)
def sizeQ (q : List Ob × Int) : Nat × Int := if q.2 ≠ 0 then (0, q.2) else ((sumB q.1 + 7) / 8, 0)

def packO (l : List Ob) (m : List It) (vs : List Int) : List Int × Int := packQ (findM l noChk m) vs
def unpackO (l : List Ob) (m : List It) (b : List Int) : List Int × Int := unpackQ (findM l noChk m) b
def sizeO (l : List Ob) (m : List It) : Nat × Int := sizeQ (findM l noChk m)
end Go.Proofs.Ytjdknddnanopaaa.Bus
