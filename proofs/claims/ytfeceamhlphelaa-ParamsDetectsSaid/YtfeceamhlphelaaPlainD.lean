/-
  Pages: bits that are set are detected; the record of its pages. No program in sight.
-/
import Derived.Test.YtfeceamhlphelaaPlainS
import Derived.Laws.BitsLemmas
namespace Go.Proofs.Ytfeceamhlphelaa
open Go.RowKit
set_option linter.unusedVariables false

theorem bit_le (x m i : Nat) : x / 2 ^ i % 2 ≤ (x ||| m) / 2 ^ i % 2 := by
  have h := Nat.testBit_or x m i
  rw [Nat.testBit_eq_decide_div_mod_eq, Nat.testBit_eq_decide_div_mod_eq, Nat.testBit_eq_decide_div_mod_eq] at h
  by_cases h1 : x / 2 ^ i % 2 = 1
  · rw [h1] at h ⊢
    simp at h
    omega
  · omega
def bitN (X i : Nat) : Nat := X / 2 ^ i % 2
theorem bits_sum (X : Nat) (h : X < 256) : X = bitN X 0 + 2 * bitN X 1 + 4 * bitN X 2 + 8 * bitN X 3 + 16 * bitN X 4 + 32 * bitN X 5 + 64 * bitN X 6 + 128 * bitN X 7 := by
  have : ∀ X : Fin 256, X.val = bitN X.val 0 + 2 * bitN X.val 1 + 4 * bitN X.val 2 + 8 * bitN X.val 3 + 16 * bitN X.val 4 + 32 * bitN X.val 5 + 64 * bitN X.val 6 + 128 * bitN X.val 7 := by decide +kernel
  exact this ⟨X, h⟩
theorem zc_bits (X : Nat) (h : X < 256) : zcB (X : Int) = 8 - ((bitN X 0 + bitN X 1 + bitN X 2 + bitN X 3 + bitN X 4 + bitN X 5 + bitN X 6 + bitN X 7 : Nat) : Int) := by
  have : ∀ X : Fin 256, zcB (X.val : Int) = 8 - ((bitN X.val 0 + bitN X.val 1 + bitN X.val 2 + bitN X.val 3 + bitN X.val 4 + bitN X.val 5 + bitN X.val 6 + bitN X.val 7 : Nat) : Int) := by decide +kernel
  exact this ⟨X, h⟩
theorem two_le {a b c d : Nat} (h : a ≤ b) (k : c ≤ d) : a + c ≤ b + d ∧ (a + c = b + d → a = b ∧ c = d) := ⟨by omega, fun e => ⟨by omega, by omega⟩⟩
theorem zc_or {x m : Int} (hx : 0 ≤ x ∧ x < 256) (hm : 0 ≤ m ∧ m < 256) : zcB (orB x m) ≤ zcB x ∧ (zcB (orB x m) = zcB x → orB x m = x) ∧ x ≤ orB x m := by
  obtain ⟨X, rfl⟩ := Int.eq_ofNat_of_zero_le hx.1
  obtain ⟨M, rfl⟩ := Int.eq_ofNat_of_zero_le hm.1
  have e : orB (X : Int) (M : Int) = ((X ||| M : Nat) : Int) := u8_or_nat X M (by omega) (by omega)
  rw [e]
  have hlt : X ||| M < 256 := Nat.or_lt_two_pow (n := 8) (by omega) (by omega)
  have hX : X < 256 := by omega
  have h0 := bit_le X M 0
  have h1 := bit_le X M 1
  have h2 := bit_le X M 2
  have h3 := bit_le X M 3
  have h4 := bit_le X M 4
  have h5 := bit_le X M 5
  have h6 := bit_le X M 6
  have h7 := bit_le X M 7
  have hle : X ≤ X ||| M := Nat.left_le_or
  generalize X ||| M = Y at *
  rw [zc_bits X hX, zc_bits Y hlt]
  have sX := bits_sum X hX
  have sY := bits_sum Y hlt
  change bitN X 0 ≤ bitN Y 0 at h0
  change bitN X 1 ≤ bitN Y 1 at h1
  change bitN X 2 ≤ bitN Y 2 at h2
  change bitN X 3 ≤ bitN Y 3 at h3
  change bitN X 4 ≤ bitN Y 4 at h4
  change bitN X 5 ≤ bitN Y 5 at h5
  change bitN X 6 ≤ bitN Y 6 at h6
  change bitN X 7 ≤ bitN Y 7 at h7
  generalize bitN X 0 = x0 at *
  generalize bitN X 1 = x1 at *
  generalize bitN X 2 = x2 at *
  generalize bitN X 3 = x3 at *
  generalize bitN X 4 = x4 at *
  generalize bitN X 5 = x5 at *
  generalize bitN X 6 = x6 at *
  generalize bitN X 7 = x7 at *
  generalize bitN Y 0 = y0 at *
  generalize bitN Y 1 = y1 at *
  generalize bitN Y 2 = y2 at *
  generalize bitN Y 3 = y3 at *
  generalize bitN Y 4 = y4 at *
  generalize bitN Y 5 = y5 at *
  generalize bitN Y 6 = y6 at *
  generalize bitN Y 7 = y7 at *
  clear hx hm e
  obtain ⟨q1, g1⟩ := two_le h0 h1
  obtain ⟨q2, g2⟩ := two_le q1 h2
  obtain ⟨q3, g3⟩ := two_le q2 h3
  obtain ⟨q4, g4⟩ := two_le q3 h4
  obtain ⟨q5, g5⟩ := two_le q4 h5
  obtain ⟨q6, g6⟩ := two_le q5 h6
  obtain ⟨q7, g7⟩ := two_le q6 h7
  refine ⟨by clear sX sY hX hlt h0 h1 h2 h3 h4 h5 h6 h7 q1 q2 q3 q4 q5 q6 g1 g2 g3 g4 g5 g6 g7; omega, fun h => ?_, Int.ofNat_le.2 hle⟩
  have h' : x0 + x1 + x2 + x3 + x4 + x5 + x6 + x7 = y0 + y1 + y2 + y3 + y4 + y5 + y6 + y7 := by
    clear sX sY hX hlt h0 h1 h2 h3 h4 h5 h6 h7 q1 q2 q3 q4 q5 q6 g1 g2 g3 g4 g5 g6 g7
    omega
  obtain ⟨k, e7⟩ := g7 h'
  obtain ⟨k, e6⟩ := g6 k
  obtain ⟨k, e5⟩ := g5 k
  obtain ⟨k, e4⟩ := g4 k
  obtain ⟨k, e3⟩ := g3 k
  obtain ⟨k, e2⟩ := g2 k
  obtain ⟨e0, e1⟩ := g1 k
  subst e0 e1 e2 e3 e4 e5 e6 e7
  rw [sX, sY]

theorem zeros_foldl (b : List Int) (n : Int) : b.foldl (fun n x => n + zcB x) n = n + zerosB b := by
  induction b generalizing n with
  | nil => simp [zerosB]
  | cons x b ih =>
    have h1 := ih (n + zcB x)
    have h2 := ih (0 + zcB x)
    rw [List.foldl_cons, h1]
    show _ = n + (x :: b).foldl (fun n x => n + zcB x) 0
    rw [List.foldl_cons, h2]
    omega
theorem zeros_cons (x : Int) (b : List Int) : zerosB (x :: b) = zcB x + zerosB b := by
  show (x :: b).foldl (fun n x => n + zcB x) 0 = _
  rw [List.foldl_cons, zeros_foldl]
  omega
theorem pickF_drop (m : List Int) (n i : Nat) : pickF (m.drop n) i = pickF m (n + i) := by
  unfold pickF
  rw [List.getElem?_drop]
theorem torn_cons (x : Int) (b m : List Int) : torn (x :: b) m = orB x (pickF m 0) :: torn b (m.drop 1) := by
  unfold torn
  rw [List.mapIdx_cons]
  congr 1
  congr 1
  funext i y
  rw [pickF_drop, Nat.add_comm]
theorem bytes_drop {m : List Int} (h : Bytes m) (n : Nat) : Bytes (m.drop n) := fun x hx => h x (List.mem_of_mem_drop hx)
theorem bytes_take {m : List Int} (h : Bytes m) (n : Nat) : Bytes (m.take n) := fun x hx => h x (List.mem_of_mem_take hx)
theorem zeros_torn {b m : List Int} (hb : Bytes b) (hm : Bytes m) : zerosB (torn b m) ≤ zerosB b ∧ (zerosB (torn b m) = zerosB b → torn b m = b) := by
  induction b generalizing m with
  | nil => exact ⟨Int.le_refl _, fun _ => rfl⟩
  | cons x b ih =>
    obtain ⟨h1, h2⟩ := ih (fun y hy => hb y (List.mem_cons_of_mem _ hy)) (bytes_drop hm 1)
    obtain ⟨g1, g2, _⟩ := zc_or (hb x (List.mem_cons_self ..)) (pickF_byte hm 0)
    rw [torn_cons, zeros_cons, zeros_cons]
    refine ⟨by omega, fun e => ?_⟩
    rw [g2 (by omega), h2 (by omega)]
theorem torn_take (b m : List Int) (n : Nat) : (torn b m).take n = torn (b.take n) m := by
  apply List.ext_getElem?
  intro i
  rw [List.getElem?_take, torn_get, torn_get, List.getElem?_take]
  split <;> rfl
theorem torn_drop (b m : List Int) (n : Nat) : (torn b m).drop n = torn (b.drop n) (m.drop n) := by
  apply List.ext_getElem?
  intro i
  rw [List.getElem?_drop, torn_get, torn_get, List.getElem?_drop, pickF_drop]
theorem num_two (a b : Int) (ha : 0 ≤ a ∧ a < 256) (hb : 0 ≤ b ∧ b < 256) : numB [a, b] = a * 256 + b := by
  simp only [numB, List.foldl_cons, List.foldl_nil]
  omega
theorem two_form {l : List Int} (h : l.length = 2) : ∃ a b, l = [a, b] := by
  match l, h with
  | [a, b], _ => exact ⟨a, b, rfl⟩
/- Bits that are set are detected. -/
theorem torn_good {p m : List Int} (hp : Bytes p) (hm : Bytes m) (hl : p.length = 64) (hg : goodP p = true) : goodP (torn p m) = decide (torn p m = p) := by
  unfold goodP at hg ⊢
  rw [decide_eq_true_eq] at hg
  obtain ⟨_, hg⟩ := hg
  rw [torn_length, torn_take, torn_drop]
  obtain ⟨z1, z2⟩ := zeros_torn (bytes_take hp 62) hm
  obtain ⟨a, b, hab⟩ := two_form (l := p.drop 62) (by rw [List.length_drop, hl])
  have ha := hp a (List.mem_of_mem_drop (by rw [hab]; simp))
  have hb := hp b (List.mem_of_mem_drop (by rw [hab]; simp))
  have hm2 := bytes_drop hm 62
  obtain ⟨_, _, a3⟩ := zc_or ha (pickF_byte hm2 0)
  obtain ⟨_, _, b3⟩ := zc_or hb (pickF_byte (bytes_drop hm2 1) 0)
  have oa := orB_byte ha (pickF_byte hm2 0)
  have ob := orB_byte hb (pickF_byte (bytes_drop hm2 1) 0)
  rw [hab, num_two a b ha hb] at hg
  have ht : torn [a, b] (m.drop 62) = [orB a (pickF (m.drop 62) 0), orB b (pickF ((m.drop 62).drop 1) 0)] := by
    rw [torn_cons, torn_cons]; rfl
  rw [hab, ht, num_two _ _ oa ob]
  have hdec : p = p.take 62 ++ [a, b] := by rw [← hab, List.take_append_drop]
  have hdt : torn p m = torn (p.take 62) m ++ [orB a (pickF (m.drop 62) 0), orB b (pickF ((m.drop 62).drop 1) 0)] := by
    conv => lhs; rw [← List.take_append_drop 62 (torn p m), torn_take, torn_drop, hab, ht]
  generalize orB a (pickF (m.drop 62) 0) = A at *
  generalize orB b (pickF ((m.drop 62).drop 1) 0) = B at *
  by_cases hq : torn p m = p
  · rw [decide_eq_true hq, decide_eq_true_eq]
    rw [hq] at hdt
    have e := hdec.symm.trans hdt
    have e1 := List.append_inj e (by rw [torn_length])
    refine ⟨hl, ?_⟩
    rw [← e1.1]
    have e2 := e1.2
    injection e2 with e3 e4
    injection e4 with e4
    omega
  · rw [decide_eq_false hq, decide_eq_false_iff_not]
    rintro ⟨_, h⟩
    apply hq
    have z3 := z2 (by omega)
    rw [hdt, z3]
    have : A = a := by omega
    have : B = b := by omega
    subst A B
    exact hdec.symm

theorem putB_snoc (n : Int) (m : Nat) : putB n (m + 1) = putB (n / 256) m ++ [n % 256] := by
  unfold putB
  rw [List.range_succ, List.map_append]
  congr 1
  · apply List.map_congr_left
    intro i hi
    rw [List.mem_range] at hi
    have e : (256 : Int) ^ (m + 1 - 1 - i) = 256 * 256 ^ (m - 1 - i) := by
      rw [show m + 1 - 1 - i = (m - 1 - i) + 1 by omega, Int.pow_succ, Int.mul_comm]
    rw [e, Int.ediv_ediv_of_nonneg (by omega)]
  · simp
theorem pow256_pos (m : Nat) : 0 < (256 : Int) ^ m := Int.pow_pos (by omega)
theorem pow256_le {m : Nat} (h : m ≤ 8) : (256 : Int) ^ m ≤ 18446744073709551616 := by
  have : ∀ k : Fin 9, (256 : Int) ^ k.val ≤ 18446744073709551616 := by decide
  exact this ⟨m, by omega⟩
theorem num_put (n : Int) (m : Nat) (hn : 0 ≤ n) (hm : m ≤ 8) : numB (putB n m) = n % 256 ^ m := by
  induction m generalizing n with
  | zero => simp [putB, numB]
  | succ m ih =>
    rw [putB_snoc, num_step, ih (n / 256) (by omega) (by omega)]
    have e : (256 : Int) ^ (m + 1) = 256 ^ m * 256 := Int.pow_succ ..
    have hp := pow256_pos m
    have hle := pow256_le hm
    rw [e] at hle ⊢
    generalize (256 : Int) ^ m = P at *
    have h1 := Int.emod_nonneg (n / 256) (b := P) (by omega)
    have h2 := Int.emod_lt_of_pos (n / 256) hp
    have h5 : n % (P * 256) = n / 256 % P * 256 + n % 256 := by
      have h6 : P * 256 = 256 * P := Int.mul_comm ..
      rw [h6, Int.emod_def n (256 * P), ← Int.ediv_ediv_of_nonneg (by omega), Int.emod_def (n / 256) P, Int.mul_assoc]
      generalize P * (n / 256 / P) = Q
      omega
    rw [h5]
    generalize n / 256 % P = R at *
    have h4 : R * 256 + n % 256 < 18446744073709551616 := by omega
    rw [Int.emod_eq_of_lt (by omega) h4]

theorem good_page (q : Int) (v : List Int) (k : Nat) : goodP (pageP q v k) = true := by
  unfold goodP
  rw [decide_eq_true_eq]
  refine ⟨pageP_length _ _ _, ?_⟩
  unfold pageP
  have h := zeros_range (bodyP q v k)
  rw [bodyP_length] at h
  rw [List.drop_left' (bodyP_length q v k), List.take_left' (bodyP_length q v k), num_put _ _ h.1 (by omega)]
  have e : (256 : Int) ^ 2 = 65536 := by decide
  rw [e]
  omega
theorem blank_bad : goodP (List.replicate 64 255) = false := by decide +kernel

theorem encP_at {q : Int} {v : List Int} {i : Nat} (hi : i < pgs v.length) : (encP q v)[i]? = some (pageP q v i) := by
  unfold encP
  rw [List.getElem?_map, List.getElem?_range hi]
  rfl
theorem page_val {q : Int} {v : List Int} {k i : Nat} (hi : i < 6) : ((pageP q v k).drop (8 + 8 * i)).take 8 = valB v k i := by
  have e : ∀ i ≤ 6, (List.range 6).flatMap (valB v k) = (List.range i).flatMap (valB v k) ++ ((List.range 6).drop i).flatMap (valB v k) := by
    intro i hi
    conv => lhs; rw [← List.take_append_drop i (List.range 6), List.flatMap_append]
    congr 2
    rw [List.take_range]
    congr 1
    omega
  have e2 : (List.range 6).drop i = i :: (List.range 6).drop (i + 1) := by
    rw [List.drop_eq_getElem_cons (by simpa using hi)]
    simp
  unfold pageP bodyP bodyI
  rw [e i (by omega), e2, List.flatMap_cons]
  simp only [List.append_assoc]
  rw [← List.append_assoc (headB q v.length k), List.drop_left' (by rw [List.length_append, headB_length, flat8]), List.take_left' (valB_length v k i)]
theorem asI_asU {x : Int} (h : I64 x) : asI (asU x) = x := by
  unfold I64 at h
  rw [asU_eq]
  unfold asI
  rw [IntKind.wrap_i64]
  omega
theorem pow8 : (256 : Int) ^ 8 = 18446744073709551616 := by decide
theorem pow6 : (256 : Int) ^ 6 = 281474976710656 := by decide
theorem decV_enc {q : Int} {v : List Int} {i : Nat} {x : Int} (hi : i < v.length) (hv : v[i]? = some x) (hx : I64 x) : decV (encP q v) i = x := by
  unfold decV
  rw [encP_at (by unfold pgs; omega), Option.getD_some, page_val (by omega)]
  unfold valB
  rw [show 6 * (i / 6) + i % 6 = i by omega, hv]
  simp only
  have h1 := asI_asU hx
  have h2 := asU_range x
  generalize asU x = U at *
  rw [num_put _ _ h2.1 (by omega), pow8, Int.emod_eq_of_lt h2.1 h2.2, h1]
theorem page_head {q : Int} {v : List Int} {k : Nat} : (pageP q v k)[1]? = some (v.length : Int) ∧ ((pageP q v k).drop 2).take 6 = putB (asU q) 6 := by
  unfold pageP bodyP bodyI headB
  simp only [List.append_assoc, List.cons_append, List.nil_append]
  refine ⟨rfl, ?_⟩
  simp only [List.drop_succ_cons, List.drop_zero]
  rw [List.take_left' (putB_length _ _)]
/- The record of its pages. -/
theorem dec_enc {q : Int} {v : List Int} (he : encE q v.length = 0) (hv : ∀ x ∈ v, I64 x) : decP (encP q v) = (q, v, 0) := by
  obtain ⟨q1, q2, n1, n2⟩ := encE_zero he
  have hl := encP_len q v
  have hp1 : 1 ≤ pgs v.length := pgs_pos n1
  have hp8 : pgs v.length ≤ 8 := pgs_le n2
  unfold decP
  rw [hl, if_neg (by omega)]
  have hall : (encP q v).all goodP = true := by
    rw [List.all_eq_true]
    intro p hp
    unfold encP at hp
    rw [List.mem_map] at hp
    obtain ⟨k, _, rfl⟩ := hp
    exact good_page _ _ _
  rw [hall, if_neg (by decide), encP_at (by omega : 0 < pgs v.length), Option.getD_some]
  obtain ⟨h1, h2⟩ := page_head (q := q) (v := v) (k := 0)
  have hs : asI (numB (((pageP q v 0).drop 2).take 6)) = q := by
    rw [h2, num_put _ _ (asU_range q).1 (by omega), pow6, asU_eq]
    unfold asI
    rw [IntKind.wrap_i64]
    omega
  have hvv : (List.range v.length).map (decV (encP q v)) = v := by
    apply List.ext_getElem?
    intro i
    rw [List.getElem?_map]
    by_cases hi : i < v.length
    · obtain ⟨x, hx⟩ := getElem?_of_lt hi
      rw [List.getElem?_range hi, hx, Option.map_some, decV_enc hi hx (hv x (List.mem_of_getElem? hx))]
    · rw [List.getElem?_eq_none (by simpa using hi), List.getElem?_eq_none (by omega)]
      rfl
  simp only [h1, Option.getD_some, hs, Int.toNat_natCast, hvv]
  rw [if_neg (by omega), if_neg (by simp [he])]
theorem decP_ok {ps : List (List Int)} (h : (decP ps).2.2 = 0) : ps = encP (decP ps).1 (decP ps).2.1 ∧ encE (decP ps).1 (decP ps).2.1.length = 0 ∧ ps.all goodP = true ∧ pgs (decP ps).2.1.length = ps.length := by
  unfold decP at h ⊢
  split at h
  · cases h
  split at h
  · cases h
  rename_i h1 h2
  simp only at h ⊢
  split at h
  · cases h
  split at h
  · cases h
  rename_i h3 h4
  rw [if_neg h1, if_neg h2, if_neg h3, if_neg h4]
  simp only
  simp only [not_or, Classical.not_not] at h4 h3
  refine ⟨h4.2.symm, h4.1, by simpa using h2, ?_⟩
  rw [List.length_map, List.length_range]
  exact h3.2.2
theorem decP_bad {ps : List (List Int)} {p : List Int} (hp : p ∈ ps) (hb : goodP p = false) : (decP ps).2.2 ≠ 0 := by
  intro h
  have := (decP_ok h).2.2.1
  rw [List.all_eq_true] at this
  rw [this p hp] at hb
  cases hb
theorem decV_range (ps : List (List Int)) (i : Nat) : I64 (decV ps i) := by
  unfold decV asI I64
  rw [IntKind.wrap_i64]
  omega
theorem decP_vals (ps : List (List Int)) : ∀ x ∈ (decP ps).2.1, I64 x := by
  unfold decP
  split
  · simp
  split
  · simp
  simp only
  split
  · simp
  split
  · simp
  intro x hx
  rw [List.mem_map] at hx
  obtain ⟨i, _, rfl⟩ := hx
  exact decV_range _ _
end Go.Proofs.Ytfeceamhlphelaa
