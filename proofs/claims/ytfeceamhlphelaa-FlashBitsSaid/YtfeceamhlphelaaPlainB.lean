/-
  Which bits may change. No program in sight.
-/
import Derived.Test.YtfeceamhlphelaaAc
namespace Go.Proofs.Ytfeceamhlphelaa
open Go.RowKit
set_option linter.unusedVariables false

def andB (x y : Int) : Int := bits .and .u8 x y
theorem andB_or {x p : Int} (hx : 0 ≤ x ∧ x < 256) (hp : 0 ≤ p ∧ p < 256) : andB (orB x p) x = x := by
  obtain ⟨X, rfl⟩ := Int.eq_ofNat_of_zero_le hx.1
  obtain ⟨Y, rfl⟩ := Int.eq_ofNat_of_zero_le hp.1
  unfold orB andB
  rw [u8_or_nat X Y (by omega) (by omega)]
  have h8 : X ||| Y < 2 ^ 8 := Nat.or_lt_two_pow (by omega) (by omega)
  rw [u8_and_nat (X ||| Y) X (by omega) (by omega)]
  congr 1
  apply Nat.eq_of_testBit_eq
  intro i
  rw [Nat.testBit_and, Nat.testBit_or]
  cases X.testBit i <;> simp
theorem andB_self {x : Int} (hx : 0 ≤ x ∧ x < 256) : andB x x = x := by
  obtain ⟨X, rfl⟩ := Int.eq_ofNat_of_zero_le hx.1
  unfold andB
  rw [u8_and_nat X X (by omega) (by omega), Nat.and_self]
theorem andB_255 {x : Int} (hx : 0 ≤ x ∧ x < 256) : andB 255 x = x := by
  obtain ⟨X, rfl⟩ := Int.eq_ofNat_of_zero_le hx.1
  unfold andB
  have := u8_and_nat 255 X (by omega) (by omega)
  rw [show ((255 : Nat) : Int) = 255 from rfl] at this
  rw [this]
  congr 1
  rw [Nat.and_comm]
  have : X &&& (2 ^ 8 - 1) = X % 2 ^ 8 := Nat.and_two_pow_sub_one_eq_mod X 8
  rw [show (2 ^ 8 - 1 : Nat) = 255 from rfl] at this
  rw [this]
  omega

theorem does_same (x : Ac) (f : Fl) : (x.does f).1.pg = f.pg ∧ (x.does f).1.wear.length = f.wear.length := by
  have hp : ∀ a b, (progF f a b).1.pg = f.pg ∧ (progF f a b).1.wear.length = f.wear.length := by
    intro a b
    obtain ⟨e1, e2, e3, e4⟩ := cutF_same f
    unfold progF
    split
    · exact ⟨rfl, rfl⟩
    split
    · exact ⟨rfl, rfl⟩
    split
    · exact ⟨rfl, rfl⟩
    split
    · exact ⟨e1, by simp only; rw [e3]⟩
    · exact ⟨e1, by simp only; rw [e3]⟩
  have he : ∀ a, (eraseF f a).1.pg = f.pg ∧ (eraseF f a).1.wear.length = f.wear.length := by
    intro a
    obtain ⟨e1, e2, e3, e4⟩ := cutF_same f
    unfold eraseF
    split
    · exact ⟨rfl, rfl⟩
    split
    · exact ⟨rfl, rfl⟩
    split
    · exact ⟨e1, by simp only; rw [bumpF_length]⟩
    · exact ⟨e1, by simp only; rw [bumpF_length]⟩
  unfold Ac.does doF
  split
  · exact hp _ _
  split
  · exact he _
  split
  · exact ⟨rfl, rfl⟩
  split
  · exact ⟨rfl, rfl⟩
  · unfold startF
    split <;> exact ⟨rfl, rfl⟩

theorem blank_get {l : List Int} (h : blankF l = true) {i : Nat} {y : Int} (hy : l[i]? = some y) : y = 255 := by
  unfold blankF at h
  rw [List.all_eq_true] at h
  have := h y (List.mem_of_getElem? hy)
  simpa using this

theorem prog_bits {f : Fl} (h : f.ok) (a : Int) (b : List Int) (hb : Bytes b) {i : Nat} {y z : Int} (hy : f.img[i]? = some y) (hz : (progF f a b).1.img[i]? = some z) :
    z = y ∨ (((i / 64 : Nat) : Int) = a ∧ b.length = 64 ∧ y = 255 ∧ ∀ t, b[i % 64]? = some t → andB z t = t) := by
  obtain ⟨e1, e2, e3, e4⟩ := cutF_same f
  have same : f.img[i]? = some z → z = y := fun hz => by rw [hy] at hz; exact (Option.some.inj hz).symm
  unfold progF at hz
  split at hz
  · exact .inl (same hz)
  rename_i h0
  obtain ⟨_, a1, a2⟩ := atF_zero (by omega : atF f a = 0)
  split at hz
  · exact .inl (same hz)
  rename_i h64
  have h64 : b.length = 64 := by omega
  split at hz
  · exact .inl (same hz)
  rename_i hbl
  have hbl : blankF (pageF f a.toNat) = true := by simpa using hbl
  have hle : 64 * a.toNat + 64 ≤ f.img.length := by
    rw [h.len]
    have : a.toNat + 1 ≤ f.wear.length * f.pg := by omega
    omega
  by_cases hin : 64 * a.toNat ≤ i ∧ i < 64 * a.toNat + 64
  · have hy2 : y = 255 := by
      refine blank_get hbl (i := i - 64 * a.toNat) ?_
      unfold pageF
      rw [List.getElem?_take, if_pos (by omega), List.getElem?_drop, show 64 * a.toNat + (i - 64 * a.toNat) = i by omega]
      exact hy
    have hmod : i - 64 * a.toNat = i % 64 := by omega
    split at hz
    · simp only at hz
      rw [lay_get _ _ _ (by rw [torn_length]; omega), torn_length, if_pos (by omega), torn_get, hmod] at hz
      refine .inr ⟨by omega, h64, hy2, fun t ht => ?_⟩
      rw [ht] at hz
      obtain rfl := Option.some.inj hz
      exact andB_or (hb t (List.mem_of_getElem? ht)) (pickF_byte h.pby _)
    · simp only at hz
      rw [lay_get _ _ _ (by omega), if_pos (by omega), hmod] at hz
      refine .inr ⟨by omega, h64, hy2, fun t ht => ?_⟩
      rw [ht] at hz
      obtain rfl := Option.some.inj hz
      exact andB_self (hb t (List.mem_of_getElem? ht))
  · split at hz
    · simp only at hz
      rw [lay_get _ _ _ (by rw [torn_length]; omega), torn_length, if_neg (by omega)] at hz
      exact .inl (same hz)
    · simp only at hz
      rw [lay_get _ _ _ (by omega), if_neg (by omega)] at hz
      exact .inl (same hz)

theorem erase_bits {f : Fl} (h : f.ok) (a : Int) {i : Nat} {y z : Int} (hy : f.img[i]? = some y) (hz : (eraseF f a).1.img[i]? = some z) :
    if ((i / (64 * f.pg) : Nat) : Int) = a then andB z y = y else z = y := by
  obtain ⟨e1, e2, e3, e4⟩ := cutF_same f
  have hyb := h.byt y (List.mem_of_getElem? hy)
  have same : f.img[i]? = some z → if ((i / (64 * f.pg) : Nat) : Int) = a then andB z y = y else z = y := fun hz => by
    rw [hy] at hz
    obtain rfl := Option.some.inj hz
    split
    · exact andB_self hyb
    · rfl
  unfold eraseF at hz
  split at hz
  · exact same hz
  split at hz
  · exact same hz
  rename_i h1 h2
  have hpg : 0 < 64 * f.pg := by have := h.p1; omega
  have hle : 64 * f.pg * a.toNat + 64 * f.pg ≤ f.img.length := by
    rw [h.len]
    have hb : a.toNat + 1 ≤ f.wear.length := by omega
    have := Nat.mul_le_mul_right (64 * f.pg) hb
    rw [Nat.add_mul, Nat.one_mul] at this
    rw [Nat.mul_comm (64 * f.pg), Nat.mul_assoc f.wear.length, Nat.mul_comm f.pg 64]
    exact this
  have hdiv : (64 * f.pg * a.toNat ≤ i ∧ i < 64 * f.pg * a.toNat + 64 * f.pg) ↔ ((i / (64 * f.pg) : Nat) : Int) = a := by
    constructor
    · intro ⟨u1, u2⟩
      have : i / (64 * f.pg) = a.toNat := by
        refine Nat.div_eq_of_lt_le ?_ ?_
        · rw [Nat.mul_comm]; exact u1
        · rw [Nat.add_mul, Nat.one_mul, Nat.mul_comm a.toNat]; exact u2
      omega
    · intro u
      have hq : i / (64 * f.pg) = a.toNat := by omega
      have m1 := Nat.div_mul_le_self i (64 * f.pg)
      have m2 := Nat.lt_div_mul_add hpg (a := i)
      rw [hq, Nat.mul_comm] at m1 m2
      exact ⟨m1, m2⟩
  by_cases hin : 64 * f.pg * a.toNat ≤ i ∧ i < 64 * f.pg * a.toNat + 64 * f.pg
  · rw [if_pos (hdiv.1 hin)]
    split at hz
    · simp only at hz
      rw [lay_get _ _ _ (by rw [torn_length, List.length_take, List.length_drop]; omega), torn_length, List.length_take, List.length_drop, if_pos (by omega), torn_get, List.getElem?_take, if_pos (by omega), List.getElem?_drop, show 64 * f.pg * a.toNat + (i - 64 * f.pg * a.toNat) = i by omega, hy] at hz
      obtain rfl := Option.some.inj hz
      exact andB_or hyb (pickF_byte h.pby _)
    · simp only at hz
      rw [lay_get _ _ _ (by rw [List.length_replicate]; omega), List.length_replicate, if_pos (by omega), List.getElem?_replicate, if_pos (by omega)] at hz
      obtain rfl := Option.some.inj hz
      exact andB_255 hyb
  · rw [if_neg (fun hh => hin (hdiv.2 hh))]
    split at hz
    · simp only at hz
      rw [lay_get _ _ _ (by rw [torn_length, List.length_take, List.length_drop]; omega), torn_length, List.length_take, List.length_drop, if_neg (by omega), hy] at hz
      exact (Option.some.inj hz).symm
    · simp only at hz
      rw [lay_get _ _ _ (by rw [List.length_replicate]; omega), List.length_replicate, if_neg (by omega), hy] at hz
      exact (Option.some.inj hz).symm

theorem does_bits {f : Fl} (h : f.ok) (x : Ac) (hb : Bytes x.b) (hk : 0 ≤ x.k) {i : Nat} {y z : Int} (hy : f.img[i]? = some y) (hz : (x.does f).1.img[i]? = some z) :
    (x.k % 6 < 2 → z = y ∨ (((i / 64 : Nat) : Int) = x.a ∧ (page0 x.n x.b).length = 64 ∧ y = 255 ∧ ∀ t, (page0 x.n x.b)[i % 64]? = some t → andB z t = t)) ∧
    (x.k % 6 = 2 → if ((i / (64 * f.pg) : Nat) : Int) = x.a then andB z y = y else z = y) ∧ (2 < x.k % 6 → z = y) := by
  have same : f.img[i]? = some z → z = y := fun hz => by rw [hy] at hz; exact (Option.some.inj hz).symm
  have hpb : Bytes (page0 x.n x.b) := by
    unfold page0
    split
    · exact fun y hy => hb y (List.mem_of_mem_take hy)
    · intro y hy
      simp only [List.mem_map] at hy
      obtain ⟨j, _, rfl⟩ := hy
      cases e : x.b[j % x.b.length]? with
      | none => simp
      | some t => exact hb t (List.mem_of_getElem? e)
  unfold Ac.does doF at hz
  by_cases h2 : x.k % 6 < 2
  · rw [if_pos h2] at hz
    exact ⟨fun _ => prog_bits h _ _ hpb hy hz, fun e => by omega, fun e => by omega⟩
  rw [if_neg h2] at hz
  by_cases h3 : x.k % 6 = 2
  · rw [if_pos h3] at hz
    exact ⟨fun e => absurd e h2, fun _ => erase_bits h _ hy hz, fun e => by omega⟩
  rw [if_neg h3] at hz
  have fin : z = y := by
    split at hz
    · exact same hz
    split at hz
    · exact same hz
    · unfold startF at hz
      split at hz <;> exact same hz
  exact ⟨fun e => absurd e h2, fun e => absurd e h3, fun _ => fin⟩
end Go.Proofs.Ytfeceamhlphelaa
