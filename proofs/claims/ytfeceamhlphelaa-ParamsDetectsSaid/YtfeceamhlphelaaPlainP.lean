/-
  The pages of a record, as lists. No program in sight.
-/
import Derived.Test.YtfeceamhlphelaaPlainF
namespace Go.Proofs.Ytfeceamhlphelaa
open Go.RowKit

/-- The bits of a byte that are 0. -/
def zcB (x : Int) : Int := 8 - (x % 2 + x / 2 % 2 + x / 4 % 2 + x / 8 % 2 + x / 16 % 2 + x / 32 % 2 + x / 64 % 2 + x / 128 % 2)
def zerosB (b : List Int) : Int := b.foldl (fun n x => n + zcB x) 0
def numB (b : List Int) : Int := b.foldl (fun n x => (n * 256 + x) % 18446744073709551616) 0
/-- A number, the most significant byte first. -/
def putB (n : Int) (m : Nat) : List Int := (List.range m).map fun i => n / 256 ^ (m - 1 - i) % 256
def asU (v : Int) : Int := IntKind.u64.wrap v
theorem asU_eq (v : Int) : asU v = v % 18446744073709551616 := by simp [asU, IntKind.wrap, IntKind.bits, IntKind.signed]
def pgs (n : Nat) : Nat := (n + 5) / 6
def headB (seq : Int) (n k : Nat) : List Int := [(k : Int), (n : Int)] ++ putB (asU seq) 6
def valB (vals : List Int) (k i : Nat) : List Int := match vals[6 * k + i]? with | some v => putB (asU v) 8 | none => List.replicate 8 0
/-- The bytes of a page, of which so many values are put. -/
def bodyI (seq : Int) (vals : List Int) (k i : Nat) : List Int :=
  headB seq vals.length k ++ (List.range i).flatMap (valB vals k) ++ List.replicate (8 * (6 - i)) 0 ++ List.replicate 6 0
def bodyP (seq : Int) (vals : List Int) (k : Nat) : List Int := bodyI seq vals k 6
def pageP (seq : Int) (vals : List Int) (k : Nat) : List Int := bodyP seq vals k ++ putB (zerosB (bodyP seq vals k)) 2
def encE (seq : Int) (n : Nat) : Int := if seq < 1 ∨ 1099511627776 < seq ∨ n < 1 ∨ 48 < n then 3 else 0
def encP (seq : Int) (vals : List Int) : List (List Int) := (List.range (pgs vals.length)).map (pageP seq vals)
def goodP (p : List Int) : Bool := decide (p.length = 64 ∧ numB (p.drop 62) = zerosB (p.take 62))
def asI (x : Int) : Int := IntKind.i64.wrap x
def decV (pages : List (List Int)) (i : Nat) : Int := asI (numB (((pages[i / 6]?.getD []).drop (8 + 8 * (i % 6))).take 8))
def decP (pages : List (List Int)) : Int × List Int × Int :=
  if pages.length < 1 ∨ 8 < pages.length then (0, [], 11) else if pages.all goodP = false then (0, [], 19) else
  let p0 := pages[0]?.getD []
  let n := p0[1]?.getD 0
  let s := asI (numB ((p0.drop 2).take 6))
  if n < 1 ∨ 48 < n ∨ pgs n.toNat ≠ pages.length then (0, [], 2) else
  let v := (List.range n.toNat).map (decV pages)
  if encE s v.length ≠ 0 ∨ encP s v ≠ pages then (0, [], 2) else (s, v, 0)

theorem snoc_ind {P : List Int → Prop} (h0 : P []) (h1 : ∀ l x, P l → P (l ++ [x])) (l : List Int) : P l := by
  have key : ∀ m : List Int, P m.reverse := by
    intro m
    induction m with
    | nil => exact h0
    | cons a m ih => rw [List.reverse_cons]; exact h1 _ _ ih
  have := key l.reverse
  rwa [List.reverse_reverse] at this
theorem zcB_range {x : Int} : 0 ≤ zcB x ∧ zcB x ≤ 8 := by unfold zcB; omega
theorem zeros_step (b : List Int) (x : Int) : zerosB (b ++ [x]) = zerosB b + zcB x := by simp [zerosB]
theorem num_step (b : List Int) (x : Int) : numB (b ++ [x]) = (numB b * 256 + x) % 18446744073709551616 := by simp [numB]
theorem zeros_range (b : List Int) : 0 ≤ zerosB b ∧ zerosB b ≤ 8 * b.length := by
  refine snoc_ind (P := fun b => 0 ≤ zerosB b ∧ zerosB b ≤ 8 * b.length) (by simp [zerosB]) (fun b x ih => ?_) b
  rw [zeros_step, List.length_append]
  have := zcB_range (x := x)
  simp only [List.length_cons, List.length_nil]
  omega
theorem num_range (b : List Int) : 0 ≤ numB b ∧ numB b < 18446744073709551616 := by
  refine snoc_ind (P := fun b => 0 ≤ numB b ∧ numB b < 18446744073709551616) (by simp [numB]) (fun b x ih => ?_) b
  rw [num_step]
  omega
theorem putB_length (n : Int) (m : Nat) : (putB n m).length = m := by simp [putB]
theorem putB_bytes (n : Int) (m : Nat) : Bytes (putB n m) := by
  intro x hx
  simp only [putB, List.mem_map] at hx
  obtain ⟨i, _, rfl⟩ := hx
  omega
theorem asU_range (v : Int) : 0 ≤ asU v ∧ asU v < 18446744073709551616 := by rw [asU_eq]; omega
theorem headB_length (s : Int) (n k : Nat) : (headB s n k).length = 8 := by simp [headB, putB_length]
theorem valB_length (v : List Int) (k i : Nat) : (valB v k i).length = 8 := by
  unfold valB
  split
  · exact putB_length _ _
  · simp
theorem valB_bytes (v : List Int) (k i : Nat) : Bytes (valB v k i) := by
  unfold valB
  split
  · exact putB_bytes _ _
  · intro x hx
    rw [List.mem_replicate] at hx
    omega
theorem flat8 (v : List Int) (k i : Nat) : ((List.range i).flatMap (valB v k)).length = 8 * i := by
  rw [flat_length _ 8 (fun j => valB_length v k j), List.length_range]; omega
theorem bodyI_length (s : Int) (v : List Int) (k i : Nat) (h : i ≤ 6) : (bodyI s v k i).length = 62 := by
  unfold bodyI
  simp only [List.length_append, headB_length, flat8, List.length_replicate]
  omega
theorem bodyP_length (s : Int) (v : List Int) (k : Nat) : (bodyP s v k).length = 62 := bodyI_length s v k 6 (Nat.le_refl _)
theorem pageP_length (s : Int) (v : List Int) (k : Nat) : (pageP s v k).length = 64 := by
  unfold pageP
  rw [List.length_append, bodyP_length, putB_length]
theorem bytes_append {a b : List Int} (ha : Bytes a) (hb : Bytes b) : Bytes (a ++ b) := by
  intro x hx
  rcases List.mem_append.1 hx with h | h
  · exact ha x h
  · exact hb x h
theorem bytes_zero (n : Nat) : Bytes (List.replicate n 0) := by
  intro x hx
  rw [List.mem_replicate] at hx
  omega
theorem bodyI_bytes (s : Int) (v : List Int) (k i : Nat) (hk : k < 256) (hv : v.length < 256) : Bytes (bodyI s v k i) := by
  unfold bodyI headB
  refine bytes_append (bytes_append (bytes_append (bytes_append ?_ (putB_bytes _ _)) ?_) (bytes_zero _)) (bytes_zero _)
  · intro x hx
    simp only [List.mem_cons, List.not_mem_nil, or_false] at hx
    omega
  · intro x hx
    rw [List.mem_flatMap] at hx
    obtain ⟨j, _, hj⟩ := hx
    exact valB_bytes v k j x hj
theorem pageP_bytes (s : Int) (v : List Int) (k : Nat) (hk : k < 256) (hv : v.length < 256) : Bytes (pageP s v k) :=
  bytes_append (bodyI_bytes s v k 6 hk hv) (putB_bytes _ _)

theorem lay_mid (a b c d : List Int) (h : b.length = d.length) : lay (a ++ b ++ c) a.length d = a ++ d ++ c := by
  unfold lay
  rw [List.append_assoc a b c, List.take_left', ← h, List.drop_append]
  · simp
  · rfl
theorem lay_at (m : Nat) (a b c d : List Int) (hm : a.length = m) (h : b.length = d.length) : lay (a ++ b ++ c) m d = a ++ d ++ c := by
  rw [← hm]; exact lay_mid a b c d h
/-- The next value is put. -/
theorem body_put (s : Int) (v : List Int) (k i : Nat) (x : Int) (hi : i < 6) (hx : v[6 * k + i]? = some x) (t : List Int) :
    lay (bodyI s v k i ++ t) (8 + 8 * i) (putB (asU x) 8) = bodyI s v k (i + 1) ++ t := by
  have e1 : valB v k i = putB (asU x) 8 := by unfold valB; rw [hx]
  have e2 : List.replicate (8 * (6 - i)) (0 : Int) = List.replicate 8 0 ++ List.replicate (8 * (6 - (i + 1))) 0 := by
    rw [List.replicate_append_replicate]; congr 1; omega
  have e3 : bodyI s v k i ++ t = (headB s v.length k ++ (List.range i).flatMap (valB v k)) ++ List.replicate 8 0 ++ (List.replicate (8 * (6 - (i + 1))) 0 ++ List.replicate 6 0 ++ t) := by
    unfold bodyI; rw [e2]; simp only [List.append_assoc]
  rw [e3, lay_at _ _ _ _ _ (by rw [List.length_append, headB_length, flat8]) (by rw [putB_length]; simp)]
  unfold bodyI
  rw [List.range_succ, List.flatMap_append, List.flatMap_singleton, e1]
  simp only [List.append_assoc]
/-- The values that are not there. -/
theorem body_rest (s : Int) (v : List Int) (k i : Nat) (hi : i ≤ 6) (hx : v.length ≤ 6 * k + i) : bodyI s v k i = bodyP s v k := by
  have hz : ∀ j, i ≤ j → valB v k j = List.replicate 8 0 := fun j hj => by
    unfold valB
    rw [List.getElem?_eq_none (by omega)]
  have key : ∀ d, i + d ≤ 6 → bodyI s v k i = bodyI s v k (i + d) := by
    intro d
    induction d with
    | zero => intro _; rfl
    | succ d ih =>
      intro hd
      rw [ih (by omega)]
      unfold bodyI
      have e2 : List.replicate (8 * (6 - (i + d))) (0 : Int) = List.replicate 8 0 ++ List.replicate (8 * (6 - (i + (d + 1)))) 0 := by
        rw [List.replicate_append_replicate]; congr 1; omega
      rw [e2, show i + (d + 1) = (i + d) + 1 by omega, List.range_succ, List.flatMap_append, List.flatMap_singleton, hz _ (by omega)]
      simp only [List.append_assoc]
  have := key (6 - i) (by omega)
  rw [this]
  unfold bodyP
  congr 1
  omega
/-- The head is put. -/
theorem head_put (s : Int) (v : List Int) (k : Nat) : lay ([(k : Int), (v.length : Int)] ++ List.replicate 62 0) 2 (putB (asU s) 6) = bodyI s v k 0 ++ [0, 0] := by
  have e : List.replicate 62 (0 : Int) = List.replicate 6 0 ++ List.replicate 56 0 := by rw [List.replicate_append_replicate]
  rw [e, ← List.append_assoc, lay_at 2 _ _ _ _ rfl (by rw [putB_length]; simp)]
  unfold bodyI headB
  simp only [List.range_zero, List.flatMap_nil, List.append_nil, List.append_assoc]
  rfl
theorem foot_put (s : Int) (v : List Int) (k : Nat) : lay (bodyP s v k ++ [0, 0]) 62 (putB (zerosB (bodyP s v k)) 2) = pageP s v k := by
  have := lay_at 62 (bodyP s v k) [0, 0] [] (putB (zerosB (bodyP s v k)) 2) (bodyP_length s v k) (by rw [putB_length]; rfl)
  rw [List.append_nil, List.append_nil] at this
  exact this
end Go.Proofs.Ytfeceamhlphelaa
