/-
  Params: Good, Equal.
-/
import Derived.Test.YtfeceamhlphelaaW33
import Derived.Test.YtfeceamhlphelaaW4
import Derived.Test.YtfeceamhlphelaaStr
import Derived.Test.YtfeceamhlphelaaPlainR
import Derived.Test.YtfeceamhlphelaaMemS
import Derived.Laws.BitsLemmas
namespace Go.Proofs.Ytfeceamhlphelaa
open Go.RowKit
set_option linter.unusedVariables false

theorem Rd.drew {w : World} {B : Nat} {A : Option Addr} {xs : List Value} (h : Rd w B A xs) (hB : B ≤ w.heap.size) (q : Nat) : Rd (w.drewN q) B A xs := h.below (Below.drewN (Below.refl _ _) q) hB
theorem drewN_size (w : World) (q : Nat) : (w.drewN q).heap.size = w.heap.size := rfl
theorem number_q {w : World} {q : Nat} {A : Option Addr} {n c : Nat} {b : List Int} (hA : Rd w w.heap.size A (kcells .u8 b)) (hn : b.length = n) (hb : Bytes b) (hn2 : n ≤ 1000000) :
    Calls Try.prog 84 #[.slice A n c] (w.drewN q) fun e w' => e = .returned (.int .u64 (numB b)) ∧ w' = w.drewN q :=
  (number_any A n c b (w.drewN q) (hA.drew (Nat.le_refl _) q) hn hb hn2).mono fun _ _ ⟨a, b⟩ => ⟨a, b.symm⟩
theorem zeros_q {w : World} {q : Nat} {A : Option Addr} {n c : Nat} {b : List Int} (hA : Rd w w.heap.size A (kcells .u8 b)) (hn : b.length = n) (hb : Bytes b) (hn2 : n ≤ 1000000) :
    Calls Try.prog 85 #[.slice A n c] (w.drewN q) fun e w' => e = .returned (.int .i64 (zerosB b)) ∧ w' = w.drewN q :=
  (zeros_any A n c b (w.drewN q) (hA.drew (Nat.le_refl _) q) hn hb hn2).mono fun _ _ ⟨a, b⟩ => ⟨a, b.symm⟩

theorem goodP_64 {b : List Int} (h : b.length = 64) : goodP b = (numB (b.drop 62) == zerosB (b.take 62)) := by
  unfold goodP
  rw [h]
  by_cases e : numB (b.drop 62) = zerosB (b.take 62)
  · rw [decide_eq_true ⟨rfl, e⟩, e]; simp
  · rw [decide_eq_false (fun k => e k.2)]
    symm
    rw [beq_eq_false_iff_ne]
    exact e
theorem goodP_no {b : List Int} (h : b.length ≠ 64) : goodP b = false := by
  unfold goodP
  rw [decide_eq_false (fun k => h k.1)]

set_option maxHeartbeats 2000000 in
theorem good_any (A : Option Addr) (n c : Nat) (b : List Int) (w : World) (hA : Rd w w.heap.size A (kcells .u8 b)) (hn : b.length = n) (hnc : n ≤ c) (hcm : c ≤ maxLen) (hb : Bytes b) :
    Calls Try.prog 47 #[.slice A n c] w fun e w' => e = .returned (.bool (goodP b)) ∧ ∃ q, w' = w.drewN q := by
  unfold maxLen at hcm
  by_cases h64 : n = 64
  · subst h64
    have HG := Lib.hid (goodP_64 hn)
    obtain ⟨ba, off, rfl⟩ : ∃ ba off, A = some ⟨ba, off, none⟩ := by
      obtain ⟨x, hx⟩ := getElem?_of_lt (l := b) (k := 0) (by omega)
      obtain ⟨b', o, e, _⟩ := hA.kint hx
      exact ⟨b', o, e⟩
    have r1 : Rd w w.heap.size (some ⟨ba, off + 62, none⟩) (kcells .u8 (b.drop 62)) := by
      have := hA.part 62 2
      rw [List.take_of_length_le (by rw [List.length_drop, hn]; exact Nat.le_refl 2)] at this
      exact this
    have r2 : Rd w w.heap.size (some ⟨ba, off, none⟩) (kcells .u8 (b.take 62)) := by
      have := hA.part 0 62
      rw [List.drop_zero] at this
      exact this
    have H84 : Hid (∀ q, Calls Try.prog 84 #[.slice (some ⟨ba, off + 62, none⟩) 2 (c - 62)] (w.drewN q) fun e w' => e = .returned (.int .u64 (numB (b.drop 62))) ∧ w' = w.drewN q) :=
      fun q => number_q r1 (by rw [List.length_drop, hn]) (fun x hx => hb x (List.mem_of_mem_drop hx)) (by omega)
    have H85 : Hid (∀ q, Calls Try.prog 85 #[.slice (some ⟨ba, off, none⟩) 62 c] (w.drewN q) fun e w' => e = .returned (.int .i64 (zerosB (b.take 62))) ∧ w' = w.drewN q) :=
      fun q => zeros_q r2 (by rw [List.length_take, hn]; rfl) (fun x hx => hb x (List.mem_of_mem_take hx)) (by omega)
    have hz := zeros_range (b.take 62)
    rw [List.length_take, hn] at hz
    obtain ⟨z1, z2⟩ := hz
    generalize numB (b.drop 62) = N at *
    generalize zerosB (b.take 62) = Z at *
    have z3 : Z < 1000 := by omega
    have z4 : IntKind.u64.wrap Z = Z := by rw [IntKind.wrap_u64]; omega
    clear hA hn hb r1 r2 z2
    go_enter Try.func47, Try.ntmps47
    go_wp2
    go_quiet ((first | (go_at_call 84; with_reducible exact Calls.quiet_of_same (H84.out _)) | (go_at_call 85; with_reducible exact Calls.quiet_of_same (H85.out _))))
    go_wp2
    go_ret
    exact ⟨by rw [HG.out]; rfl, _, rfl⟩
  · have HG := Lib.hid (goodP_no (b := b) (by omega))
    have d : ((n : Int) == 64) = false := by simp; omega
    clear hA hn hb h64
    go_enter Try.func47, Try.ntmps47
    go_wp2
    go_quiet (fail)
    go_wp2
    go_ret
    exact ⟨by rw [HG.out]; rfl, _, rfl⟩

/-- Equal of two slices of bytes. -/
theorem equal_any (A B : Option Addr) (n m c d : Nat) (a b : List Int) (w : World) (hA : Rd w w.heap.size A (kcells .u8 a)) (hB : Rd w w.heap.size B (kcells .u8 b)) (hn : a.length = n) (hm : b.length = m) (ha : Bytes a) (hb : Bytes b) :
    Calls Try.prog 90 #[.slice A n c, .slice B m d] w fun e w' => e = .returned (.bool (decide (a = b))) ∧ w = w' := by
  have h1 := str_of (c := c) hA hn
  have h2 := str_of (c := d) hB hm
  have HE := Lib.hid (str_beq ha hb)
  clear hA hB hn hm ha hb
  go_enter Try.func90, Try.ntmps90
  go_wp2
  go_ret
  refine ⟨?_, rfl⟩
  rw [← HE.out]
  first | rfl | simp
end Go.Proofs.Ytfeceamhlphelaa
