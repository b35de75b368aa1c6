/-
  A slice of bytes as a string.
-/
import Derived.Test.YtfeceamhlphelaaW1
import Derived.Laws.BytesArg
import Derived.Lib.Bytes
namespace Go.Proofs.Ytfeceamhlphelaa
open Go.RowKit

theorem str_of {w : World} {B : Nat} {A : Option Addr} {n c : Nat} {b : List Int} (hA : Rd w B A (kcells .u8 b)) (hn : b.length = n) : (convert 23 9 (.slice A n c)).run Try.prog w = .ok (.string (strOfNums b)) w := by
  by_cases h0 : n = 0
  · subst h0
    have hb : b = [] := List.eq_nil_of_length_eq_zero hn
    subst hb
    cases A with
    | none => exact run_convert_bytes_nil w 23 5 Try.underlying23 Try.underlying5 0 c 9 Try.underlying9
    | some a =>
      rw [run_convert_bytes_string w 23 9 5 _ 0 c Try.underlying23 Try.underlying5 Try.underlying9, run_bytesToString w a 0 c [] rfl]
      rfl
  · obtain ⟨g, off, rfl, _, hc⟩ := hA (by
      intro h
      have := congrArg List.length h
      simp [kcells] at this
      subst this
      simp at hn
      omega)
    refine run_convert_bytes_arg w 23 5 Try.underlying23 Try.underlying5 g off n c b hn (fun i hi => ?_) 9 Try.underlying9
    refine hc i _ ?_
    have hi' : i < b.length := by omega
    simp [kcells, List.getElem?_eq_getElem hi', List.getD_eq_getElem?_getD]

theorem strl {a : List Int} : (strOfNums a).toList = a.map (fun n => UInt8.ofNat n.toNat) := by
  rw [Go.Lib.strOfNums_toList]
  rfl
theorem str_inj {a b : List Int} (ha : Bytes a) (hb : Bytes b) (h : (strOfNums a).toList = (strOfNums b).toList) : a = b := by
  rw [strl, strl] at h
  have h2 := congrArg (List.map (fun u : UInt8 => (u.toNat : Int))) h
  rw [List.map_map, List.map_map] at h2
  have key : ∀ l : List Int, Bytes l → l.map ((fun u : UInt8 => (u.toNat : Int)) ∘ fun n => UInt8.ofNat n.toNat) = l := by
    intro l hl
    induction l with
    | nil => rfl
    | cons x l ih =>
      rw [List.map_cons, ih (fun y hy => hl y (List.mem_cons_of_mem _ hy))]
      have hx := hl x List.mem_cons_self
      congr 1
      show ((UInt8.ofNat x.toNat).toNat : Int) = x
      rw [UInt8.toNat_ofNat']
      omega
  rw [key a ha, key b hb] at h2
  exact h2
theorem str_beq {a b : List Int} (ha : Bytes a) (hb : Bytes b) : ((strOfNums a).toList == (strOfNums b).toList) = decide (a = b) := by
  by_cases h : a = b
  · rw [h, decide_eq_true rfl]
    simp
  · rw [decide_eq_false h]
    rw [beq_eq_false_iff_ne]
    exact fun e => h (str_inj ha hb e)
end Go.Proofs.Ytfeceamhlphelaa
