
/-
  A slice of bytes as a string.
-/
import Derived.Test.YtjdknddnanopaaaBW1
import Derived.Laws.BytesArg
namespace Go.Proofs.Ytjdknddnanopaaa.Bus
open Go.RowKit

theorem str_of {w : World} {B : Nat} {A : Option Addr} {n c : Nat} {b : List Int} (hA : Rd w B A (kcells .u8 b)) (hn : b.length = n) : (convert 22 9 (.slice A n c)).run Try.prog w = .ok (.string (strOfNums b)) w := by
  by_cases h0 : n = 0
  · subst h0
    have hb : b = [] := List.eq_nil_of_length_eq_zero hn
    subst hb
    cases A with
    | none => exact run_convert_bytes_nil w 22 5 Try.underlying22 Try.underlying5 0 c 9 Try.underlying9
    | some a =>
      rw [run_convert_bytes_string w 22 9 5 _ 0 c Try.underlying22 Try.underlying5 Try.underlying9, run_bytesToString w a 0 c [] rfl]
      rfl
  · obtain ⟨g, off, rfl, _, hc⟩ := hA (by
      intro h
      have := congrArg List.length h
      simp [kcells] at this
      subst this
      simp at hn
      omega)
    refine run_convert_bytes_arg w 22 5 Try.underlying22 Try.underlying5 g off n c b hn (fun i hi => ?_) 9 Try.underlying9
    refine hc i _ ?_
    have hi' : i < b.length := by omega
    simp [kcells, List.getElem?_eq_getElem hi', List.getD_eq_getElem?_getD]
end Go.Proofs.Ytjdknddnanopaaa.Bus
