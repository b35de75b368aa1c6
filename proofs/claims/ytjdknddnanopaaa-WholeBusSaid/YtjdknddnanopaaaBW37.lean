
/-
  mapping.Check: its closure, find with it.
-/
import Derived.Test.YtjdknddnanopaaaBW18
import Derived.Test.YtjdknddnanopaaaBW32
namespace Go.Proofs.Ytjdknddnanopaaa.Bus
open Go.RowKit
set_option linter.unusedVariables false

set_option maxHeartbeats 2000000 in
theorem refCheck54_any (A A' : Option Addr) (n c n' c' : Nat) (l : List Ob) (m : List It) (ot : Bool) (w : World) (hA : Rd w w.heap.size A (ocells l)) (hn : l.length = n) (hc : n ≤ c) (hcc : c ≤ maxLen)
    (hA' : Rd w w.heap.size A' (mcells m)) (hn' : m.length = n') (hc' : n' ≤ c') (hcc' : c' ≤ maxLen) :
    Calls Try.prog 44 #[.slice A n c, .slice A' n' c', .bool ot] w fun e w' => e = .returned (.int .i64 (findM l (chkO m ot) m).2) ∧ Below w.heap.size w w' := by
  have HF := Lib.hid (reffind_yes A A' n c n' c' l m ot w hA hn hc hcc hA' hn' hc' hcc')
  clear hA hn hA' hn' hcc hcc'
  generalize findM l (chkO m ot) m = q at *
  obtain ⟨f, ec⟩ := q
  simp only at HF ⊢
  generalize f.length = L at *
  generalize sumB f = S at *
  go_enter Try.func44, Try.ntmps44
  go_wp2_with (fail)
  (with_reducible refine HF.out.mono ?_)
  rintro e w1 ⟨Ar, cr, rfl, hc1, hc2, hr, hb⟩
  have HB := Lib.hid hb
  clear hr hb
  go_wp2
  go_ret
  exact ⟨rfl, HB.out⟩

end Go.Proofs.Ytjdknddnanopaaa.Bus
