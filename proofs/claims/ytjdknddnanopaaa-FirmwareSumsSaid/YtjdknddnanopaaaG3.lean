/-
  The statement about sums.
-/
import Derived.Test.YtjdknddnanopaaaG2
namespace Go.Proofs.Ytjdknddnanopaaa
open Go.RowKit
set_option linter.unusedVariables false
set_option linter.unusedSimpArgs false

theorem sums_any (A : Option Addr) (n c : Nat) (b : List Int) (w : World) (hA : Rd w w.heap.size A (kcells .u8 b)) (hn : b.length = n) (hnc : n ≤ c) (hcm : c ≤ maxLen) (hb : Bytes b) :
    Calls Try.prog 3 #[.slice A n c] w fun e w' => e = .returned (.bool true) ∧ Below w.heap.size w w' := by
  have HA := Lib.hid hA
  have HN := Lib.hid hn
  have HB := Lib.hid hb
  clear hA hn hb
  unfold maxLen at hcm
  by_cases h5 : 5000 < n
  · have d1 : (5000 : Int) < (n : Int) := by omega
    go_enter Try.func3, Try.ntmps3
    go_wp2
    go_ret
    exact ⟨rfl, Below.refl _ _⟩
  · have d1 : ¬ (5000 : Int) < (n : Int) := by omega
    have d2 : decide ((5000 : Int) < (n : Int)) = false := by simpa using d1
    have hm : n ≤ 140737488351232 := by omega
    go_enter Try.func3, Try.ntmps3
    go_wp2_with (fail)
    (with_reducible refine (awake52_any w).mono ?_)
    rintro e w1 ⟨rfl, hb1⟩
    have HB1 := Lib.hid hb1
    have HA1 := Lib.hid ((HA.out.below hb1 (Nat.le_refl _)).more hb1.size)
    clear hb1
    go_wp2_with (fail)
    (with_reducible refine (fsum_any A n c b w1 HA1.out HN.out HB.out hm).mono ?_)
    rintro e w2 ⟨rfl, q, rfl⟩
    have HB2 : Hid (Below w1.heap.size w1 (w1.drewN q)) := Below.drewN (Below.refl _ _) q
    have HA2 := Lib.hid ((HA1.out.below HB2.out (Nat.le_refl _)).more HB2.out.size)
    have HU := Lib.hid (sumZ_u32 b)
    obtain ⟨W2, hW2⟩ : ∃ W, w1.drewN q = W := ⟨_, rfl⟩
    rw [hW2] at HB2 HA2 ⊢
    clear hW2
    go_wp2_with (fail)
    (with_reducible refine (rsum_any A n c b W2 HA2.out HN.out HB.out hm).mono ?_)
    rintro e w3 ⟨rfl, q2, rfl⟩
    have HB3 : Hid (Below w.heap.size w (W2.drewN q2)) := (HB1.out.trans (HB2.out.mono HB1.out.size)).trans ((Below.drewN (Below.refl _ _) q2).mono (Nat.le_trans HB1.out.size HB2.out.size))
    generalize sumZ b = C at *
    go_wp2
    go_ret
    exact ⟨rfl, HB3.out⟩
end Go.Proofs.Ytjdknddnanopaaa
