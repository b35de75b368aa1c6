/-
  kept, of the top laws.
-/
import Derived.Test.YtjdknddnanopaaaMe
import Derived.Deep.DeepCutAuto
import Derived.Deep.CutBlock
namespace Go.Proofs.Ytjdknddnanopaaa
open Go.RowKit
set_option linter.unusedVariables false

theorem awC_picks : awC.2.1.picks = [] := by decide +kernel
theorem awC_np (X : Nat → Prop) (W : World) (A : Option Addr) : RdX X W A (kcells .u8 awC.2.1.picks) := by rw [awC_picks]; exact RdX.nil
theorem missed34 (w : World) : Calls Try.prog 86 #[.int .i64 3, .int .i64 4] w fun e w' => e = .returned (.int .i64 0) ∧ w = w' := by
  go_enter Try.func86, Try.ntmps86
  go_wp2
  go_ret
  exact ⟨rfl, rfl⟩
set_option maxRecDepth 100000 in
set_option maxHeartbeats 4000000 in
theorem kept_any (w : World) : Calls Try.prog 42 #[] w fun e w' => e = .returned (.bool true) ∧ Below w.heap.size w w' := by
  have g1 := ne_nil
  have g2 := ne_err
  have H1 := Lib.hid aq1
  have H2 := Lib.hid aq2
  have H3 := Lib.hid aq3
  have H4 := Lib.hid aq4
  have H6 := Lib.hid aq6
  have hm1 : 1 ≤ maxLen := by unfold maxLen; omega
  go_enter Try.func42, Try.ntmps42
  go_wp2_with (fail)
  (with_reducible refine (new_okI 2 4 2 4 rfl rfl w (by omega) (by omega) (by omega) (by omega)).mono ?_)
  rintro e w1 ⟨L, rfl, hF⟩
  have HF1 : Hid (FlAt w w1 L awF0) := hF
  clear hF
  go_wp2_with (fail)
  have hRP : Rd (w1.alloc (.cells #[.int .i64 0, .int .i64 9, .int .i64 3] 141)) (w1.heap.size + 1) (some ⟨w1.heap.size, 0, none⟩) (pcells awP) := Rd.new w1 _ _ _ rfl
  have HF2 := Lib.hid (HF1.out.alloc (.cells #[.int .i64 0, .int .i64 9, .int .i64 3] 141))
  obtain ⟨W, hW⟩ : ∃ W, w1.alloc (.cells #[.int .i64 0, .int .i64 9, .int .i64 3] 141) = W := ⟨_, rfl⟩
  have hWs : W.heap.size = w1.heap.size + 1 := by rw [← hW]; exact Array.size_push _
  rw [hW] at hRP HF2 ⊢
  rw [← hWs] at hRP
  have HRP := Lib.hid hRP
  have HWS := Lib.hid hWs
  clear hRP hW hWs
  (with_reducible refine (open_yesI HF2.out 0 2 0 2 rfl rfl _ 1 1 awP HRP.out rfl (Nat.le_refl _) hm1 awP_ok H1.out RdX.nil).mono ?_)
  rintro e w3 ⟨S, rfl, hS, hb, hD, hG⟩
  have HS3 : Hid (StAt w w3 L S awF0 awS0) := hS
  have HOK3 : Hid (StOk awF0 awS0) := openF_ok awP_ok H1.out
  clear hS hb hD hG
  have q1 := eqq_some S.D
  go_wp2_with (fail)
  (with_reducible refine (set_any HS3.out HOK3.out 0 5).mono ?_)
  rintro e w4 ⟨he, hs4, ho4⟩
  rw [H2.out, errV_zero] at he
  subst he
  have HS4 : Hid (StAt w w4 L S awF0 awS1) := hs4
  have HOK4 : Hid (StOk awF0 awS1) := setF_ok HOK3.out (by unfold I64; omega)
  clear hs4 ho4
  go_wp2_with (fail)
  (with_reducible refine (commit_any HS4.out HOK4.out).mono ?_)
  rintro e w5 ⟨he, ⟨S5, hd5, hg5, hs5⟩, ho5⟩
  have he' : e = .returned .nilIface := by
    rw [he]
    have := H3.out
    unfold awC at this
    rw [this, errV_zero]
  subst he'
  have HF5 : Hid (FlAt w w5 L awC.2.1) := hs5.fl
  clear he hs5 ho5 hd5 hg5
  go_wp2_with (fail)
  have hRP5 : Rd (w5.alloc (.cells #[.int .i64 0, .int .i64 9, .int .i64 3] 141)) (w5.heap.size + 1) (some ⟨w5.heap.size, 0, none⟩) (pcells awP) := Rd.new w5 _ _ _ rfl
  have HF6 := Lib.hid (HF5.out.alloc (.cells #[.int .i64 0, .int .i64 9, .int .i64 3] 141))
  obtain ⟨W5, hW5⟩ : ∃ W, w5.alloc (.cells #[.int .i64 0, .int .i64 9, .int .i64 3] 141) = W := ⟨_, rfl⟩
  have hWs5 : W5.heap.size = w5.heap.size + 1 := by rw [← hW5]; exact Array.size_push _
  rw [hW5] at hRP5 HF6 ⊢
  rw [← hWs5] at hRP5
  have HRP5 := Lib.hid hRP5
  clear hRP5 hW5 hWs5
  (with_reducible refine (open_yesI HF6.out 0 2 0 2 rfl rfl _ 1 1 awP HRP5.out rfl (Nat.le_refl _) hm1 awP_ok H4.out (awC_np _ _ _)).mono ?_)
  rintro e w6 ⟨S6, rfl, hS, hb, hD, hG⟩
  have HS6 : Hid (StAt w w6 L S6 awC.2.1 awT) := hS
  have HOK6 : Hid (StOk awC.2.1 awT) := openF_ok awP_ok H4.out
  clear hS hb hD hG
  go_wp2_with (fail)
  (with_reducible refine (saved_any HS6.out HOK6.out).mono ?_)
  rintro e w8 ⟨v8, rfl, ho, hb⟩
  obtain ⟨t1, t2, t3⟩ := H6.out
  rw [t1, t3] at ho
  obtain ⟨A8, c8, rfl, hc81, hc82, hr8⟩ := own_read ho
  have HS8 := Lib.hid (HS6.out.later hb)
  have HR8 := Lib.hid hr8
  clear ho hb hr8 t1 t3 t2
  go_wp2_with (fail)
  obtain ⟨V, hV⟩ : ∃ V, w8.alloc (.cells #[.int .i64 5] 3) = V := ⟨_, rfl⟩
  have HBV : Hid (Below w8.heap.size w8 V) := by rw [← hV]; exact (Below.refl _ _).alloc (Nat.le_refl _) _
  have HRV : Hid (Rd V V.heap.size (some ⟨w8.heap.size, 0, none⟩) (icells [5])) := by
    rw [← hV, World.size_alloc]
    exact Rd.new w8 _ _ _ rfl
  rw [hV]
  have HSV := Lib.hid (HS8.out.later HBV.out)
  (with_reducible refine (ints_any A8 (some ⟨w8.heap.size, 0, none⟩) 1 1 c8 1 [5] [5] V ((HR8.out.below HBV.out (Nat.le_refl _)).more HBV.out.size) HRV.out rfl rfl hm1 hm1).mono ?_)
  rintro e w9 ⟨rfl, q9, rfl⟩
  rw [decide_eq_true rfl]
  have HB9 : Hid (Below w.heap.size w (V.drewN q9)) := HSV.out.fl.below.trans ((Below.drewN (Below.refl _ _) q9).mono HSV.out.fl.below.size)
  clear hV
  go_wp2_with (fail)
  (with_reducible refine (missed34 _).mono ?_)
  rintro e w10 ⟨rfl, rfl⟩
  go_wp2
  go_ret
  exact ⟨rfl, HB9.out⟩
end Go.Proofs.Ytjdknddnanopaaa
