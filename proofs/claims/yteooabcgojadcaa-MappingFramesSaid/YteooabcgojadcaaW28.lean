/-
  The statement MappingFrames, walked.
-/
import Derived.Test.YteooabcgojadcaaW26
namespace Go.Proofs.Yteooabcgojadcaa
open Go.RowKit
set_option linter.unusedVariables false

set_option maxRecDepth 100000 in
set_option maxHeartbeats 1000000 in
theorem mframes_long (a : Int) (A : Option Addr) (n c : Nat) (B : Option Addr) (m e : Nat) (p : Int) (w : World) (hn : n ≤ maxLen) (hm : m ≤ maxLen) (h : 100 < n ∨ 100 < m) :
    Calls Try.prog 14 #[.agg #[.int .i64 a, .slice A n c], .slice B m e, .int .i64 p] w fun e w' => e = .returned (.bool true) ∧ Below w.heap.size w w' := by
  unfold maxLen at hn hm
  by_cases h1 : 100 < n
  · clear h
    go_enter Try.func14, Try.ntmps14
    go_wp2_with (fail)
    refine (awake54_any _).mono ?_
    rintro e w1 ⟨rfl, hb⟩
    have HB : Hid (Below w.heap.size w w1) := ((Below.refl _ _).alloc (Nat.le_refl _) _).trans (hb.mono (by simp))
    have e1 : w1.cell? ⟨w.heap.size, 1, none⟩ = some (.slice A n c) := by
      rw [hb.cell (p := ⟨w.heap.size, 1, none⟩) (by simp)]
      exact cell_new_at _ _ _ _ _ _ rfl rfl
    clear hb
    go_wp2_with (fail)
    refine (awake54_any _).mono ?_
    rintro e w3 ⟨rfl, hb⟩
    have HB3 : Hid (Below w.heap.size w w3) := HB.out.trans (hb.mono HB.out.size)
    clear hb
    go_wp2
    go_ret
    exact ⟨rfl, HB3.out⟩
  · have h2 : 100 < m := by omega
    clear h
    go_enter Try.func14, Try.ntmps14
    go_wp2_with (fail)
    refine (awake54_any _).mono ?_
    rintro e w1 ⟨rfl, hb⟩
    have HB : Hid (Below w.heap.size w w1) := ((Below.refl _ _).alloc (Nat.le_refl _) _).trans (hb.mono (by simp))
    have e1 : w1.cell? ⟨w.heap.size, 1, none⟩ = some (.slice A n c) := by
      rw [hb.cell (p := ⟨w.heap.size, 1, none⟩) (by simp)]
      exact cell_new_at _ _ _ _ _ _ rfl rfl
    clear hb
    go_wp2_with (fail)
    refine (awake54_any _).mono ?_
    rintro e w3 ⟨rfl, hb⟩
    have HB3 : Hid (Below w.heap.size w w3) := HB.out.trans (hb.mono HB.out.size)
    clear hb
    go_wp2
    go_ret
    exact ⟨rfl, HB3.out⟩

set_option maxRecDepth 100000 in
set_option maxHeartbeats 8000000 in
theorem mframes_main (a : Int) (A : Option Addr) (n c : Nat) (d : List Int) (B : Option Addr) (m e : Nat) (b : List Int) (p : Int) (w : World) (hA : Rd w w.heap.size A (kcells .u8 d)) (hn : d.length = n) (hc : n ≤ c) (hcc : c ≤ maxLen) (hr : Bytes d)
    (hB : Rd w w.heap.size B (kcells .u8 b)) (hm : b.length = m) (hme : m ≤ e) (hemx : e ≤ maxLen) (hrb : Bytes b) (h1 : n ≤ 100) (h2 : m ≤ 100) :
    Calls Try.prog 14 #[.agg #[.int .i64 a, .slice A n c], .slice B m e, .int .i64 p] w fun e w' => e = .returned (.bool true) ∧ Below w.heap.size w w' := by
  have HA := Lib.hid hA
  have HN := Lib.hid hn
  have HR := Lib.hid hr
  have HBB := Lib.hid hB
  have HM := Lib.hid hm
  have HRB := Lib.hid hrb
  clear hA hn hr hB hm hrb
  go_enter Try.func14, Try.ntmps14
  go_wp2_with (fail)
  refine (awake54_any _).mono ?_
  rintro e0 w1 ⟨rfl, hb⟩
  have HB1 : Hid (Below w.heap.size w w1) := ((Below.refl _ _).alloc (Nat.le_refl _) _).trans (hb.mono (by simp))
  have p0 : w1.cell? ⟨w.heap.size, 0, none⟩ = some (.int .i64 a) := by
    rw [hb.cell (p := ⟨w.heap.size, 0, none⟩) (by simp)]
    exact cell_new_at _ _ _ _ _ _ rfl rfl
  have p1 : w1.cell? ⟨w.heap.size, 1, none⟩ = some (.slice A n c) := by
    rw [hb.cell (p := ⟨w.heap.size, 1, none⟩) (by simp)]
    exact cell_new_at _ _ _ _ _ _ rfl rfl
  have hl1 : w.heap.size < w1.heap.size := World.block_lt_of_cell? w1 _ p1
  clear hb
  go_wp2_with (fail)
  (with_reducible refine (Encode_any a A n c d w1 ((HA.out.below HB1.out (Nat.le_refl _)).more HB1.out.size) HN.out hc hcc HR.out).mono ?_)
  rintro e0 w2 ⟨A2, c2, rfl, hc21, hc22, hr2, hb⟩
  have HB2 : Hid (Below w.heap.size w w2) := HB1.out.trans (hb.mono HB1.out.size)
  obtain ⟨⟨x, k⟩, hq⟩ : ∃ q, encO a d = q := ⟨_, rfl⟩
  rw [hq] at hr2 ⊢
  simp only at hr2 ⊢
  have HQ := Lib.hid hq
  have HR2 := Lib.hid hr2
  have q0 : w2.cell? ⟨w.heap.size, 0, none⟩ = some (.int .i64 a) := (hb.cell (p := ⟨w.heap.size, 0, none⟩) hl1).trans p0
  have q1 : w2.cell? ⟨w.heap.size, 1, none⟩ = some (.slice A n c) := (hb.cell (p := ⟨w.heap.size, 1, none⟩) hl1).trans p1
  have hl2 : w.heap.size < w2.heap.size := World.block_lt_of_cell? w2 _ q1
  obtain ⟨X, hX⟩ : ∃ X, x.length = X := ⟨_, rfl⟩
  rw [hX]
  have HX := Lib.hid hX
  clear hr2 hb hq p0 p1 hX hc21
  go_wp2_with (fail)
  (with_reducible refine (refEncode_any a A n c d w2 ((HA.out.below HB2.out (Nat.le_refl _)).more HB2.out.size) HN.out hc hcc HR.out).mono ?_)
  rintro e0 w3 ⟨A3, c3, rfl, hc31, hc32, hr3, hb⟩
  have HB3 : Hid (Below w.heap.size w w3) := HB2.out.trans (hb.mono HB2.out.size)
  rw [HQ.out] at hr3 ⊢
  simp only at hr3 ⊢
  rw [HX.out]
  have HR3 := Lib.hid hr3
  have HR23 : Hid (Rd w3 w3.heap.size A2 (kcells .u8 x)) := (HR2.out.below hb (Nat.le_refl _)).more hb.size
  have r0 : w3.cell? ⟨w.heap.size, 0, none⟩ = some (.int .i64 a) := (hb.cell (p := ⟨w.heap.size, 0, none⟩) hl2).trans q0
  have hl3 : w.heap.size < w3.heap.size := World.block_lt_of_cell? w3 _ r0
  clear hr3 hb q0 q1 hc31 HR2
  go_wp2_with (fail)
  (with_reducible refine (Decode_any B m e b w3 ((HBB.out.below HB3.out (Nat.le_refl _)).more HB3.out.size) HM.out hme hemx HRB.out).mono ?_)
  rintro e0 w4 ⟨A4, c4, rfl, hc41, hc42, hr4, hb⟩
  have HB4 : Hid (Below w.heap.size w w4) := HB3.out.trans (hb.mono HB3.out.size)
  obtain ⟨⟨⟨s, y⟩, j⟩, hq⟩ : ∃ q, decO b = q := ⟨_, rfl⟩
  rw [hq] at hr4 ⊢
  simp only at hr4 ⊢
  have HQ2 := Lib.hid hq
  obtain ⟨Y, hY⟩ : ∃ Y, y.length = Y := ⟨_, rfl⟩
  rw [hY]
  have HY := Lib.hid hY
  have HB34 := Lib.hid hb
  have hs4 := HB4.out.size
  have s0 : w4.cell? ⟨w.heap.size, 0, none⟩ = some (.int .i64 a) := (hb.cell (p := ⟨w.heap.size, 0, none⟩) hl3).trans r0
  have hl4 : w.heap.size < w4.heap.size := World.block_lt_of_cell? w4 _ s0
  have HR4 := Lib.hid hr4
  clear hq hY hb hr4 hc41
  go_upto_region 6 with (fail)
  obtain ⟨V, hV⟩ : ∃ W, w4.alloc (.cells #[.int .i64 s, .slice A4 Y c4] 73) = W := ⟨_, rfl⟩
  have HBV : Hid (Below w4.heap.size w4 V) := by rw [← hV]; exact (Below.refl _ _).alloc (Nat.le_refl _) _
  have v0 : V.cell? ⟨w4.heap.size, 0, none⟩ = some (.int .i64 s) := by rw [← hV]; simp
  have v1 : V.cell? ⟨w4.heap.size, 1, none⟩ = some (.slice A4 Y c4) := by rw [← hV]; simp
  rw [hV]
  clear hV
  have HBV2 : Hid (Below w.heap.size w V) := HB4.out.trans (HBV.out.mono hs4)
  have hlV : w4.heap.size < V.heap.size := World.block_lt_of_cell? V _ v1
  go_wp2_with (fail)
  (with_reducible refine (refDecode_any B m e b V ((HBB.out.below HBV2.out (Nat.le_refl _)).more HBV2.out.size) HM.out hme hemx HRB.out).mono ?_)
  rintro e0 w5 ⟨A5, c5, rfl, hc51, hc52, hr5, hb⟩
  rw [HQ2.out] at hr5 ⊢
  simp only at hr5 ⊢
  rw [HY.out]
  have HB45 : Hid (Below w4.heap.size w4 w5) := HBV.out.trans (hb.mono HBV.out.size)
  have HB35 : Hid (Below w3.heap.size w3 w5) := HB34.out.trans (HB45.out.mono HB34.out.size)
  have HB5 : Hid (Below w.heap.size w w5) := HB4.out.trans (HB45.out.mono hs4)
  have hs5 := HB5.out.size
  have u0 : w5.cell? ⟨w4.heap.size, 0, none⟩ = some (.int .i64 s) := (hb.cell (p := ⟨w4.heap.size, 0, none⟩) hlV).trans v0
  have u1 : w5.cell? ⟨w4.heap.size, 1, none⟩ = some (.slice A4 Y c4) := (hb.cell (p := ⟨w4.heap.size, 1, none⟩) hlV).trans v1
  have t0 : w5.cell? ⟨w.heap.size, 0, none⟩ = some (.int .i64 a) := (HB45.out.cell (p := ⟨w.heap.size, 0, none⟩) hl4).trans s0
  have hl5 : w4.heap.size < w5.heap.size := World.block_lt_of_cell? w5 _ u1
  have hl6 : w.heap.size < w5.heap.size := World.block_lt_of_cell? w5 _ t0
  have HR5 := Lib.hid hr5
  clear hr5 hb hc51
  go_upto_region 7 with (fail)
  obtain ⟨W, hW⟩ : ∃ W, w5.alloc (.cells #[.int .i64 s, .slice A5 Y c5] 73) = W := ⟨_, rfl⟩
  have HBW : Hid (Below w5.heap.size w5 W) := by rw [← hW]; exact (Below.refl _ _).alloc (Nat.le_refl _) _
  have z0 : W.cell? ⟨w5.heap.size, 0, none⟩ = some (.int .i64 s) := by rw [← hW]; simp
  have z1 : W.cell? ⟨w5.heap.size, 1, none⟩ = some (.slice A5 Y c5) := by rw [← hW]; simp
  have x0 : W.cell? ⟨w4.heap.size, 0, none⟩ = some (.int .i64 s) := (HBW.out.cell (p := ⟨w4.heap.size, 0, none⟩) hl5).trans u0
  have x1 : W.cell? ⟨w4.heap.size, 1, none⟩ = some (.slice A4 Y c4) := (HBW.out.cell (p := ⟨w4.heap.size, 1, none⟩) hl5).trans u1
  have y0 : W.cell? ⟨w.heap.size, 0, none⟩ = some (.int .i64 a) := (HBW.out.cell (p := ⟨w.heap.size, 0, none⟩) hl6).trans t0
  rw [hW]
  clear hW
  have HB3W : Hid (Below w3.heap.size w3 W) := HB35.out.trans (HBW.out.mono HB35.out.size)
  have HB4W : Hid (Below w4.heap.size w4 W) := HB45.out.trans (HBW.out.mono HB45.out.size)
  have HWW : Hid (Below w.heap.size w W) := HB5.out.trans (HBW.out.mono hs5)
  have s2 : ∀ q, (convert 35 9 (.slice A2 X c2)).run Try.prog (W.drewN q) = .ok (.string (strOfNums x)) (W.drewN q) := fun q => str_of (w := W.drewN q) (B := w3.heap.size) (HR23.out.below (Below.drewN HB3W.out q) (Nat.le_refl _)) HX.out
  have s3 : ∀ q, (convert 35 9 (.slice A3 X c3)).run Try.prog (W.drewN q) = .ok (.string (strOfNums x)) (W.drewN q) := fun q => str_of (w := W.drewN q) (B := w3.heap.size) (HR3.out.below (Below.drewN HB3W.out q) (Nat.le_refl _)) HX.out
  have s4 : ∀ q, (convert 35 9 (.slice A4 Y c4)).run Try.prog (W.drewN q) = .ok (.string (strOfNums y)) (W.drewN q) := fun q => str_of (w := W.drewN q) (B := w4.heap.size) (HR4.out.below (Below.drewN HB4W.out q) (Nat.le_refl _)) HY.out
  have s5 : ∀ q, (convert 35 9 (.slice A5 Y c5)).run Try.prog (W.drewN q) = .ok (.string (strOfNums y)) (W.drewN q) := fun q => str_of (w := W.drewN q) (B := w5.heap.size) (HR5.out.below (Below.drewN HBW.out q) (Nat.le_refl _)) HY.out
  have HWB : Hid (Rd W w.heap.size B (kcells .u8 b)) := HBB.out.below HWW.out (Nat.le_refl _)
  clear v0 v1 u0 u1 t0 s0 r0 HR5 HR4 HR3 HR23 HB45 HB35 HB34 HBV
  have HK : Hid (∀ q, Calls Try.prog 21 #[errV k] (W.drewN q) fun e w' => e = .returned (.int .i64 k) ∧ w' = W.drewN q) := fun q => (num_any k _).mono fun _ _ ⟨a, b⟩ => ⟨a, b.symm⟩
  have HJ : Hid (∀ q, Calls Try.prog 21 #[errV j] (W.drewN q) fun e w' => e = .returned (.int .i64 j) ∧ w' = W.drewN q) := fun q => (num_any j _).mono fun _ _ ⟨a, b⟩ => ⟨a, b.symm⟩
  have HS1 : Hid (∀ q, Calls Try.prog 47 #[.slice B m e] (W.drewN q) fun e w' => e = .returned (.int .i64 (sumF b : Nat)) ∧ w' = W.drewN q) := fun q => (Sum_any B m e w.heap.size b (W.drewN q) HWB.out HM.out hme hemx HRB.out).mono fun _ _ ⟨a, b⟩ => ⟨a, b.symm⟩
  have HS2 : Hid (∀ q, Calls Try.prog 48 #[.slice B m e] (W.drewN q) fun e w' => e = .returned (.int .i64 (sumF b : Nat)) ∧ w' = W.drewN q) := fun q => (refSum_any B m e w.heap.size b (W.drewN q) HWB.out HM.out hme hemx HRB.out).mono fun _ _ ⟨a, b⟩ => ⟨a, b.symm⟩
  have HM1 : Hid (∀ q, Calls Try.prog 42 #[.int .i64 p, .int .i64 a] (W.drewN q) fun e w' => e = .returned (.int .i64 (missO p a)) ∧ w' = W.drewN q) := fun q => (missed_any p a _).mono fun _ _ ⟨a, b⟩ => ⟨a, b.symm⟩
  have HM2 : Hid (∀ q, Calls Try.prog 49 #[.int .i64 p, .int .i64 a] (W.drewN q) fun e w' => e = .returned (.int .i64 (missO p a)) ∧ w' = W.drewN q) := fun q => (refMissed_any p a _).mono fun _ _ ⟨a, b⟩ => ⟨a, b.symm⟩
  generalize sumF b = S at *
  generalize missO p a = Z at *
  generalize hek : errV k = ek at *
  generalize hej : errV j = ej at *
  clear hek hej
  go_quiet (first
    | (go_at_call 21; with_reducible exact Calls.quiet_of_same (HK.out _))
    | (go_at_call 21; with_reducible exact Calls.quiet_of_same (HJ.out _))
    | (go_at_call 47; exact Calls.quiet_of_same (HS1.out _))
    | (go_at_call 48; exact Calls.quiet_of_same (HS2.out _))
    | (go_at_call 42; exact Calls.quiet_of_same (HM1.out _))
    | (go_at_call 49; exact Calls.quiet_of_same (HM2.out _)))
  go_wp2
  go_ret
  exact ⟨rfl, Below.drewN HWW.out _⟩
end Go.Proofs.Yteooabcgojadcaa
