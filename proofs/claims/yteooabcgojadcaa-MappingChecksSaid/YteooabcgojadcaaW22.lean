/-
  awake of layer 54.
-/
import Derived.Test.YteooabcgojadcaaW21
import Derived.Test.YteooabcgojadcaaStr
namespace Go.Proofs.Yteooabcgojadcaa
open Go.RowKit
set_option linter.unusedVariables false

def aw1 : Ob := ⟨1, 0, 0, 0, 0, 1, 0, false, false⟩
def aw2 : Ob := ⟨2, 0, 1, 0, 0, 255, 0, false, false⟩

set_option maxRecDepth 100000 in
theorem aw_pack : packO [aw1, aw2] [⟨1, 0⟩, ⟨2, 0⟩] [1, 6] = ([13, 0], 0) := by decide
set_option maxRecDepth 100000 in
theorem aw_enc : encO 1 [] = ([1, 0, 21], 0) := by decide

set_option maxRecDepth 100000 in
set_option maxHeartbeats 4000000 in
theorem awake54_any (w : World) : Calls Try.prog 38 #[] w fun e w' => e = .returned (.bool true) ∧ Below w.heap.size w w' := by
  have HP := Lib.hid aw_pack
  have HE := Lib.hid aw_enc
  have h3 := eq_nil
  go_enter Try.func38, Try.ntmps38
  go_wp2_with (fail)
  obtain ⟨v1, hv1⟩ : ∃ v, w.alloc (.cells #[.int .i64 1, .int .i64 0, .int .i64 0, .int .i64 0, .int .i64 0, .int .i64 1, .int .i64 0, .bool false, .bool false, .int .i64 2, .int .i64 0, .int .i64 1, .int .i64 0, .int .i64 0, .int .i64 255, .int .i64 0, .bool false, .bool false] 52) = v := ⟨_, rfl⟩
  have hs1 : v1.heap.size = w.heap.size + 1 := by rw [← hv1]; simp
  have HBv1 : Hid (Below w.heap.size w v1) := by rw [← hv1]; exact (Below.refl _ _).alloc (Nat.le_refl _) _
  have HRL : Hid (Rd v1 (w.heap.size + 1) (some ⟨w.heap.size, 0, none⟩) (ocells [aw1, aw2])) := by rw [← hv1]; exact Rd.new w _ _ _ rfl
  rw [hv1]
  clear hv1
  obtain ⟨v2, hv2⟩ : ∃ v, v1.alloc (.cells #[.int .i64 1, .int .i64 0, .int .i64 2, .int .i64 0] 110) = v := ⟨_, rfl⟩
  have hs2 : v2.heap.size = w.heap.size + 1 + 1 := by rw [← hv2]; simp [hs1]
  have HBv2 : Hid (Below v1.heap.size v1 v2) := by rw [← hv2]; exact (Below.refl _ _).alloc (Nat.le_refl _) _
  have HRM : Hid (Rd v2 (w.heap.size + 1 + 1) (some ⟨w.heap.size + 1, 0, none⟩) (mcells [⟨1, 0⟩, ⟨2, 0⟩])) := by
    rw [← hv2, ← hs1]
    exact Rd.new v1 _ _ _ rfl
  rw [hv2]
  clear hv2
  obtain ⟨v3, hv3⟩ : ∃ v, v2.alloc (.cells #[.int .i64 1, .int .i64 6] 3) = v := ⟨_, rfl⟩
  have hs3 : v3.heap.size = w.heap.size + 1 + 1 + 1 := by rw [← hv3]; simp [hs2]
  have HBv3 : Hid (Below v2.heap.size v2 v3) := by rw [← hv3]; exact (Below.refl _ _).alloc (Nat.le_refl _) _
  have HRV : Hid (Rd v3 (w.heap.size + 1 + 1 + 1) (some ⟨w.heap.size + 1 + 1, 0, none⟩) (icells [1, 6])) := by
    rw [← hv3, ← hs2]
    exact Rd.new v2 _ _ _ rfl
  rw [hv3]
  clear hv3
  have HB13 : Hid (Below v1.heap.size v1 v3) := HBv2.out.trans (HBv3.out.mono (by omega))
  have HB3 : Hid (Below w.heap.size w v3) := HBv1.out.trans (HB13.out.mono (by omega))
  have HRL3 : Hid (Rd v3 v3.heap.size (some ⟨w.heap.size, 0, none⟩) (ocells [aw1, aw2])) := (HRL.out.below HB13.out (by omega)).more (by omega)
  have HRM3 : Hid (Rd v3 v3.heap.size (some ⟨w.heap.size + 1, 0, none⟩) (mcells [⟨1, 0⟩, ⟨2, 0⟩])) := (HRM.out.below HBv3.out (by omega)).more (by omega)
  have HRV3 : Hid (Rd v3 v3.heap.size (some ⟨w.heap.size + 1 + 1, 0, none⟩) (icells [1, 6])) := HRV.out.more (by omega)
  have hm2 : 2 ≤ maxLen := by decide
  (with_reducible refine (Pack_any _ _ _ 2 2 2 2 2 2 [aw1, aw2] [⟨1, 0⟩, ⟨2, 0⟩] [1, 6] v3 HRL3.out rfl (Nat.le_refl _) hm2 HRM3.out rfl (Nat.le_refl _) hm2 HRV3.out rfl (Nat.le_refl _) hm2).mono ?_)
  rintro e w1 ⟨A1, c1, rfl, hc11, hc12, hr1, hb⟩
  rw [HP.out] at hr1 hc11 ⊢
  simp only [errV_zero, List.length_cons, List.length_nil] at hr1 hc11 ⊢
  have HR1 := Lib.hid hr1
  have HB1 : Hid (Below w.heap.size w w1) := HB3.out.trans (hb.mono (by omega))
  have hsz1 := HB1.out.size
  clear hr1 hb HRL HRM HRV HRL3 HRM3 HRV3 HB3 HB13 HBv1 HBv2 HBv3 hs1 hs2 hs3
  have HE0 : Hid (Rd w1 w1.heap.size none (kcells .u8 [])) := fun h => absurd rfl h
  have HY0 : Hid (Bytes []) := by intro x hx; simp at hx
  go_wp2_with (fail)
  (with_reducible refine (Encode_any 1 none 0 0 [] w1 HE0.out rfl (Nat.le_refl _) (Nat.zero_le _) HY0.out).mono ?_)
  rintro e w2 ⟨A2, c2, rfl, hc21, hc22, hr2, hb⟩
  rw [HE.out] at hr2 hc21 ⊢
  simp only [errV_zero, List.length_cons, List.length_nil] at hr2 hc21 ⊢
  have HR2 := Lib.hid hr2
  have HB2 : Hid (Below w.heap.size w w2) := HB1.out.trans (hb.mono hsz1)
  have HR12 : Hid (Rd w2 w2.heap.size A1 (kcells .u8 [13, 0])) := (HR1.out.below hb (Nat.le_refl _)).more hb.size
  have hsz2 := HB2.out.size
  have q1 : (convert 35 9 (.slice A1 2 c1)).run Try.prog w2 = .ok (.string (strOfNums [13, 0])) w2 := str_of HR12.out rfl
  have q2 : (convert 35 9 (.slice (some ⟨w2.heap.size, 0, none⟩) 2 2)).run Try.prog (w2.alloc (.cells #[.int .u8 13, .int .u8 0] 5)) = .ok (.string (strOfNums [13, 0])) (w2.alloc (.cells #[.int .u8 13, .int .u8 0] 5)) := str_of (b := [13, 0]) (Rd.new w2 _ _ _ rfl) rfl
  have HB3 : Hid (Below w.heap.size w (w2.alloc (.cells #[.int .u8 13, .int .u8 0] 5))) := HB2.out.alloc hsz2 _
  have q3 : (convert 35 9 (.slice A2 3 c2)).run Try.prog (w2.alloc (.cells #[.int .u8 13, .int .u8 0] 5)) = .ok (.string (strOfNums [1, 0, 21])) (w2.alloc (.cells #[.int .u8 13, .int .u8 0] 5)) := str_of (B := w2.heap.size) (HR2.out.below ((Below.refl _ _).alloc (Nat.le_refl _) _) (Nat.le_refl _)) rfl
  have q4 : (convert 35 9 (.slice (some ⟨w2.heap.size + 1, 0, none⟩) 3 3)).run Try.prog ((w2.alloc (.cells #[.int .u8 13, .int .u8 0] 5)).alloc (.cells #[.int .u8 1, .int .u8 0, .int .u8 21] 5)) = .ok (.string (strOfNums [1, 0, 21])) ((w2.alloc (.cells #[.int .u8 13, .int .u8 0] 5)).alloc (.cells #[.int .u8 1, .int .u8 0, .int .u8 21] 5)) := by
    have := Rd.new (w2.alloc (.cells #[.int .u8 13, .int .u8 0] 5)) #[.int .u8 1, .int .u8 0, .int .u8 21] 5 (kcells .u8 [1, 0, 21]) rfl
    rw [World.size_alloc] at this
    exact str_of this rfl
  have HB4 : Hid (Below w.heap.size w ((w2.alloc (.cells #[.int .u8 13, .int .u8 0] 5)).alloc (.cells #[.int .u8 1, .int .u8 0, .int .u8 21] 5))) := HB3.out.alloc (by simp; omega) _
  clear hr2 hb
  go_wp2
  go_ret
  exact ⟨rfl, HB4.out⟩
end Go.Proofs.Yteooabcgojadcaa
