/-
  The statement MappingReads, walked.
-/
import Derived.Test.YteooabcgojadcaaW24
namespace Go.Proofs.Yteooabcgojadcaa
open Go.RowKit
set_option linter.unusedVariables false

theorem dec_bytes {b d : List Int} {s : Int} {k : Int} (hb : Bytes b) (h : decO b = ((s, d), k)) : Bytes d := by
  unfold decO at h
  intro x hx
  split at h
  · simp only [Prod.mk.injEq] at h
    rw [← h.1.2] at hx
    simp at hx
  split at h
  · simp only [Prod.mk.injEq] at h
    rw [← h.1.2] at hx
    simp at hx
  split at h
  · simp only [Prod.mk.injEq] at h
    rw [← h.1.2] at hx
    simp at hx
  · simp only [Prod.mk.injEq] at h
    rw [← h.1.2] at hx
    exact hb x (List.mem_of_mem_drop (List.mem_of_mem_take hx))

theorem enc_bytes' {s : Int} {d x : List Int} {k : Int} (hd : Bytes d) (h : encO s d = (x, k)) : Bytes x := by
  by_cases hk : k = 0
  · subst hk
    exact enc_bytes hd h
  · unfold encO at h
    split at h
    · simp only [Prod.mk.injEq] at h
      rw [← h.1]
      intro x hx
      simp at hx
    split at h
    · simp only [Prod.mk.injEq] at h
      rw [← h.1]
      intro x hx
      simp at hx
    · simp only [Prod.mk.injEq] at h
      exact absurd h.2.symm hk

set_option maxRecDepth 100000 in
set_option maxHeartbeats 1000000 in
theorem mreads_long (a : Int) (A : Option Addr) (n c : Nat) (B : Option Addr) (m e : Nat) (w : World) (hn : n ≤ maxLen) (hm : m ≤ maxLen) (h : 100 < n ∨ 100 < m) :
    Calls Try.prog 12 #[.agg #[.int .i64 a, .slice A n c], .slice B m e] w fun e w' => e = .returned (.bool true) ∧ Below w.heap.size w w' := by
  unfold maxLen at hn hm
  by_cases h1 : 100 < n
  · clear h
    go_enter Try.func12, Try.ntmps12
    go_wp2_with (fail)
    refine (awake54_any _).mono ?_
    rintro e w1 ⟨rfl, hb⟩
    have HB : Hid (Below w.heap.size w w1) := ((Below.refl _ _).alloc (Nat.le_refl _) _).trans (hb.mono (by simp))
    have e1 : w1.cell? ⟨w.heap.size, 1, none⟩ = some (.slice A n c) := by
      rw [hb.cell (p := ⟨w.heap.size, 1, none⟩) (by simp)]
      exact cell_new_at _ _ _ _ _ _ rfl rfl
    clear hb
    go_wp2_with (fail)
    refine (awake54_any _).mono ?_
    rintro e w3 ⟨rfl, hb⟩
    have HB3 : Hid (Below w.heap.size w w3) := HB.out.trans (hb.mono HB.out.size)
    clear hb
    go_wp2
    go_ret
    exact ⟨rfl, HB3.out⟩
  · have h2 : 100 < m := by omega
    clear h
    go_enter Try.func12, Try.ntmps12
    go_wp2_with (fail)
    refine (awake54_any _).mono ?_
    rintro e w1 ⟨rfl, hb⟩
    have HB : Hid (Below w.heap.size w w1) := ((Below.refl _ _).alloc (Nat.le_refl _) _).trans (hb.mono (by simp))
    have e1 : w1.cell? ⟨w.heap.size, 1, none⟩ = some (.slice A n c) := by
      rw [hb.cell (p := ⟨w.heap.size, 1, none⟩) (by simp)]
      exact cell_new_at _ _ _ _ _ _ rfl rfl
    clear hb
    go_wp2_with (fail)
    refine (awake54_any _).mono ?_
    rintro e w3 ⟨rfl, hb⟩
    have HB3 : Hid (Below w.heap.size w w3) := HB.out.trans (hb.mono HB.out.size)
    clear hb
    go_wp2
    go_ret
    exact ⟨rfl, HB3.out⟩

set_option maxRecDepth 100000 in
set_option maxHeartbeats 4000000 in
theorem mreads_main (a : Int) (A : Option Addr) (n c : Nat) (d : List Int) (B : Option Addr) (m e : Nat) (b : List Int) (w : World) (hA : Rd w w.heap.size A (kcells .u8 d)) (hn : d.length = n) (hc : n ≤ c) (hcc : c ≤ maxLen) (hr : Bytes d)
    (hB : Rd w w.heap.size B (kcells .u8 b)) (hm : b.length = m) (hme : m ≤ e) (hemx : e ≤ maxLen) (hrb : Bytes b) (h1 : n ≤ 100) (h2 : m ≤ 100) :
    Calls Try.prog 12 #[.agg #[.int .i64 a, .slice A n c], .slice B m e] w fun e w' => e = .returned (.bool true) ∧ Below w.heap.size w w' := by
  have HA := Lib.hid hA
  have HN := Lib.hid hn
  have HR := Lib.hid hr
  have HBB := Lib.hid hB
  have HM := Lib.hid hm
  have HRB := Lib.hid hrb
  have g1 := ne_nil
  have g2 := ne_err
  have g3 := eq_nil
  have g4 := eq_err
  clear hA hn hr hB hm hrb
  go_enter Try.func12, Try.ntmps12
  go_wp2_with (fail)
  refine (awake54_any _).mono ?_
  rintro e0 w1 ⟨rfl, hb⟩
  have HB1 : Hid (Below w.heap.size w w1) := ((Below.refl _ _).alloc (Nat.le_refl _) _).trans (hb.mono (by simp))
  have p0 : w1.cell? ⟨w.heap.size, 0, none⟩ = some (.int .i64 a) := by
    rw [hb.cell (p := ⟨w.heap.size, 0, none⟩) (by simp)]
    exact cell_new_at _ _ _ _ _ _ rfl rfl
  have p1 : w1.cell? ⟨w.heap.size, 1, none⟩ = some (.slice A n c) := by
    rw [hb.cell (p := ⟨w.heap.size, 1, none⟩) (by simp)]
    exact cell_new_at _ _ _ _ _ _ rfl rfl
  have hl1 : w.heap.size < w1.heap.size := World.block_lt_of_cell? w1 _ p1
  clear hb
  go_wp2_with (fail)
  (with_reducible refine (Encode_any a A n c d w1 ((HA.out.below HB1.out (Nat.le_refl _)).more HB1.out.size) HN.out hc hcc HR.out).mono ?_)
  rintro e0 w2 ⟨A2, c2, rfl, hc21, hc22, hr2, hb⟩
  have HB2 : Hid (Below w.heap.size w w2) := HB1.out.trans (hb.mono HB1.out.size)
  obtain ⟨⟨x, k⟩, hq⟩ : ∃ q, encO a d = q := ⟨_, rfl⟩
  rw [hq] at hc21 hr2 ⊢
  simp only at hc21 hr2 ⊢
  have HR2 := Lib.hid hr2
  have q0 : w2.cell? ⟨w.heap.size, 0, none⟩ = some (.int .i64 a) := (hb.cell (p := ⟨w.heap.size, 0, none⟩) hl1).trans p0
  have q1 : w2.cell? ⟨w.heap.size, 1, none⟩ = some (.slice A n c) := (hb.cell (p := ⟨w.heap.size, 1, none⟩) hl1).trans p1
  have hl2 : w.heap.size < w2.heap.size := World.block_lt_of_cell? w2 _ q1
  by_cases hk : k = 0
  · subst hk
    have HD := Lib.hid (enc_dec hq)
    have HXB := Lib.hid (enc_bytes HR.out hq)
    clear hr2 hb hq p0 p1
    simp only [errV_zero]
    obtain ⟨X, hX⟩ : ∃ X, x.length = X := ⟨_, rfl⟩
    rw [hX] at hc21 ⊢
    have HX := Lib.hid hX
    clear hX
    go_wp2_with (fail)
    (with_reducible refine (Decode_any A2 X c2 x w2 HR2.out HX.out hc21 hc22 HXB.out).mono ?_)
    rintro e0 w3 ⟨A3, c3, rfl, hc31, hc32, hr3, hb⟩
    rw [HD.out] at hr3 hc31 ⊢
    simp only [errV_zero] at hr3 hc31 ⊢
    rw [HN.out] at hc31 ⊢
    have HB3 : Hid (Below w.heap.size w w3) := HB2.out.trans (hb.mono HB2.out.size)
    have hs3 := HB3.out.size
    have r0 : w3.cell? ⟨w.heap.size, 0, none⟩ = some (.int .i64 a) := (hb.cell (p := ⟨w.heap.size, 0, none⟩) hl2).trans q0
    have r1 : w3.cell? ⟨w.heap.size, 1, none⟩ = some (.slice A n c) := (hb.cell (p := ⟨w.heap.size, 1, none⟩) hl2).trans q1
    have hl3 : w.heap.size < w3.heap.size := World.block_lt_of_cell? w3 _ r1
    go_upto_region 6 with (fail)
    obtain ⟨V, hV⟩ : ∃ W, w3.alloc (.cells #[.int .i64 a, .slice A3 n c3] 73) = W := ⟨_, rfl⟩
    have HBV : Hid (Below w3.heap.size w3 V) := by rw [← hV]; exact (Below.refl _ _).alloc (Nat.le_refl _) _
    have m0 : V.cell? ⟨w3.heap.size, 0, none⟩ = some (.int .i64 a) := by rw [← hV]; simp
    have m1 : V.cell? ⟨w3.heap.size, 1, none⟩ = some (.slice A3 n c3) := by rw [← hV]; simp
    have s0 : V.cell? ⟨w.heap.size, 0, none⟩ = some (.int .i64 a) := (HBV.out.cell (p := ⟨w.heap.size, 0, none⟩) hl3).trans r0
    have s1 : V.cell? ⟨w.heap.size, 1, none⟩ = some (.slice A n c) := (HBV.out.cell (p := ⟨w.heap.size, 1, none⟩) hl3).trans r1
    rw [hV]
    clear hV
    have HBV2 : Hid (Below w.heap.size w V) := HB3.out.trans (HBV.out.mono hs3)
    have t1 : (convert 35 9 (.slice A3 n c3)).run Try.prog V = .ok (.string (strOfNums d)) V := str_of (hr3.below HBV.out (Nat.le_refl _)) HN.out
    have t2 : (convert 35 9 (.slice A n c)).run Try.prog V = .ok (.string (strOfNums d)) V := str_of (HA.out.below HBV2.out (Nat.le_refl _)) HN.out
    clear hr3 hb q0 q1 r0 r1
    go_wp2_with (fail)
    (with_reducible refine (Decode_any B m e b V ((HBB.out.below HBV2.out (Nat.le_refl _)).more HBV2.out.size) HM.out hme hemx HRB.out).mono ?_)
    rintro e5 w5 ⟨A5, c5, rfl, hc51, hc52, hr5, hb5⟩
    have HB5 : Hid (Below w.heap.size w w5) := HBV2.out.trans (hb5.mono HBV2.out.size)
    have hs5 := HB5.out.size
    obtain ⟨⟨⟨s5, d5⟩, k5⟩, hq5⟩ : ∃ q, decO b = q := ⟨_, rfl⟩
    rw [hq5] at hc51 hr5 ⊢
    simp only at hc51 hr5 ⊢
    have HR5 := Lib.hid hr5
    by_cases h5 : k5 = 0
    · subst h5
      have HE5 := Lib.hid (dec_enc HRB.out hq5)
      have HY5 := Lib.hid (dec_bytes HRB.out hq5)
      clear hr5 hb5 hq5
      simp only [errV_zero]
      obtain ⟨L5, hL5⟩ : ∃ L, d5.length = L := ⟨_, rfl⟩
      rw [hL5] at hc51 ⊢
      have HL5 := Lib.hid hL5
      clear hL5
      go_upto_region 10 with (fail)
      obtain ⟨W, hW⟩ : ∃ W, w5.alloc (.cells #[.int .i64 s5, .slice A5 L5 c5] 73) = W := ⟨_, rfl⟩
      have HBW : Hid (Below w5.heap.size w5 W) := by rw [← hW]; exact (Below.refl _ _).alloc (Nat.le_refl _) _
      have m0 : W.cell? ⟨w5.heap.size, 0, none⟩ = some (.int .i64 s5) := by rw [← hW]; simp
      have m1 : W.cell? ⟨w5.heap.size, 1, none⟩ = some (.slice A5 L5 c5) := by rw [← hW]; simp
      rw [hW]
      clear hW
      have HBW2 : Hid (Below w.heap.size w W) := HB5.out.trans (HBW.out.mono hs5)
      have HRW : Hid (Rd W W.heap.size A5 (kcells .u8 d5)) := (HR5.out.below HBW.out (Nat.le_refl _)).more HBW.out.size
      go_wp2_with (fail)
      (with_reducible refine (Encode_any s5 A5 L5 c5 d5 W HRW.out HL5.out hc51 hc52 HY5.out).mono ?_)
      rintro e6 w6 ⟨A6, c6, rfl, hc61, hc62, hr6, hb6⟩
      rw [HE5.out] at hr6 hc61 ⊢
      simp only [errV_zero] at hr6 hc61 ⊢
      have HB6 : Hid (Below w.heap.size w w6) := HBW2.out.trans (hb6.mono HBW2.out.size)
      have t1 : (convert 35 9 (.slice A6 b.length c6)).run Try.prog w6 = .ok (.string (strOfNums b)) w6 := str_of hr6 rfl
      have t2 : (convert 35 9 (.slice B m e)).run Try.prog w6 = .ok (.string (strOfNums b)) w6 := str_of (HBB.out.below HB6.out (Nat.le_refl _)) HM.out
      clear hr6 hb6
      go_wp2
      go_ret
      exact ⟨rfl, HB6.out⟩
    · have HE := Lib.hid (errV_ne h5)
      rw [HE.out]
      clear h5 hr5 hb5 hq5
      go_wp2
      go_ret
      exact ⟨rfl, HB5.out.alloc hs5 _⟩
  · have HE := Lib.hid (errV_ne hk)
    rw [HE.out]
    clear hk hr2 hb hq p0 p1
    go_wp2_with (fail)
    (with_reducible refine (Decode_any B m e b w2 ((HBB.out.below HB2.out (Nat.le_refl _)).more HB2.out.size) HM.out hme hemx HRB.out).mono ?_)
    rintro e5 w5 ⟨A5, c5, rfl, hc51, hc52, hr5, hb5⟩
    have HB5 : Hid (Below w.heap.size w w5) := HB2.out.trans (hb5.mono HB2.out.size)
    have hs5 := HB5.out.size
    obtain ⟨⟨⟨s5, d5⟩, k5⟩, hq5⟩ : ∃ q, decO b = q := ⟨_, rfl⟩
    rw [hq5] at hc51 hr5 ⊢
    simp only at hc51 hr5 ⊢
    have HR5 := Lib.hid hr5
    by_cases h5 : k5 = 0
    · subst h5
      have HE5 := Lib.hid (dec_enc HRB.out hq5)
      have HY5 := Lib.hid (dec_bytes HRB.out hq5)
      clear hr5 hb5 hq5
      simp only [errV_zero]
      obtain ⟨L5, hL5⟩ : ∃ L, d5.length = L := ⟨_, rfl⟩
      rw [hL5] at hc51 ⊢
      have HL5 := Lib.hid hL5
      clear hL5
      go_upto_region 10 with (fail)
      obtain ⟨W, hW⟩ : ∃ W, w5.alloc (.cells #[.int .i64 s5, .slice A5 L5 c5] 73) = W := ⟨_, rfl⟩
      have HBW : Hid (Below w5.heap.size w5 W) := by rw [← hW]; exact (Below.refl _ _).alloc (Nat.le_refl _) _
      have m0 : W.cell? ⟨w5.heap.size, 0, none⟩ = some (.int .i64 s5) := by rw [← hW]; simp
      have m1 : W.cell? ⟨w5.heap.size, 1, none⟩ = some (.slice A5 L5 c5) := by rw [← hW]; simp
      rw [hW]
      clear hW
      have HBW2 : Hid (Below w.heap.size w W) := HB5.out.trans (HBW.out.mono hs5)
      have HRW : Hid (Rd W W.heap.size A5 (kcells .u8 d5)) := (HR5.out.below HBW.out (Nat.le_refl _)).more HBW.out.size
      go_wp2_with (fail)
      (with_reducible refine (Encode_any s5 A5 L5 c5 d5 W HRW.out HL5.out hc51 hc52 HY5.out).mono ?_)
      rintro e6 w6 ⟨A6, c6, rfl, hc61, hc62, hr6, hb6⟩
      rw [HE5.out] at hr6 hc61 ⊢
      simp only [errV_zero] at hr6 hc61 ⊢
      have HB6 : Hid (Below w.heap.size w w6) := HBW2.out.trans (hb6.mono HBW2.out.size)
      have t1 : (convert 35 9 (.slice A6 b.length c6)).run Try.prog w6 = .ok (.string (strOfNums b)) w6 := str_of hr6 rfl
      have t2 : (convert 35 9 (.slice B m e)).run Try.prog w6 = .ok (.string (strOfNums b)) w6 := str_of (HBB.out.below HB6.out (Nat.le_refl _)) HM.out
      clear hr6 hb6
      go_wp2
      go_ret
      exact ⟨rfl, HB6.out⟩
    · have HE := Lib.hid (errV_ne h5)
      rw [HE.out]
      clear h5 hr5 hb5 hq5
      go_wp2
      go_ret
      exact ⟨rfl, HB5.out.alloc hs5 _⟩
end Go.Proofs.Yteooabcgojadcaa
