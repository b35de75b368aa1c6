/-
  The statement MappingSpoiled, walked.
-/
import Derived.Test.YteooabcgojadcaaW25
namespace Go.Proofs.Yteooabcgojadcaa
open Go.RowKit
set_option linter.unusedVariables false

theorem u8_xor_nat (a b : Nat) (ha : a < 256) (hb : b < 256) : bits .xor .u8 (a : Int) (b : Int) = ((a ^^^ b : Nat) : Int) := by
  have hx : a ^^^ b < 2 ^ 8 := Nat.xor_lt_two_pow (by omega) (by omega)
  show IntKind.u8.wrap ((BitVec.ofInt 8 (a : Int) ^^^ BitVec.ofInt 8 (b : Int)).toNat : Int) = _
  rw [BitVec.toNat_xor, ofInt_u8 a ha, ofInt_u8 b hb]
  show ((a ^^^ b : Nat) : Int) % 256 = _
  omega

/-- A flipped bit changes a byte. -/
theorem flip_ne (u : Int) (hu : 0 ≤ u ∧ u < 256) (m : Nat) (hm : m < 8) : u ≠ bits .xor .u8 u (2 ^ m) ∧ 0 ≤ bits .xor .u8 u (2 ^ m) ∧ bits .xor .u8 u (2 ^ m) < 256 := by
  obtain ⟨U, rfl⟩ := Int.eq_ofNat_of_zero_le hu.1
  have e3 : ((2 : Int) ^ m) = ((2 ^ m : Nat) : Int) := by push_cast; rfl
  have hp : 2 ^ m ≤ 2 ^ 7 := Nat.pow_le_pow_right (by omega) (by omega)
  have hp0 : 0 < 2 ^ m := Nat.pow_pos (by omega)
  rw [e3, u8_xor_nat U _ (by omega) (by omega)]
  have hx := xor_lt256 (a := U) (b := 2 ^ m) (by omega) (by omega)
  refine ⟨fun h => ?_, by omega, by omega⟩
  have h' : U ^^^ 0 = U ^^^ 2 ^ m := by rw [Nat.xor_zero]; omega
  have := xor_cancel_left h'
  omega

set_option maxRecDepth 100000 in
set_option maxHeartbeats 1000000 in
theorem mspoil_long (a : Int) (A : Option Addr) (n c : Nat) (p q : Int) (w : World) (hn : n ≤ maxLen) (h : 100 < n) :
    Calls Try.prog 13 #[.agg #[.int .i64 a, .slice A n c], .int .u16 p, .int .u8 q] w fun e w' => e = .returned (.bool true) ∧ Below w.heap.size w w' := by
  unfold maxLen at hn
  go_enter Try.func13, Try.ntmps13
  go_wp2_with (fail)
  refine (awake54_any _).mono ?_
  rintro e w1 ⟨rfl, hb⟩
  have HB : Hid (Below w.heap.size w w1) := ((Below.refl _ _).alloc (Nat.le_refl _) _).trans (hb.mono (by simp))
  have e1 : w1.cell? ⟨w.heap.size, 1, none⟩ = some (.slice A n c) := by
    rw [hb.cell (p := ⟨w.heap.size, 1, none⟩) (by simp)]
    exact cell_new_at _ _ _ _ _ _ rfl rfl
  clear hb
  go_wp2_with (fail)
  refine (awake54_any _).mono ?_
  rintro e w3 ⟨rfl, hb⟩
  have HB3 : Hid (Below w.heap.size w w3) := HB.out.trans (hb.mono HB.out.size)
  clear hb
  go_wp2
  go_ret
  exact ⟨rfl, HB3.out⟩

set_option maxRecDepth 100000 in
set_option maxHeartbeats 4000000 in
theorem mspoil_main (a : Int) (A : Option Addr) (n c : Nat) (d : List Int) (p q : Int) (w : World) (hA : Rd w w.heap.size A (kcells .u8 d)) (hn : d.length = n) (hc : n ≤ c) (hcc : c ≤ maxLen) (hr : Bytes d)
    (hp : 0 ≤ p ∧ p < 65536) (hq : 0 ≤ q ∧ q < 256) (h1 : n ≤ 100) :
    Calls Try.prog 13 #[.agg #[.int .i64 a, .slice A n c], .int .u16 p, .int .u8 q] w fun e w' => e = .returned (.bool true) ∧ Below w.heap.size w w' := by
  have HA := Lib.hid hA
  have HN := Lib.hid hn
  have HR := Lib.hid hr
  have g1 := ne_nil
  have g2 := ne_err
  obtain ⟨hp1, hp2⟩ := hp
  obtain ⟨hq1, hq2⟩ := hq
  clear hA hn hr
  go_enter Try.func13, Try.ntmps13
  go_wp2_with (fail)
  refine (awake54_any _).mono ?_
  rintro e0 w1 ⟨rfl, hb⟩
  have HB1 : Hid (Below w.heap.size w w1) := ((Below.refl _ _).alloc (Nat.le_refl _) _).trans (hb.mono (by simp))
  have p0 : w1.cell? ⟨w.heap.size, 0, none⟩ = some (.int .i64 a) := by
    rw [hb.cell (p := ⟨w.heap.size, 0, none⟩) (by simp)]
    exact cell_new_at _ _ _ _ _ _ rfl rfl
  have p1 : w1.cell? ⟨w.heap.size, 1, none⟩ = some (.slice A n c) := by
    rw [hb.cell (p := ⟨w.heap.size, 1, none⟩) (by simp)]
    exact cell_new_at _ _ _ _ _ _ rfl rfl
  clear hb
  go_wp2_with (fail)
  (with_reducible refine (Encode_any a A n c d w1 ((HA.out.below HB1.out (Nat.le_refl _)).more HB1.out.size) HN.out hc hcc HR.out).mono ?_)
  rintro e0 w2 ⟨A2, c2, rfl, hc21, hc22, hr2, hb⟩
  have HB2 : Hid (Below w.heap.size w w2) := HB1.out.trans (hb.mono HB1.out.size)
  obtain ⟨⟨x, k⟩, hq⟩ : ∃ q, encO a d = q := ⟨_, rfl⟩
  rw [hq] at hc21 hr2 ⊢
  simp only at hc21 hr2 ⊢
  have HR2 := Lib.hid hr2
  have hs2 := HB2.out.size
  by_cases hk : k = 0
  case neg =>
    have HE := Lib.hid (errV_ne hk)
    rw [HE.out]
    clear hk hr2 hb hq p0 p1 hc21
    generalize x.length = X at *
    go_wp2
    go_ret
    exact ⟨rfl, HB2.out⟩
  subst hk
  have HQ := Lib.hid hq
  have HXB := Lib.hid (enc_bytes HR.out hq)
  have hX3 := enc_len hq
  have hn32 := (encO_ok hq).2.2.1
  rw [HN.out] at hX3 hn32
  obtain ⟨b2, o2, hA2, hb2, _⟩ := hr2 (by
    intro h
    have := congrArg List.length h
    rw [kcells_length, hX3] at this
    simp at this)
  subst hA2
  have HXL := Lib.hid hX3
  clear hr2 hb hq p0 p1
  simp only [errV_zero]
  obtain ⟨X, hX⟩ : ∃ X, x.length = X := ⟨_, rfl⟩
  rw [hX] at hc21 hX3 ⊢
  have HX := Lib.hid hX
  have HKL : Hid ((kcells .u8 x).length = X * 1) := by rw [Hid, kcells_length, hX]; omega
  have hXs : ¬ (X : Int) < 3 := by omega
  have hm0 : 0 ≤ maxLen := Nat.zero_le _
  obtain ⟨i5, hi5, hz50, hz51, hz52⟩ := info_parts info5
  have hXa : 3 ≤ X := by omega
  have hXb : X ≤ 35 := by omega
  clear hX hX3
  go_wp2_with (at_builtin; refine wpList_append_rd _ rfl _ _ 35 rfl w2.heap.size 5 i5 (.int .u8 0) 1 1 Try.underlying35 hi5 hz50 hz51 hz52 rfl (by omega) _ 0 [] rfl (World.ownsRow_lit w2 #[] 0 (Nat.le_refl _) hm0 rfl) w2.heap.size _ X c2 (kcells .u8 x) rfl (HR2.out.below ((Below.refl w2.heap.size w2).alloc (Nat.le_refl _) _) (Nat.le_refl _)) HKL.out (kcells_one _ _) ?c3 ?c4 (by simp) ?_)
  case c3 => unfold maxLen; omega
  case c4 => omega
  intro v' w3 hown hgrow hat
  have HB3 : Hid (Below w2.heap.size w2 w3) := ((Below.refl w2.heap.size w2).alloc (Nat.le_refl _) _).grown hgrow (by simp) (fun k hk => by have hk' : some w2.heap.size = some k := hk; injection hk'; omega)
  try simp only [Nat.zero_add, List.nil_append] at hown
  obtain ⟨A3, c3, rfl, hc31, hc32, hpos⟩ := own_form hown
  obtain ⟨g, rfl, hg1, hg2⟩ := hpos (by omega)
  have HO3 := Lib.hid hown
  obtain ⟨P, rfl⟩ := Int.eq_ofNat_of_zero_le hp1
  obtain ⟨kk, hkk⟩ : ∃ kk : Nat, P % (8 * X) = kk := ⟨_, rfl⟩
  have hkl : kk < 8 * X := by rw [← hkk]; exact Nat.mod_lt _ (by omega)
  have r1 : (P : Int) % (8 * (X : Int)) = kk := by rw [← hkk]; push_cast; rfl
  have r2 : (P : Int).tmod (8 * (X : Int)) = kk := by rw [Int.tmod_eq_emod_of_nonneg (by omega)]; exact r1
  have r3 : (8 * (X : Int) == 0) = false := by simp; omega
  obtain ⟨k8, h8⟩ : ∃ k8, kk / 8 = k8 := ⟨_, rfl⟩
  obtain ⟨km, hm⟩ : ∃ km, kk % 8 = km := ⟨_, rfl⟩
  have h8X : k8 < X := by omega
  have hm8 : km < 8 := by omega
  have kkb : kk < 4000 := by omega
  have q1 : (kk : Int) / 8 = k8 := by omega
  have q2 : (kk : Int).tdiv 8 = k8 := by rw [Int.tdiv_eq_ediv_of_nonneg (by omega)]; exact q1
  have q3 : (kk : Int) % 8 = km := by omega
  have q4 : (kk : Int).tmod 8 = km := by rw [Int.tmod_eq_emod_of_nonneg (by omega)]; exact q3
  obtain ⟨u, hu⟩ := getElem?_of_lt (l := x) (k := k8) (by rw [HX.out]; exact h8X)
  have f0 : w3.cell? ⟨g, k8, none⟩ = some (.int .u8 u) := by
    rw [HO3.out.cellAt k8 (by omega)]
    simp [kcells, hu]
  have f1 : w3.frozen? ⟨g, k8, none⟩ = false := HO3.out.frozenAt _
  clear hown hgrow hat hkk h8 hm hpos
  go_upto_region 8 with (fail)
  go_region
  have hub := HXB.out u (List.mem_of_getElem? hu)
  obtain ⟨z1, z2, z3⟩ := flip_ne u hub km hm8
  have e1 : (2 : Int) ^ km % 256 = 2 ^ km := by
    have hp : (2 : Int) ^ km = ((2 ^ km : Nat) : Int) := by push_cast; rfl
    have hp2 : 2 ^ km ≤ 2 ^ 7 := Nat.pow_le_pow_right (by omega) (by omega)
    have hp3 : ((2 ^ km : Nat) : Int) < 256 := by omega
    rw [hp]
    exact Int.emod_eq_of_lt (Int.natCast_nonneg _) hp3
  rw [e1]
  have HSP : Hid ((decO (x.set k8 (bits .xor .u8 u (2 ^ km)))).2 ≠ 0) := spoil HR.out HQ.out hu z1 ⟨z2, z3⟩
  obtain ⟨z, hz⟩ : ∃ z, bits .xor .u8 u (2 ^ km) = z := ⟨_, rfl⟩
  rw [hz] at z1 z2 z3 HSP ⊢
  have HO4 : Hid ((w3.setCell ⟨g, k8, none⟩ (.int .u8 z)).drew.ownsRow w2.heap.size 5 1 (.slice (some ⟨g, 0, none⟩) X c3) X (kcells .u8 (x.set k8 z))) := own_below (own_set_k HO3.out k8 z) (Below.drew (Below.refl _ _))
  have HB4 : Hid (Below w2.heap.size w2 (w3.setCell ⟨g, k8, none⟩ (.int .u8 z)).drew) := Below.drew (HB3.out.setCell (p := ⟨g, k8, none⟩) hg1 _)
  generalize (w3.setCell ⟨g, k8, none⟩ (.int .u8 z)).drew = w4 at *
  have HR4 := Lib.hid (own_rd HO4.out)
  have HXS : Hid ((x.set k8 z).length = X) := by rw [Hid, List.length_set, HX.out]
  have HBS : Hid (Bytes (x.set k8 z)) := by
    intro y hy
    rcases List.mem_or_eq_of_mem_set hy with h | h
    · exact HXB.out y h
    · rw [h]; exact ⟨z2, z3⟩
  have hs4 := HB4.out.size
  generalize x.set k8 z = y at *
  clear f0 f1 hz e1 hu z1 z2 z3 hub HO4 q1 q2 q3 q4
  go_wp2_with (fail)
  (with_reducible refine (Decode_any _ X c3 y w4 HR4.out HXS.out hc31 hc32 HBS.out).mono ?_)
  rintro e5 w5 ⟨A5, c5, rfl, hc51, hc52, hr5, hb5⟩
  have HB5 : Hid (Below w2.heap.size w2 w5) := HB4.out.trans (hb5.mono hs4)
  have hs5 := HB5.out.size
  obtain ⟨⟨⟨s5, d5⟩, k5⟩, hq5⟩ : ∃ q, decO y = q := ⟨_, rfl⟩
  rw [hq5] at hc51 hr5 HSP ⊢
  simp only at hc51 hr5 HSP ⊢
  have HE5 := Lib.hid (errV_ne HSP.out)
  rw [HE5.out]
  obtain ⟨L5, hL5⟩ : ∃ L, d5.length = L := ⟨_, rfl⟩
  rw [hL5]
  clear hr5 hb5 hq5 hc51 hL5
  obtain ⟨Q, rfl⟩ := Int.eq_ofNat_of_zero_le hq1
  obtain ⟨k2, hk2⟩ : ∃ k2 : Nat, Q % X = k2 := ⟨_, rfl⟩
  have hk2l : k2 < X := by rw [← hk2]; exact Nat.mod_lt _ (by omega)
  have t1 : (Q : Int) % (X : Int) = k2 := by rw [← hk2]; push_cast; rfl
  have t2 : (Q : Int).tmod (X : Int) = k2 := by rw [Int.tmod_eq_emod_of_nonneg (by omega)]; exact t1
  have t3 : ((X : Int) == 0) = false := by simp; omega
  have t4 : (k2 : Int) ≤ (c2 : Int) := by omega
  have HB6 : Hid (∀ o, Below w2.heap.size w2 (w5.alloc o)) := fun o => HB5.out.alloc hs5 o
  have HCUT : Hid ((decO (x.take k2)).2 ≠ 0) := cut_off HQ.out (by rw [HX.out]; exact hk2l)
  have HTL : Hid ((x.take k2).length = k2) := by rw [Hid, List.length_take, HX.out]; omega
  have HTB : Hid (Bytes (x.take k2)) := fun y hy => HXB.out y (List.mem_of_mem_take hy)
  have HTR : Hid (∀ o, Rd (w5.alloc o) (w5.alloc o).heap.size (some ⟨b2, o2, none⟩) (kcells .u8 (x.take k2))) := fun o => by
    have := ((HR2.out.below (HB6.out o) (Nat.le_refl _)).more (HB6.out o).size).part 0 k2
    simpa using this
  clear hk2
  go_wp2_with (fail)
  (with_reducible refine (Decode_any _ k2 c2 (x.take k2) _ (HTR.out _) HTL.out (by omega) hc22 HTB.out).mono ?_)
  rintro e7 w7 ⟨A7, c7, rfl, hc71, hc72, hr7, hb7⟩
  obtain ⟨⟨⟨s7, d7⟩, k7⟩, hq7⟩ : ∃ q, decO (x.take k2) = q := ⟨_, rfl⟩
  rw [hq7] at hc71 hr7 HCUT ⊢
  simp only at hc71 hr7 HCUT ⊢
  have HE7 := Lib.hid (errV_ne HCUT.out)
  rw [HE7.out]
  have HB7 : Hid (Below w.heap.size w w7) := HB2.out.trans (((HB6.out _).trans (hb7.mono (HB6.out _).size)).mono hs2)
  have hs7 := HB7.out.size
  clear hr7 hb7 hq7 hc71
  go_wp2
  go_ret
  exact ⟨rfl, HB7.out.alloc hs7 _⟩
end Go.Proofs.Yteooabcgojadcaa
