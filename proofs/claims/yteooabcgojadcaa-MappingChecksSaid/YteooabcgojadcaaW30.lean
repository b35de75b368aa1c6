/-
  mapping.Size, Ints; the statement MappingBack, walked.
-/
import Derived.Test.YteooabcgojadcaaW29
import Derived.Test.YteooabcgojadcaaW23
import Derived.Test.YteooabcgojadcaaPlain11
namespace Go.Proofs.Yteooabcgojadcaa
open Go.RowKit
set_option linter.unusedVariables false

theorem take_eq_step {l m : List Int} {k : Nat} {x y : Int} (hx : l[k]? = some x) (hy : m[k]? = some y) (h : l.take k = m.take k) (e : x = y) : l.take (k + 1) = m.take (k + 1) := by
  rw [take_snoc_get l k x hx, take_snoc_get m k y hy, h, e]

theorem ints_any (A A' : Option Addr) (n m c c' : Nat) (l l' : List Int) (w : World) (hA : Rd w w.heap.size A (icells l)) (hA' : Rd w w.heap.size A' (icells l')) (hn : l.length = n) (hm : l'.length = m) (hnm : n ≤ maxLen) (hmm : m ≤ maxLen) :
    Calls Try.prog 56 #[.slice A n c, .slice A' m c'] w fun e w' => e = .returned (.bool (decide (l = l'))) ∧ ∃ k, w.drewN k = w' := by
  unfold maxLen at hnm hmm
  have HN := Lib.hid hn
  have HM := Lib.hid hm
  clear hn hm
  by_cases hne : n = m
  · subst hne
    have HA := Lib.hid hA
    have HA' := Lib.hid hA'
    clear hA hA'
    have hne : ((n : Int) != (n : Int)) = false := by simp
    go_enter Try.func56, Try.ntmps56
    go_wp2
    go_loopw [13] (fun i wr => ∃ k : Nat, k ≤ n ∧ i = .int .i64 k ∧ l.take k = l'.take k ∧ ∃ q, wr = w.drewN q) (fun i wr => n - (intOf i).toNat)
    case atStart => exact ⟨0, Nat.zero_le _, rfl, rfl, 0, rfl⟩
    case round =>
      obtain ⟨k, hk, rfl, ht, q, rfl⟩ := hrel
      have HT := Lib.hid ht
      clear ht
      by_cases hlt : k < n
      · obtain ⟨x, hx⟩ := getElem?_of_lt (l := l) (k := k) (by rw [HN.out]; exact hlt)
        obtain ⟨y, hy⟩ := getElem?_of_lt (l := l') (k := k) (by rw [HM.out]; exact hlt)
        obtain ⟨b, off, rfl, hbl, e0⟩ := HA.out.int hx
        obtain ⟨b', off', rfl, hbl', e1⟩ := HA'.out.int hy
        have HX := Lib.hid hx
        have HY := Lib.hid hy
        clear hx hy
        by_cases he : x = y
        · have he' : (x != y) = false := by simpa using he
          have HE := Lib.hid he
          clear he
          go_wp2
          go_quiet (fail)
          go_wp2
          go_roundw
          case rel => exact ⟨k + 1, by omega, by go_num, take_eq_step HX.out HY.out HT.out HE.out, _, rfl⟩
          case measure => simp [intOf]; omega
        · have he' : (x != y) = true := by simpa using he
          have HE : Hid (decide (l = l') = false) := decide_eq_false (fun e => he (by
            have h1 := HX.out
            rw [e, HY.out] at h1
            exact (Option.some.inj h1).symm))
          clear he
          go_wp2
          go_quiet (fail)
          go_wp2
          go_ret
          exact ⟨by rw [HE.out]; rfl, _, (World.drewN_drewN ..).symm⟩
      · have hkn : k = n := by omega
        subst hkn
        have HE : Hid (decide (l = l') = true) := decide_eq_true (by
          have h1 := HT.out
          rwa [List.take_of_length_le (by rw [HN.out]; omega), List.take_of_length_le (by rw [HM.out]; omega)] at h1)
        go_wp2
        go_ret
        exact ⟨by rw [HE.out]; rfl, _, rfl⟩
  · have hne' : ((n : Int) != (m : Int)) = true := by simp; omega
    have HE : Hid (decide (l = l') = false) := decide_eq_false (fun e => hne (by rw [← HN.out, ← HM.out, e]))
    clear hne
    go_enter Try.func56, Try.ntmps56
    go_wp2
    go_ret
    exact ⟨by rw [HE.out]; rfl, 0, rfl⟩

set_option maxHeartbeats 2000000 in
theorem Size_any (A A' : Option Addr) (n c n' c' : Nat) (l : List Ob) (m : List It) (w : World) (hA : Rd w w.heap.size A (ocells l)) (hn : l.length = n) (hc : n ≤ c) (hcc : c ≤ maxLen)
    (hA' : Rd w w.heap.size A' (mcells m)) (hn' : m.length = n') (hc' : n' ≤ c') (hcc' : c' ≤ maxLen) :
    Calls Try.prog 50 #[.slice A n c, .slice A' n' c'] w fun e w' => e = .returned (.tuple #[.int .i64 ((sizeO l m).1 : Nat), errV (sizeO l m).2]) ∧ Below w.heap.size w w' := by
  obtain ⟨q, hq⟩ : ∃ q, findM l noChk m = q := ⟨_, rfl⟩
  have HFIND := Lib.hid (find_nil A A' n c n' c' l m w hA hn hc hcc hA' hn' hc' hcc')
  have HZ : Hid (sizeO l m = sizeQ q) := by show _ = _; unfold sizeO; rw [hq]
  rw [hq] at HFIND
  obtain ⟨f, ec⟩ := q
  have hok : ec = 0 → f.length ≤ 16 := by
    intro h
    subst h
    obtain ⟨_, a, b, _, d⟩ := findM_ok hq
    omega
  simp only at HFIND
  have h1 := ne_nil
  have h2 := ne_err
  obtain ⟨nf, hfn⟩ : ∃ nf, f.length = nf := ⟨_, rfl⟩
  simp only [hfn] at HFIND hok
  have HFN := Lib.hid hfn
  clear hA hn hA' hn' hq hcc hcc' hfn
  by_cases he : ec = 0
  · subst he
    have h16 := hok rfl
    have HZ2 : Hid (sizeO l m = ((sumB f + 7) / 8, 0)) := by rw [Hid, HZ.out]; rfl
    clear HZ hok
    go_enter Try.func50, Try.ntmps50
    go_wp2_with (fail)
    (with_reducible refine HFIND.out.mono ?_)
    rintro e w1 ⟨Af, cf, rfl, hf1, hf2, hrf, hb⟩
    rw [errV_zero]
    have HB := Lib.hid hb
    have hs1 := hb.size
    have HRF := Lib.hid hrf
    have HF2 := Lib.hid hf2
    clear hb hrf HFIND hf2
    go_wp2_with (fail)
    (with_reducible refine (size_any Af nf cf f w1 HRF.out HFN.out hf1 HF2.out h16).mono ?_)
    rintro e w2 ⟨rfl, hb⟩
    have HB2 : Hid (Below w.heap.size w w2) := HB.out.trans (hb.mono hs1)
    clear hb
    go_wp2
    go_ret2
    exact ⟨by rw [HZ2.out]; rfl, HB2.out⟩
  · have HZ2 : Hid (sizeO l m = (0, ec)) := by rw [Hid, HZ.out]; unfold sizeQ; rw [if_pos he]
    have HE := Lib.hid (errV_ne he)
    clear HZ hok he
    go_enter Try.func50, Try.ntmps50
    go_wp2_with (fail)
    (with_reducible refine HFIND.out.mono ?_)
    rintro e w1 ⟨Af, cf, rfl, hf1, hf2, hrf, hb⟩
    rw [HE.out]
    have HB := Lib.hid hb
    clear hb hrf HFIND
    go_wp2
    go_ret2
    exact ⟨by rw [HZ2.out, HE.out]; rfl, HB.out⟩

theorem size_err {l : List Ob} {m : List It} {N : Nat} {h : Int} (hs : sizeO l m = (N, h)) (hh : h ≠ 0) (vs b : List Int) : packO l m vs = ([], h) ∧ unpackO l m b = ([], h) := by
  unfold sizeO sizeQ at hs
  split at hs
  · rename_i he
    simp only [Prod.mk.injEq] at hs
    obtain ⟨_, rfl⟩ := hs
    constructor
    · unfold packO packQ; rw [if_pos he]
    · unfold unpackO unpackQ; rw [if_pos he]
  · simp only [Prod.mk.injEq] at hs
    exact absurd hs.2.symm hh

theorem pack_bytes {l : List Ob} {m : List It} {vs b : List Int} {k : Int} (h : packO l m vs = (b, k)) : ∀ x ∈ b, 0 ≤ x ∧ x < 256 := by
  unfold packO packQ at h
  intro x hx
  split at h
  · simp only [Prod.mk.injEq] at h
    rw [← h.1] at hx; simp at hx
  split at h
  · simp only [Prod.mk.injEq] at h
    rw [← h.1] at hx; simp at hx
  split at h
  · simp only [Prod.mk.injEq] at h
    rw [← h.1] at hx; simp at hx
  · simp only [Prod.mk.injEq] at h
    rw [← h.1] at hx
    exact packB_range (laidB_bin _ _) _ x hx

set_option maxRecDepth 100000 in
set_option maxHeartbeats 4000000 in
theorem mback_main (A A' A2 B : Option Addr) (n c n' c' n2 c2 m e : Nat) (l : List Ob) (ms : List It) (vs b : List Int) (w : World) (hA : Rd w w.heap.size A (ocells l)) (hn : l.length = n) (hc : n ≤ c) (hcc : c ≤ maxLen)
    (hA' : Rd w w.heap.size A' (mcells ms)) (hn' : ms.length = n') (hc' : n' ≤ c') (hcc' : c' ≤ maxLen) (hA2 : Rd w w.heap.size A2 (icells vs)) (hn2 : vs.length = n2) (hc2 : n2 ≤ c2) (hcc2 : c2 ≤ maxLen)
    (hB : Rd w w.heap.size B (kcells .u8 b)) (hm : b.length = m) (hme : m ≤ e) (hemx : e ≤ maxLen) (hrb : ∀ x ∈ b, 0 ≤ x ∧ x < 256) (k1 : n ≤ 200) (k2 : n' ≤ 40) (k3 : n2 ≤ 60) (k4 : m ≤ 100) :
    Calls Try.prog 17 #[.slice A n c, .slice A' n' c', .agg #[.slice A2 n2 c2, .slice B m e]] w fun e w' => e = .returned (.bool true) ∧ Below w.heap.size w w' := by
  have HA := Lib.hid hA
  have HN := Lib.hid hn
  have HA' := Lib.hid hA'
  have HN' := Lib.hid hn'
  have HV := Lib.hid hA2
  have HNV := Lib.hid hn2
  have HBB := Lib.hid hB
  have HM := Lib.hid hm
  have HRB := Lib.hid hrb
  have g1 := ne_nil
  have g2 := ne_err
  have g3 := eq_nil
  have g4 := eq_err
  clear hA hn hA' hn' hA2 hn2 hB hm hrb
  go_enter Try.func17, Try.ntmps17
  go_wp2_with (fail)
  refine (awake54_any _).mono ?_
  rintro e0 w1 ⟨rfl, hb⟩
  have HB1 : Hid (Below w.heap.size w w1) := ((Below.refl _ _).alloc (Nat.le_refl _) _).trans (hb.mono (by simp))
  have p0 : w1.cell? ⟨w.heap.size, 0, none⟩ = some (.slice A2 n2 c2) := by
    rw [hb.cell (p := ⟨w.heap.size, 0, none⟩) (by simp)]
    exact cell_new_at _ _ _ _ _ _ rfl rfl
  have p1 : w1.cell? ⟨w.heap.size, 1, none⟩ = some (.slice B m e) := by
    rw [hb.cell (p := ⟨w.heap.size, 1, none⟩) (by simp)]
    exact cell_new_at _ _ _ _ _ _ rfl rfl
  have hl1 : w.heap.size < w1.heap.size := World.block_lt_of_cell? w1 _ p1
  clear hb
  go_wp2_with (fail)
  (with_reducible refine (short_yes A A' n c n' c' w1 k1 k2).mono ?_)
  rintro e0 w1' ⟨rfl, rfl⟩
  go_wp2_with (fail)
  (with_reducible refine (Size_any A A' n c n' c' l ms w1 ((HA.out.below HB1.out (Nat.le_refl _)).more HB1.out.size) HN.out hc hcc ((HA'.out.below HB1.out (Nat.le_refl _)).more HB1.out.size) HN'.out hc' hcc').mono ?_)
  rintro e0 w2 ⟨rfl, hb⟩
  have HB2 : Hid (Below w.heap.size w w2) := HB1.out.trans (hb.mono HB1.out.size)
  have hs2 := HB2.out.size
  have q0 : w2.cell? ⟨w.heap.size, 0, none⟩ = some (.slice A2 n2 c2) := (hb.cell (p := ⟨w.heap.size, 0, none⟩) hl1).trans p0
  have q1 : w2.cell? ⟨w.heap.size, 1, none⟩ = some (.slice B m e) := (hb.cell (p := ⟨w.heap.size, 1, none⟩) hl1).trans p1
  have hl2 : w.heap.size < w2.heap.size := World.block_lt_of_cell? w2 _ q1
  obtain ⟨⟨N, h⟩, hz⟩ : ∃ q, sizeO l ms = q := ⟨_, rfl⟩
  rw [hz]
  simp only
  have HSZ := Lib.hid hz
  clear hb p0 p1 hz
  by_cases hh : h = 0
  case neg =>
    obtain ⟨hp, hu⟩ := size_err HSZ.out hh vs b
    have HP := Lib.hid hp
    have HU := Lib.hid hu
    have HE := Lib.hid (errV_ne hh)
    rw [HE.out]
    clear hp hu hh
    go_wp2_with (fail)
    (with_reducible refine (Pack_any A A' A2 n c n' c' n2 c2 l ms vs w2 ((HA.out.below HB2.out (Nat.le_refl _)).more hs2) HN.out hc hcc ((HA'.out.below HB2.out (Nat.le_refl _)).more hs2) HN'.out hc' hcc' ((HV.out.below HB2.out (Nat.le_refl _)).more hs2) HNV.out hc2 hcc2).mono ?_)
    rintro e3 w3 ⟨A3, c3, rfl, hc31, hc32, hr3, hb⟩
    have HB3 : Hid (Below w.heap.size w w3) := HB2.out.trans (hb.mono hs2)
    have hs3 := HB3.out.size
    have r1 : w3.cell? ⟨w.heap.size, 1, none⟩ = some (.slice B m e) := (hb.cell (p := ⟨w.heap.size, 1, none⟩) hl2).trans q1
    rw [HP.out]
    simp only [List.length_nil]
    rw [HE.out]
    clear hr3 hb q0 q1 hc31
    go_wp2_with (fail)
    (with_reducible refine (Unpack_any A A' B n c n' c' m e l ms b w3 ((HA.out.below HB3.out (Nat.le_refl _)).more hs3) HN.out hc hcc ((HA'.out.below HB3.out (Nat.le_refl _)).more hs3) HN'.out hc' hcc' ((HBB.out.below HB3.out (Nat.le_refl _)).more hs3) HM.out hme hemx HRB.out).mono ?_)
    rintro e5 w5 ⟨A5, c5, rfl, hc51, hc52, hr5, hb5⟩
    have HB5 : Hid (Below w.heap.size w w5) := HB3.out.trans (hb5.mono hs3)
    rw [HU.out]
    simp only [List.length_nil]
    rw [HE.out]
    clear hr5 hb5 hc51
    go_wp2
    go_ret
    exact ⟨rfl, HB5.out⟩
  subst hh
  simp only [errV_zero]
  go_wp2_with (fail)
  (with_reducible refine (Pack_any A A' A2 n c n' c' n2 c2 l ms vs w2 ((HA.out.below HB2.out (Nat.le_refl _)).more hs2) HN.out hc hcc ((HA'.out.below HB2.out (Nat.le_refl _)).more hs2) HN'.out hc' hcc' ((HV.out.below HB2.out (Nat.le_refl _)).more hs2) HNV.out hc2 hcc2).mono ?_)
  rintro e3 w3 ⟨A3, c3, rfl, hc31, hc32, hr3, hb⟩
  have HB3 : Hid (Below w.heap.size w w3) := HB2.out.trans (hb.mono hs2)
  have hs3 := HB3.out.size
  have r0 : w3.cell? ⟨w.heap.size, 0, none⟩ = some (.slice A2 n2 c2) := (hb.cell (p := ⟨w.heap.size, 0, none⟩) hl2).trans q0
  have r1 : w3.cell? ⟨w.heap.size, 1, none⟩ = some (.slice B m e) := (hb.cell (p := ⟨w.heap.size, 1, none⟩) hl2).trans q1
  have hl3 : w.heap.size < w3.heap.size := World.block_lt_of_cell? w3 _ r1
  obtain ⟨⟨b3, k⟩, hq⟩ : ∃ q, packO l ms vs = q := ⟨_, rfl⟩
  rw [hq] at hc31 hr3 ⊢
  simp only at hc31 hr3 ⊢
  have HR3 := Lib.hid hr3
  by_cases hk : k = 0
  · subst hk
    obtain ⟨hu, hz⟩ := pack_back hq
    rw [HSZ.out] at hz
    simp only [Prod.mk.injEq, and_true] at hz
    have HBY := Lib.hid (pack_bytes hq)
    have HL3 := Lib.hid hz.symm
    rw [HL3.out] at hc31 ⊢
    have HU := Lib.hid hu
    clear hr3 hb hq hu hz q0 q1
    simp only [errV_zero]
    go_wp2_with (fail)
    (with_reducible refine (Unpack_any A A' A3 n c n' c' N c3 l ms b3 w3 ((HA.out.below HB3.out (Nat.le_refl _)).more hs3) HN.out hc hcc ((HA'.out.below HB3.out (Nat.le_refl _)).more hs3) HN'.out hc' hcc' HR3.out HL3.out hc31 hc32 HBY.out).mono ?_)
    rintro e4 w4 ⟨A4, c4, rfl, hc41, hc42, hr4, hb⟩
    rw [HU.out] at hc41 hr4 ⊢
    simp only [errV_zero] at hc41 hr4 ⊢
    rw [HNV.out] at hc41 ⊢
    have HB4 : Hid (Below w.heap.size w w4) := HB3.out.trans (hb.mono hs3)
    have s0 : w4.cell? ⟨w.heap.size, 0, none⟩ = some (.slice A2 n2 c2) := (hb.cell (p := ⟨w.heap.size, 0, none⟩) hl3).trans r0
    have s1 : w4.cell? ⟨w.heap.size, 1, none⟩ = some (.slice B m e) := (hb.cell (p := ⟨w.heap.size, 1, none⟩) hl3).trans r1
    have hnn : ((N : Int) != N) = false := by simp
    have HR4 := Lib.hid hr4
    clear hr4 hb r0 r1
    go_wp2_with (fail)
    (with_reducible refine (ints_any A4 A2 n2 n2 c4 c2 vs vs w4 HR4.out ((HV.out.below HB4.out (Nat.le_refl _)).more HB4.out.size) HNV.out HNV.out (Nat.le_trans hc2 hcc2) (Nat.le_trans hc2 hcc2)).mono ?_)
    rintro e4' w4' ⟨rfl, q, rfl⟩
    rw [decide_eq_true (rfl : vs = vs)]
    have HB4' : Hid (Below w.heap.size w (w4.drewN q)) := Below.drewN HB4.out q
    have s0' : (w4.drewN q).cell? ⟨w.heap.size, 0, none⟩ = some (.slice A2 n2 c2) := s0
    have s1' : (w4.drewN q).cell? ⟨w.heap.size, 1, none⟩ = some (.slice B m e) := s1
    generalize w4.drewN q = w4d at *
    go_wp2_with (fail)
    (with_reducible refine (Unpack_any A A' B n c n' c' m e l ms b w4d ((HA.out.below HB4'.out (Nat.le_refl _)).more HB4'.out.size) HN.out hc hcc ((HA'.out.below HB4'.out (Nat.le_refl _)).more HB4'.out.size) HN'.out hc' hcc' ((HBB.out.below HB4'.out (Nat.le_refl _)).more HB4'.out.size) HM.out hme hemx HRB.out).mono ?_)
    rintro e5 w5 ⟨A5, c5, rfl, hc51, hc52, hr5, hb5⟩
    have HB5 : Hid (Below w.heap.size w w5) := HB4'.out.trans (hb5.mono HB4'.out.size)
    have hs5 := HB5.out.size
    have x1 : w5.cell? ⟨w.heap.size, 1, none⟩ = some (.slice B m e) := (hb5.cell (p := ⟨w.heap.size, 1, none⟩) (World.block_lt_of_cell? _ _ s1')).trans s1'
    obtain ⟨⟨v5, k5⟩, hq5⟩ : ∃ q, unpackO l ms b = q := ⟨_, rfl⟩
    rw [hq5] at hc51 hr5 ⊢
    simp only at hc51 hr5 ⊢
    have HR5 := Lib.hid hr5
    by_cases h5 : k5 = 0
    · subst h5
      obtain ⟨hp5, hz5⟩ := unpack_back HRB.out hq5
      rw [HSZ.out, HM.out] at hz5
      simp only [Prod.mk.injEq, and_true] at hz5
      have hz5 := hz5.symm
      subst hz5
      have HP5 := Lib.hid hp5
      obtain ⟨L5, hL5⟩ : ∃ L, v5.length = L := ⟨_, rfl⟩
      rw [hL5] at hc51 ⊢
      have HL5 := Lib.hid hL5
      clear hr5 hb5 hq5 hp5 hL5
      simp only [errV_zero]
      go_wp2_with (fail)
      (with_reducible refine (Pack_any A A' A5 n c n' c' L5 c5 l ms v5 w5 ((HA.out.below HB5.out (Nat.le_refl _)).more hs5) HN.out hc hcc ((HA'.out.below HB5.out (Nat.le_refl _)).more hs5) HN'.out hc' hcc' HR5.out HL5.out hc51 hc52).mono ?_)
      rintro e6 w6 ⟨A6, c6, rfl, hc61, hc62, hr6, hb6⟩
      rw [HP5.out] at hr6 ⊢
      simp only [errV_zero] at hr6 ⊢
      rw [HM.out]
      have HB6 : Hid (Below w.heap.size w w6) := HB5.out.trans (hb6.mono hs5)
      have y1 : w6.cell? ⟨w.heap.size, 1, none⟩ = some (.slice B m e) := (hb6.cell (p := ⟨w.heap.size, 1, none⟩) (World.block_lt_of_cell? _ _ x1)).trans x1
      have t1 : (convert 35 9 (.slice A6 m c6)).run Try.prog w6 = .ok (.string (strOfNums b)) w6 := str_of hr6 HM.out
      have t2 : (convert 35 9 (.slice B m e)).run Try.prog w6 = .ok (.string (strOfNums b)) w6 := str_of (HBB.out.below HB6.out (Nat.le_refl _)) HM.out
      have hmm : ((m : Int) != m) = false := by simp
      clear hr6 hb6 hc61
      go_wp2
      go_ret
      exact ⟨rfl, HB6.out⟩
    · have HE5 := Lib.hid (errV_ne h5)
      rw [HE5.out]
      generalize v5.length = L5 at *
      clear h5 hr5 hb5 hq5 hc51
      go_wp2
      go_ret
      exact ⟨rfl, HB5.out⟩
  · have HE := Lib.hid (errV_ne hk)
    rw [HE.out]
    generalize b3.length = L3 at *
    clear hk hr3 hb hq q0 q1 hc31
    go_wp2_with (fail)
    (with_reducible refine (Unpack_any A A' B n c n' c' m e l ms b w3 ((HA.out.below HB3.out (Nat.le_refl _)).more HB3.out.size) HN.out hc hcc ((HA'.out.below HB3.out (Nat.le_refl _)).more HB3.out.size) HN'.out hc' hcc' ((HBB.out.below HB3.out (Nat.le_refl _)).more HB3.out.size) HM.out hme hemx HRB.out).mono ?_)
    rintro e5 w5 ⟨A5, c5, rfl, hc51, hc52, hr5, hb5⟩
    have HB5 : Hid (Below w.heap.size w w5) := HB3.out.trans (hb5.mono HB3.out.size)
    have hs5 := HB5.out.size
    have x1 : w5.cell? ⟨w.heap.size, 1, none⟩ = some (.slice B m e) := (hb5.cell (p := ⟨w.heap.size, 1, none⟩) (World.block_lt_of_cell? _ _ r1)).trans r1
    obtain ⟨⟨v5, k5⟩, hq5⟩ : ∃ q, unpackO l ms b = q := ⟨_, rfl⟩
    rw [hq5] at hc51 hr5 ⊢
    simp only at hc51 hr5 ⊢
    have HR5 := Lib.hid hr5
    by_cases h5 : k5 = 0
    · subst h5
      obtain ⟨hp5, hz5⟩ := unpack_back HRB.out hq5
      rw [HSZ.out, HM.out] at hz5
      simp only [Prod.mk.injEq, and_true] at hz5
      have hz5 := hz5.symm
      subst hz5
      have HP5 := Lib.hid hp5
      obtain ⟨L5, hL5⟩ : ∃ L, v5.length = L := ⟨_, rfl⟩
      rw [hL5] at hc51 ⊢
      have HL5 := Lib.hid hL5
      clear hr5 hb5 hq5 hp5 hL5
      simp only [errV_zero]
      go_wp2_with (fail)
      (with_reducible refine (Pack_any A A' A5 n c n' c' L5 c5 l ms v5 w5 ((HA.out.below HB5.out (Nat.le_refl _)).more hs5) HN.out hc hcc ((HA'.out.below HB5.out (Nat.le_refl _)).more hs5) HN'.out hc' hcc' HR5.out HL5.out hc51 hc52).mono ?_)
      rintro e6 w6 ⟨A6, c6, rfl, hc61, hc62, hr6, hb6⟩
      rw [HP5.out] at hr6 ⊢
      simp only [errV_zero] at hr6 ⊢
      rw [HM.out]
      have HB6 : Hid (Below w.heap.size w w6) := HB5.out.trans (hb6.mono hs5)
      have y1 : w6.cell? ⟨w.heap.size, 1, none⟩ = some (.slice B m e) := (hb6.cell (p := ⟨w.heap.size, 1, none⟩) (World.block_lt_of_cell? _ _ x1)).trans x1
      have t1 : (convert 35 9 (.slice A6 m c6)).run Try.prog w6 = .ok (.string (strOfNums b)) w6 := str_of hr6 HM.out
      have t2 : (convert 35 9 (.slice B m e)).run Try.prog w6 = .ok (.string (strOfNums b)) w6 := str_of (HBB.out.below HB6.out (Nat.le_refl _)) HM.out
      have hmm : ((m : Int) != m) = false := by simp
      clear hr6 hb6 hc61
      go_wp2
      go_ret
      exact ⟨rfl, HB6.out⟩
    · have HE5 := Lib.hid (errV_ne h5)
      rw [HE5.out]
      generalize v5.length = L5 at *
      clear h5 hr5 hb5 hq5 hc51
      go_wp2
      go_ret
      exact ⟨rfl, HB5.out⟩
end Go.Proofs.Yteooabcgojadcaa
