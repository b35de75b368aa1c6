
/-
  mapping.Unpack.
-/
import Derived.Test.YtjdknddnanopaaaBW19
namespace Go.Proofs.Ytjdknddnanopaaa.Bus
open Go.RowKit
set_option linter.unusedVariables false

theorem info3 : (Try.prog.info? 3).map (fun i => (i.zero, i.size, i.bytes)) = some (some (.int .i64 0), 1, 8) := by kernel_rfl

theorem icells_append (a b : List Int) : icells (a ++ b) = icells a ++ icells b := by simp [icells]
theorem icells_length (l : List Int) : (icells l).length = l.length := by simp [icells]

/-- The kinds with a sign. -/
theorem sign_cases (t : Int) : (t = 2 ∧ bitsO t = 8 ∧ ∀ v, signO t v = if 128 ≤ v then v - 256 else v) ∨ (t = 4 ∧ bitsO t = 16 ∧ ∀ v, signO t v = if 32768 ≤ v then v - 65536 else v) ∨
    (t = 6 ∧ bitsO t = 32 ∧ ∀ v, signO t v = if 2147483648 ≤ v then v - 4294967296 else v) ∨ (t ≠ 2 ∧ t ≠ 4 ∧ t ≠ 6 ∧ ∀ v, signO t v = v) := by
  unfold signO bitsO
  rcases kind_cases t with ⟨e, g⟩ | ⟨e, g⟩ | ⟨e, g⟩ | ⟨e, g⟩ | ⟨e, g⟩ | ⟨e, g⟩ | ⟨e, g⟩ | ⟨e, g⟩ <;> rw [e]
  · subst g; refine .inr (.inr (.inr ⟨by omega, by omega, by omega, fun v => by simp⟩))
  · subst g; refine .inr (.inr (.inr ⟨by omega, by omega, by omega, fun v => by simp⟩))
  · subst g
    refine .inl ⟨rfl, by simp, fun v => ?_⟩
    simp
    by_cases h : 128 ≤ v
    · rw [if_pos (by omega), if_pos h]
    · rw [if_neg (by omega), if_neg h]
  · subst g; refine .inr (.inr (.inr ⟨by omega, by omega, by omega, fun v => by simp⟩))
  · subst g
    refine .inr (.inl ⟨rfl, by simp, fun v => ?_⟩)
    simp
    by_cases h : 32768 ≤ v
    · rw [if_pos (by omega), if_pos h]
    · rw [if_neg (by omega), if_neg h]
  · subst g; refine .inr (.inr (.inr ⟨by omega, by omega, by omega, fun v => by simp⟩))
  · subst g
    refine .inr (.inr (.inl ⟨rfl, by simp, fun v => ?_⟩))
    simp
    by_cases h : 2147483648 ≤ v
    · rw [if_pos (by omega), if_pos h]
    · rw [if_neg (by omega), if_neg h]
  · refine .inr (.inr (.inr ⟨by omega, by omega, by omega, fun v => by simp⟩))

/-- One bit more is read. -/
theorem read_step (b : List Int) (s j : Nat) (hj : j < 32) : bits .or .i64 (valB (bitsAt b s j)) (wrap64 (bitOf b (s + j) * 2 ^ j)) = valB (bitsAt b s (j + 1)) ∧ valB (bitsAt b s j) + wrap64 (bitOf b (s + j) * 2 ^ j) = valB (bitsAt b s (j + 1)) ∧ 0 ≤ valB (bitsAt b s (j + 1)) ∧ valB (bitsAt b s (j + 1)) < 4294967296 := by
  obtain ⟨h1, h2⟩ := valB_range (bitsAt_bin b s j)
  obtain ⟨g1, g2⟩ := valB_range (bitsAt_bin b s (j + 1))
  rw [bitsAt_length] at h2 g2
  have hy := bitOf_bin b (s + j)
  have hp : ((2 : Int) ^ j) = ((2 ^ j : Nat) : Int) := by push_cast; rfl
  have hp2 : 2 ^ j ≤ 2 ^ 31 := Nat.pow_le_pow_right (by omega) (by omega)
  have hp3 : (2 : Int) ^ (j + 1) = 2 ^ j * 2 := Int.pow_succ _ _
  have hw : wrap64 (bitOf b (s + j) * 2 ^ j) = bitOf b (s + j) * 2 ^ j := by
    rcases hy with h | h <;> rw [h, hp] <;> unfold wrap64 <;> omega
  have hm : bitOf b (s + j) * 2 ^ j < 9223372036854775808 := by rcases hy with h | h <;> rw [h, hp] <;> omega
  have he : valB (bitsAt b s (j + 1)) = valB (bitsAt b s j) + bitOf b (s + j) * 2 ^ j := by rw [bitsAt_succ, valB_snoc, bitsAt_length]
  refine ⟨?_, ?_, g1, ?_⟩
  · rw [hw, i64_or_join _ _ _ h1 h2 (by omega) hm (by omega), he]
  · rw [hw, he]
  · rw [hp3, hp] at g2
    omega

theorem bit_and (x : Int) (hx : 0 ≤ x ∧ x < 256) (m : Nat) : bits .and .u8 (x / 2 ^ m) 1 = x / 2 ^ m % 2 := by
  refine u8_and_one _ ⟨Int.ediv_nonneg hx.1 (Int.le_of_lt (pow2_pos m)), Int.lt_of_le_of_lt (Int.ediv_le_self _ hx.1) hx.2⟩

theorem bitOf_eq {b : List Int} {i j m : Nat} {x : Int} (hx : b[j]? = some x) (hj : i / 8 = j) (hm : i % 8 = m) : bitOf b i = x / 2 ^ m % 2 := by
  unfold bitOf
  rw [hj, hm, hx]
  rfl

set_option maxRecDepth 100000 in
set_option maxHeartbeats 16000000 in
theorem Unpack_any (A A' B : Option Addr) (n c n' c' m e : Nat) (l : List Ob) (ms : List It) (b : List Int) (w : World) (hA : Rd w w.heap.size A (ocells l)) (hn : l.length = n) (hc : n ≤ c) (hcc : c ≤ maxLen)
    (hA' : Rd w w.heap.size A' (mcells ms)) (hn' : ms.length = n') (hc' : n' ≤ c') (hcc' : c' ≤ maxLen) (hB : Rd w w.heap.size B (kcells .u8 b)) (hm : b.length = m) (hme : m ≤ e) (hemx : e ≤ maxLen) (hrb : ∀ x ∈ b, 0 ≤ x ∧ x < 256) :
    Calls Try.prog 50 #[.slice A n c, .slice A' n' c', .slice B m e] w fun e w' => ∃ Ar cr, e = .returned (.tuple #[.slice Ar (unpackO l ms b).1.length cr, errV (unpackO l ms b).2]) ∧ (unpackO l ms b).1.length ≤ cr ∧ cr ≤ maxLen ∧
      Rd w' w'.heap.size Ar (icells (unpackO l ms b).1) ∧ Below w.heap.size w w' := by
  obtain ⟨p, hp⟩ : ∃ p, unpackO l ms b = p := ⟨_, rfl⟩
  rw [hp]
  obtain ⟨r, pe⟩ := p
  simp only
  have HFIND := Lib.hid (find_nil A A' n c n' c' l ms w hA hn hc hcc hA' hn' hc' hcc')
  have HBB := Lib.hid hB
  have HM := Lib.hid hm
  have HRB := Lib.hid hrb
  have h1 := ne_nil
  have h2 := ne_err
  have hcm := hemx
  unfold maxLen at hcm
  obtain ⟨i3, hi3, hz30, hz31, hz32⟩ := info_parts info3
  unfold unpackO at hp
  obtain ⟨q, hq⟩ : ∃ q, findM l noChk ms = q := ⟨_, rfl⟩
  rw [hq] at hp HFIND
  obtain ⟨f, ec⟩ := q
  have hok : ec = 0 → f.length ≤ 16 ∧ sumB f ≤ 256 := by
    intro h
    subst h
    obtain ⟨_, a, b, _, d⟩ := findM_ok hq
    exact ⟨by omega, d⟩
  unfold unpackQ at hp
  simp only at hp HFIND
  clear hA hn hcc hA' hn' hcc' hB hm hrb hemx hq
  by_cases he : ec = 0
  case neg =>
    rw [if_pos he] at hp
    simp only [Prod.mk.injEq] at hp
    obtain ⟨rfl, rfl⟩ := hp
    have HE := Lib.hid (errV_ne he)
    clear he hok
    go_enter Try.func50, Try.ntmps50
    go_wp2_with (fail)
    (with_reducible refine HFIND.out.mono ?_)
    rintro e w1 ⟨Af, cf, rfl, hf1, hf2, hrf, hb⟩
    rw [HE.out]
    have HB := Lib.hid hb
    clear hb hrf HFIND
    generalize f.length = nf at *
    go_wp2
    go_ret2
    exact ⟨none, 0, by rw [HE.out]; rfl, Nat.le_refl _, Nat.zero_le _, fun h => absurd rfl h, HB.out⟩
  subst he
  rw [if_neg (by simp)] at hp
  obtain ⟨hnf, hsum⟩ := hok rfl
  clear hok
  obtain ⟨nf, hfn⟩ : ∃ nf, f.length = nf := ⟨_, rfl⟩
  rw [hfn] at hnf
  have HFN := Lib.hid hfn
  simp only [hfn] at HFIND
  clear hfn
  rw [HM.out] at hp
  obtain ⟨N, hN⟩ : ∃ N, (sumB f + 7) / 8 = N := ⟨_, rfl⟩
  rw [hN] at hp
  have HN := Lib.hid hN
  have hN33 : N ≤ 32 := by omega
  have hNS : sumB f ≤ 8 * N := by omega
  clear hN
  by_cases hlen : m = N
  case neg =>
    rw [if_pos hlen] at hp
    simp only [Prod.mk.injEq] at hp
    obtain ⟨rfl, rfl⟩ := hp
    have hlen' : ((m : Int) != N) = true := by simp; omega
    go_enter Try.func50, Try.ntmps50
    go_wp2_with (fail)
    (with_reducible refine HFIND.out.mono ?_)
    rintro e w1 ⟨Af, cf, rfl, hf1, hf2, hrf, hb⟩
    rw [errV_zero]
    have HB := Lib.hid hb
    have HRF := Lib.hid hrf
    have HF2 := Lib.hid hf2
    have hs1 := hb.size
    clear hb hrf HFIND hf2
    go_wp2_with (fail)
    (with_reducible refine (size_any Af nf cf f w1 HRF.out HFN.out hf1 HF2.out hnf).mono ?_)
    rintro e w2 ⟨rfl, hb⟩
    rw [HN.out]
    have HB2 : Hid (Below w.heap.size w w2) := HB.out.trans (hb.mono hs1)
    clear hb
    go_wp2
    go_ret2
    exact ⟨none, 0, rfl, Nat.le_refl _, Nat.zero_le _, fun h => absurd rfl h, HB2.out⟩
  subst hlen
  rw [if_neg (by simp)] at hp
  have hlen' : ((m : Int) != m) = false := by simp
  have HP := Lib.hid hp
  clear hp
  go_enter Try.func50, Try.ntmps50
  go_wp2_with (fail)
  (with_reducible refine HFIND.out.mono ?_)
  rintro e1 w0 ⟨Af, cf, rfl, hf1, hf2, hrf, hb⟩
  rw [errV_zero]
  have HB0 := Lib.hid hb
  have HRF0 := Lib.hid hrf
  have HF2 := Lib.hid hf2
  have hs0 := hb.size
  clear hb hrf HFIND hf2
  go_wp2_with (fail)
  (with_reducible refine (size_any Af nf cf f w0 HRF0.out HFN.out hf1 HF2.out hnf).mono ?_)
  rintro e1 w1 ⟨rfl, hb⟩
  rw [HN.out]
  have HB : Hid (Below w.heap.size w w1) := HB0.out.trans (hb.mono hs0)
  have HRF : Hid (Rd w1 w1.heap.size Af (ocells f)) := (HRF0.out.below hb (Nat.le_refl _)).more hb.size
  have hs1 := HB.out.size
  have HB1 : Hid (Rd w1 w1.heap.size B (kcells .u8 b)) := (HBB.out.below HB.out (Nat.le_refl _)).more hs1
  have hf2 := HF2.out
  clear hb HB0 HRF0 HBB hs0 HF2
  unfold maxLen at hf2
  go_wp2
  go_loopw [10, 11, 36] (fun o a i wr => ∃ k : Nat, k ≤ nf ∧ i = .int .i64 k ∧ a = .int .i64 (sumB (f.take k) : Nat) ∧ wr.ownsRow w1.heap.size 3 1 o k (icells (readV b (f.take k) 0)) ∧ Below w1.heap.size w1 wr) (fun _ _ i _ => nf - (intOf i).toNat)
  case atStart => exact ⟨0, Nat.zero_le _, rfl, rfl, World.ownsRow_nil .., Below.refl _ _⟩
  case round =>
    obtain ⟨k, hk, rfl, rfl, hO, hBr⟩ := hrel
    have hsr := hBr.size
    have HBr := Lib.hid hBr
    have HO := Lib.hid hO
    clear hBr hO
    by_cases hlt : k < nf
    · obtain ⟨x, hx⟩ := getElem?_of_lt (l := f) (k := k) (by rw [HFN.out]; exact hlt)
      have HST := Lib.hid (sumB_take hx)
      have HRT := Lib.hid (readV_take b hx)
      have hsle : sumB (f.take k) + bitsO x.t ≤ sumB f := by
        rw [← sumB_take hx]
        have := sumB_append (f.take (k + 1)) (f.drop (k + 1))
        rw [List.take_append_drop] at this
        omega
      obtain ⟨s, hs⟩ : ∃ s, sumB (f.take k) = s := ⟨_, rfl⟩
      rw [hs] at HST HRT hsle ⊢
      have hbo32 := bitsO_le x.t
      have hsg := sign_cases x.t
      obtain ⟨bo, hbo⟩ : ∃ bo, bitsO x.t = bo := ⟨_, rfl⟩
      rw [hbo] at HST HRT hsle hbo32 hsg
      have HSG := Lib.hid hsg
      have HBO := Lib.hid hbo
      obtain ⟨bb, off, rfl, hbl, c0, c1, c2, c3, c4, c5, c6, c7, c8⟩ := (HRF.out.below HBr.out (Nat.le_refl _)).ob hx
      obtain ⟨rs, hrs⟩ : ∃ rs, readV b (f.take k) 0 = rs := ⟨_, rfl⟩
      rw [hrs] at HO HRT
      clear hx hbo hs hsg hrs
      generalize sumB f = S at *
      go_upto_region 11 with (fail)
      obtain ⟨W, hW⟩ : ∃ W, wr.alloc (.cells #[.int .i64 x.i, .int .i64 x.s, .int .i64 x.t, .int .i64 x.a, .int .i64 x.lo, .int .i64 x.hi, .int .i64 x.v, .bool x.mp, .bool x.hd] 144) = W := ⟨_, rfl⟩
      have HOW : Hid (W.ownsRow w1.heap.size 3 1 u10 k (icells rs)) := by rw [← hW]; exact HO.out.alloc _
      have HBW : Hid (Below w1.heap.size w1 W) := by rw [← hW]; exact HBr.out.alloc hsr _
      have m2 : W.cell? ⟨wr.heap.size, 2, none⟩ = some (.int .i64 x.t) := by rw [← hW]; exact cell_new_at _ _ _ _ _ _ rfl rfl
      have hlW : wr.heap.size < W.heap.size := World.block_lt_of_cell? W _ m2
      have hsW := HBW.out.size
      rw [hW]
      clear hW c0 c1 c2 c3 c4 c5 c6 c7 c8 HO HBr hsr
      generalize wr.heap.size = B1 at *
      go_wp2_with (fail)
      (with_reducible refine (bits_any x.t W).mono ?_)
      rintro e1 w5 ⟨rfl, hb⟩
      rw [HBO.out]
      have HO5 : Hid (w5.ownsRow w1.heap.size 3 1 u10 k (icells rs)) := own_below HOW.out hb
      have HB5 : Hid (Below w1.heap.size w1 w5) := HBW.out.trans (hb.mono hsW)
      have m5 : w5.cell? ⟨B1, 2, none⟩ = some (.int .i64 x.t) := (hb.cell (p := ⟨B1, 2, none⟩) hlW).trans m2
      have HB15 : Hid (Rd w5 w1.heap.size B (kcells .u8 b)) := HB1.out.below HB5.out (Nat.le_refl _)
      have hs5 := HB5.out.size
      clear hb m2 HOW HBW hsW hlW
      go_wp2
      go_loopw [11, 15, 44] (fun a v i wr => ∃ j a0 : Nat, ∃ V : Int, j ≤ bo ∧ i = .int .i64 j ∧ a = .int .i64 a0 ∧ a0 = s + j ∧ v = .int .i64 V ∧ V = valB (bitsAt b s j) ∧ w5 = wr) (fun _ _ i _ => bo - (intOf i).toNat)
      case atStart => exact ⟨0, s, 0, Nat.zero_le _, rfl, rfl, rfl, rfl, by simp [bitsAt, valB], rfl⟩
      case round =>
        obtain ⟨j, a0, V, hj, rfl, rfl, ha0, rfl, hV, rfl⟩ := hrel
        have HV := Lib.hid hV
        by_cases hlt : j < bo
        · obtain ⟨a8, h8⟩ : ∃ a8, a0 / 8 = a8 := ⟨_, rfl⟩
          obtain ⟨am, hm8⟩ : ∃ am, a0 % 8 = am := ⟨_, rfl⟩
          have h8m : a8 < m := by omega
          have q1 : (a0 : Int) / 8 = a8 := by omega
          have q2 : (a0 : Int).tdiv 8 = a8 := by rw [Int.tdiv_eq_ediv_of_nonneg (by omega)]; exact q1
          have q3 : (a0 : Int) % 8 = am := by omega
          have q4 : (a0 : Int).tmod 8 = am := by rw [Int.tmod_eq_emod_of_nonneg (by omega)]; exact q3
          have a0l : a0 < 300 := by omega
          have am8 : am < 8 := by omega
          obtain ⟨y, hy⟩ := getElem?_of_lt (l := b) (k := a8) (by rw [HM.out]; exact h8m)
          obtain ⟨b', off', rfl, hbl', d0⟩ := HB15.out.kint hy
          have hy0 := HRB.out y (List.mem_of_getElem? hy)
          have HBT := Lib.hid (bitOf_eq hy h8 hm8)
          have e1 : bits .and .u8 (y / 2 ^ am) 1 = bitOf b a0 := by rw [HBT.out]; exact bit_and y hy0 am
          obtain ⟨r1, r2, r3, r4⟩ := read_step b s j (by omega)
          rw [← ha0, ← hV] at r1 r2
          have hbin := bitOf_bin b a0
          have HA0 := Lib.hid ha0
          obtain ⟨V', hV'⟩ : ∃ V', valB (bitsAt b s (j + 1)) = V' := ⟨_, rfl⟩
          rw [hV'] at r1 r2 r3 r4
          have HV' := Lib.hid hV'
          generalize bitOf b a0 = z at *
          clear hy h8 hm8 hV hV' ha0
          go_wp2
          go_roundw
          case rel => exact ⟨j + 1, a0 + 1, V', by omega, by go_num, by push_cast; rfl, by rw [HA0.out]; omega, rfl, HV'.out.symm, by first | rfl | trivial⟩
          case measure => simp [intOf]; omega
        · have hjb : j = bo := by omega
          subst hjb
          have HA0 := Lib.hid ha0
          have hvr := valB_range (bitsAt_bin b s j)
          rw [bitsAt_length, ← hV] at hvr
          have hp : ((2 : Int) ^ j) ≤ 4294967296 := by
            have h1 : ((2 : Int) ^ j) = ((2 ^ j : Nat) : Int) := by push_cast; rfl
            have h2 : 2 ^ j ≤ 2 ^ 32 := Nat.pow_le_pow_right (by omega) (by omega)
            omega
          have hv0 := hvr.1
          have hv1 : V < 4294967296 := by omega
          clear hV ha0 hvr hp
          rcases HSG.out with ⟨ht, hb8, hsgn⟩ | ⟨ht, hb8, hsgn⟩ | ⟨ht, hb8, hsgn⟩ | ⟨ht1, ht2, ht3, hsgn⟩
          · rw [ht] at m5
            subst hb8
            by_cases hneg : 128 ≤ V
            · have HM1 : Hid (signO x.t V = V - 256) := by rw [Hid, hsgn, if_pos hneg]
              clear hsgn
              go_wp2_with (at_builtin; refine wpList_append_own _ rfl _ _ 35 rfl w1.heap.size 3 i3 (.int .i64 0) 1 8 Try.underlying35 hi3 hz30 hz31 hz32 rfl (by omega) _ _ _ rfl (HO5.out.alloc _) ⟨w5.heap.size, 0, none⟩ 1 1 [.int .i64 (V - 256)] rfl rfl (cell_one_new _ _ _) (by simp [Value.oneCell']) (by unfold maxLen; omega) (by omega) (by simp; omega) ?_)
              intro v' w6 hown6 hgrow6 _
              have HO6 : Hid (w6.ownsRow w1.heap.size 3 1 v' (k + 1) (icells (readV b (f.take (k + 1)) 0))) := by
                rw [HRT.out, ← HV.out, HM1.out, icells_append]
                exact hown6
              have HB6 : Hid (Below w1.heap.size w1 w6) := (HB5.out.alloc hs5 _).grown hgrow6 (by simp; omega) (fun k hk => (HO5.out.lt k hk).1)
              clear hown6 hgrow6
              go_wp2
              go_roundw
              case rel => exact ⟨k + 1, by omega, by go_num, by rw [HA0.out, HST.out], HO6.out, HB6.out⟩
              case measure => simp [intOf]; omega
            · have HM1 : Hid (signO x.t V = V) := by rw [Hid, hsgn, if_neg hneg]
              have hneg2 : V < 128 := by omega
              clear hsgn hneg
              go_wp2_with (at_builtin; refine wpList_append_own _ rfl _ _ 35 rfl w1.heap.size 3 i3 (.int .i64 0) 1 8 Try.underlying35 hi3 hz30 hz31 hz32 rfl (by omega) _ _ _ rfl (HO5.out.alloc _) ⟨w5.heap.size, 0, none⟩ 1 1 [.int .i64 (V)] rfl rfl (cell_one_new _ _ _) (by simp [Value.oneCell']) (by unfold maxLen; omega) (by omega) (by simp; omega) ?_)
              intro v' w6 hown6 hgrow6 _
              have HO6 : Hid (w6.ownsRow w1.heap.size 3 1 v' (k + 1) (icells (readV b (f.take (k + 1)) 0))) := by
                rw [HRT.out, ← HV.out, HM1.out, icells_append]
                exact hown6
              have HB6 : Hid (Below w1.heap.size w1 w6) := (HB5.out.alloc hs5 _).grown hgrow6 (by simp; omega) (fun k hk => (HO5.out.lt k hk).1)
              clear hown6 hgrow6
              go_wp2
              go_roundw
              case rel => exact ⟨k + 1, by omega, by go_num, by rw [HA0.out, HST.out], HO6.out, HB6.out⟩
              case measure => simp [intOf]; omega
          · rw [ht] at m5
            subst hb8
            by_cases hneg : 32768 ≤ V
            · have HM1 : Hid (signO x.t V = V - 65536) := by rw [Hid, hsgn, if_pos hneg]
              clear hsgn
              go_wp2_with (at_builtin; refine wpList_append_own _ rfl _ _ 35 rfl w1.heap.size 3 i3 (.int .i64 0) 1 8 Try.underlying35 hi3 hz30 hz31 hz32 rfl (by omega) _ _ _ rfl (HO5.out.alloc _) ⟨w5.heap.size, 0, none⟩ 1 1 [.int .i64 (V - 65536)] rfl rfl (cell_one_new _ _ _) (by simp [Value.oneCell']) (by unfold maxLen; omega) (by omega) (by simp; omega) ?_)
              intro v' w6 hown6 hgrow6 _
              have HO6 : Hid (w6.ownsRow w1.heap.size 3 1 v' (k + 1) (icells (readV b (f.take (k + 1)) 0))) := by
                rw [HRT.out, ← HV.out, HM1.out, icells_append]
                exact hown6
              have HB6 : Hid (Below w1.heap.size w1 w6) := (HB5.out.alloc hs5 _).grown hgrow6 (by simp; omega) (fun k hk => (HO5.out.lt k hk).1)
              clear hown6 hgrow6
              go_wp2
              go_roundw
              case rel => exact ⟨k + 1, by omega, by go_num, by rw [HA0.out, HST.out], HO6.out, HB6.out⟩
              case measure => simp [intOf]; omega
            · have HM1 : Hid (signO x.t V = V) := by rw [Hid, hsgn, if_neg hneg]
              have hneg2 : V < 32768 := by omega
              clear hsgn hneg
              go_wp2_with (at_builtin; refine wpList_append_own _ rfl _ _ 35 rfl w1.heap.size 3 i3 (.int .i64 0) 1 8 Try.underlying35 hi3 hz30 hz31 hz32 rfl (by omega) _ _ _ rfl (HO5.out.alloc _) ⟨w5.heap.size, 0, none⟩ 1 1 [.int .i64 (V)] rfl rfl (cell_one_new _ _ _) (by simp [Value.oneCell']) (by unfold maxLen; omega) (by omega) (by simp; omega) ?_)
              intro v' w6 hown6 hgrow6 _
              have HO6 : Hid (w6.ownsRow w1.heap.size 3 1 v' (k + 1) (icells (readV b (f.take (k + 1)) 0))) := by
                rw [HRT.out, ← HV.out, HM1.out, icells_append]
                exact hown6
              have HB6 : Hid (Below w1.heap.size w1 w6) := (HB5.out.alloc hs5 _).grown hgrow6 (by simp; omega) (fun k hk => (HO5.out.lt k hk).1)
              clear hown6 hgrow6
              go_wp2
              go_roundw
              case rel => exact ⟨k + 1, by omega, by go_num, by rw [HA0.out, HST.out], HO6.out, HB6.out⟩
              case measure => simp [intOf]; omega
          · rw [ht] at m5
            subst hb8
            by_cases hneg : 2147483648 ≤ V
            · have HM1 : Hid (signO x.t V = V - 4294967296) := by rw [Hid, hsgn, if_pos hneg]
              clear hsgn
              go_wp2_with (at_builtin; refine wpList_append_own _ rfl _ _ 35 rfl w1.heap.size 3 i3 (.int .i64 0) 1 8 Try.underlying35 hi3 hz30 hz31 hz32 rfl (by omega) _ _ _ rfl (HO5.out.alloc _) ⟨w5.heap.size, 0, none⟩ 1 1 [.int .i64 (V - 4294967296)] rfl rfl (cell_one_new _ _ _) (by simp [Value.oneCell']) (by unfold maxLen; omega) (by omega) (by simp; omega) ?_)
              intro v' w6 hown6 hgrow6 _
              have HO6 : Hid (w6.ownsRow w1.heap.size 3 1 v' (k + 1) (icells (readV b (f.take (k + 1)) 0))) := by
                rw [HRT.out, ← HV.out, HM1.out, icells_append]
                exact hown6
              have HB6 : Hid (Below w1.heap.size w1 w6) := (HB5.out.alloc hs5 _).grown hgrow6 (by simp; omega) (fun k hk => (HO5.out.lt k hk).1)
              clear hown6 hgrow6
              go_wp2
              go_roundw
              case rel => exact ⟨k + 1, by omega, by go_num, by rw [HA0.out, HST.out], HO6.out, HB6.out⟩
              case measure => simp [intOf]; omega
            · have HM1 : Hid (signO x.t V = V) := by rw [Hid, hsgn, if_neg hneg]
              have hneg2 : V < 2147483648 := by omega
              clear hsgn hneg
              go_wp2_with (at_builtin; refine wpList_append_own _ rfl _ _ 35 rfl w1.heap.size 3 i3 (.int .i64 0) 1 8 Try.underlying35 hi3 hz30 hz31 hz32 rfl (by omega) _ _ _ rfl (HO5.out.alloc _) ⟨w5.heap.size, 0, none⟩ 1 1 [.int .i64 (V)] rfl rfl (cell_one_new _ _ _) (by simp [Value.oneCell']) (by unfold maxLen; omega) (by omega) (by simp; omega) ?_)
              intro v' w6 hown6 hgrow6 _
              have HO6 : Hid (w6.ownsRow w1.heap.size 3 1 v' (k + 1) (icells (readV b (f.take (k + 1)) 0))) := by
                rw [HRT.out, ← HV.out, HM1.out, icells_append]
                exact hown6
              have HB6 : Hid (Below w1.heap.size w1 w6) := (HB5.out.alloc hs5 _).grown hgrow6 (by simp; omega) (fun k hk => (HO5.out.lt k hk).1)
              clear hown6 hgrow6
              go_wp2
              go_roundw
              case rel => exact ⟨k + 1, by omega, by go_num, by rw [HA0.out, HST.out], HO6.out, HB6.out⟩
              case measure => simp [intOf]; omega
          · have HM1 : Hid (signO x.t V = V) := hsgn V
            have ht1' : (x.t == 2) = false := by simpa using ht1
            have ht2' : (x.t == 4) = false := by simpa using ht2
            have ht3' : (x.t == 6) = false := by simpa using ht3
            clear hsgn ht1 ht2 ht3
            go_wp2_with (at_builtin; refine wpList_append_own _ rfl _ _ 35 rfl w1.heap.size 3 i3 (.int .i64 0) 1 8 Try.underlying35 hi3 hz30 hz31 hz32 rfl (by omega) _ _ _ rfl (HO5.out.alloc _) ⟨w5.heap.size, 0, none⟩ 1 1 [.int .i64 (V)] rfl rfl (cell_one_new _ _ _) (by simp [Value.oneCell']) (by unfold maxLen; omega) (by omega) (by simp; omega) ?_)
            intro v' w6 hown6 hgrow6 _
            have HO6 : Hid (w6.ownsRow w1.heap.size 3 1 v' (k + 1) (icells (readV b (f.take (k + 1)) 0))) := by
              rw [HRT.out, ← HV.out, HM1.out, icells_append]
              exact hown6
            have HB6 : Hid (Below w1.heap.size w1 w6) := (HB5.out.alloc hs5 _).grown hgrow6 (by simp; omega) (fun k hk => (HO5.out.lt k hk).1)
            clear hown6 hgrow6
            go_wp2
            go_roundw
            case rel => exact ⟨k + 1, by omega, by go_num, by rw [HA0.out, HST.out], HO6.out, HB6.out⟩
            case measure => simp [intOf]; omega
    · have hkn : k = nf := by omega
      subst hkn
      have t1 : f.take k = f := List.take_of_length_le (by rw [HFN.out]; omega)
      rw [t1] at HO ⊢
      obtain ⟨vs, hvs⟩ : ∃ vs, readV b f 0 = vs := ⟨_, rfl⟩
      rw [hvs] at HO HP
      have hvl : vs.length = k := by rw [← hvs, readV_length, HFN.out]
      have HVL := Lib.hid hvl
      obtain ⟨Ao, co, rfl, ho1, ho2, hro⟩ := own_read HO.out
      have HRO := Lib.hid hro
      have HBL : Hid (Below w.heap.size w wr) := HB.out.trans (HBr.out.mono hs1)
      have HBB1 : Hid (Rd wr wr.heap.size B (kcells .u8 b)) := (HB1.out.below HBr.out (Nat.le_refl _)).more hsr
      have HFB1 : Hid (Rd wr wr.heap.size Af (ocells f)) := (HRF.out.below HBr.out (Nat.le_refl _)).more hsr
      have HO1 : Hid (co ≤ maxLen) := ho2
      have hsl := HBL.out.size
      unfold maxLen at ho2
      obtain ⟨S, hS⟩ : ∃ S, sumB f = S := ⟨_, rfl⟩
      rw [hS] at HP hsum hNS ⊢
      clear hvs hvl hro HO HBr HB HB1 HRF hsr hs1 t1 hS
      generalize wr = wL at *
      go_wp2
      go_loopw [11] (fun a wx => ∃ a0 : Nat, a = .int .i64 a0 ∧ S ≤ a0 ∧ a0 ≤ 8 * m ∧ loose b S = loose b a0 ∧ wL = wx) (fun a _ => 8 * m - (intOf a).toNat)
      case atStart => exact ⟨S, rfl, Nat.le_refl _, hNS, rfl, rfl⟩
      case round =>
        obtain ⟨a0, rfl, ha1, ha2, hL, rfl⟩ := hrel
        have HL := Lib.hid hL
        clear hL
        by_cases hlt : a0 < 8 * m
        · obtain ⟨a8, h8⟩ : ∃ a8, a0 / 8 = a8 := ⟨_, rfl⟩
          obtain ⟨am, hm8⟩ : ∃ am, a0 % 8 = am := ⟨_, rfl⟩
          have h8m : a8 < m := by omega
          have q1 : (a0 : Int) / 8 = a8 := by omega
          have q2 : (a0 : Int).tdiv 8 = a8 := by rw [Int.tdiv_eq_ediv_of_nonneg (by omega)]; exact q1
          have q3 : (a0 : Int) % 8 = am := by omega
          have q4 : (a0 : Int).tmod 8 = am := by rw [Int.tmod_eq_emod_of_nonneg (by omega)]; exact q3
          have am8 : am < 8 := by omega
          obtain ⟨y, hy⟩ := getElem?_of_lt (l := b) (k := a8) (by rw [HM.out]; exact h8m)
          obtain ⟨b', off', rfl, hbl', d0⟩ := HBB1.out.kint hy
          have hy0 := HRB.out y (List.mem_of_getElem? hy)
          have HBT := Lib.hid (bitOf_eq hy h8 hm8)
          have e1 : bits .and .u8 (y / 2 ^ am) 1 = bitOf b a0 := by rw [HBT.out]; exact bit_and y hy0 am
          have HLS := Lib.hid (loose_step (b := b) (s := a0) (by rw [HM.out]; exact hlt))
          have a0l : a0 < 300 := by omega
          clear hy h8 hm8
          rcases bitOf_bin b a0 with hz | hz
          · have HL2 : Hid (loose b S = loose b (a0 + 1)) := by rw [Hid, HL.out, HLS.out, hz]; simp
            rw [hz] at e1
            clear hz
            go_wp2
            go_roundw
            case rel => exact ⟨a0 + 1, by push_cast; rfl, by omega, by omega, HL2.out, by first | rfl | trivial⟩
            case measure => simp [intOf]; omega
          · have HL2 : Hid (loose b S = true) := by rw [Hid, HL.out, HLS.out, hz]; simp
            rw [hz] at e1
            clear hz
            have hp := HP.out
            rw [if_pos HL2.out] at hp
            simp only [Prod.mk.injEq] at hp
            obtain ⟨rfl, rfl⟩ := hp
            go_wp2
            go_ret2
            exact ⟨none, 0, rfl, Nat.le_refl _, Nat.zero_le _, fun h => absurd rfl h, HBL.out⟩
        · have HL2 : Hid (loose b S = false) := by rw [Hid, HL.out]; exact loose_end (by rw [HM.out]; omega)
          have hp := HP.out
          rw [if_neg (by simp [HL2.out])] at hp
          have HP2 := Lib.hid hp
          have hend : ¬ ((a0 : Int) < 8 * (m : Int)) := by omega
          clear hp
          go_wp2
          go_loopw [104] (fun i wx => ∃ j : Nat, j ≤ k ∧ i = .int .i64 j ∧ fitV (f.drop j) (vs.drop j) = fitV f vs ∧ Below wL.heap.size wL wx) (fun i _ => k - (intOf i).toNat)
          case atStart => exact ⟨0, Nat.zero_le _, rfl, rfl, Below.refl _ _⟩
          case round =>
            obtain ⟨j, hj, rfl, hF, hBr⟩ := hrel
            have hsr := hBr.size
            have HBr := Lib.hid hBr
            have HF := Lib.hid hF
            clear hBr hF
            by_cases hlt : j < k
            · obtain ⟨x, hx⟩ := getElem?_of_lt (l := f) (k := j) (by rw [HFN.out]; exact hlt)
              obtain ⟨v, hv⟩ := getElem?_of_lt (l := vs) (k := j) (by rw [HVL.out]; exact hlt)
              have HS := Lib.hid (fitV_step hx hv)
              obtain ⟨bb, off, rfl, hbl, c0, c1, c2, c3, c4, c5, c6, c7, c8⟩ := (HFB1.out.below HBr.out (Nat.le_refl _)).ob hx
              obtain ⟨b', off', rfl, hbl', d0⟩ := (HRO.out.below HBr.out (Nat.le_refl _)).int hv
              have hb1 : bb < wr.heap.size := by omega
              have hb2 : b' < wr.heap.size := by omega
              clear hx hv
              by_cases hr1 : v < x.lo
              · have HM1 : Hid (fitV f vs = false) := by
                  rw [Hid, ← HF.out, HS.out]
                  simp; omega
                have hp := HP2.out
                rw [if_pos HM1.out] at hp
                simp only [Prod.mk.injEq] at hp
                obtain ⟨rfl, rfl⟩ := hp
                go_wp2
                go_quiet (fail)
                go_wp2
                go_ret2
                exact ⟨none, 0, rfl, Nat.le_refl _, Nat.zero_le _, fun h => absurd rfl h, Below.drewN ((HBL.out.trans (HBr.out.mono hsl)).alloc (by omega) _) _⟩
              · by_cases hr2 : x.hi < v
                · have HM1 : Hid (fitV f vs = false) := by
                    rw [Hid, ← HF.out, HS.out]
                    simp; omega
                  have hp := HP2.out
                  rw [if_pos HM1.out] at hp
                  simp only [Prod.mk.injEq] at hp
                  obtain ⟨rfl, rfl⟩ := hp
                  go_wp2
                  go_quiet (fail)
                  go_wp2
                  go_ret2
                  exact ⟨none, 0, rfl, Nat.le_refl _, Nat.zero_le _, fun h => absurd rfl h, Below.drewN ((HBL.out.trans (HBr.out.mono hsl)).alloc (by omega) _) _⟩
                · have HM1 : Hid (fitV (f.drop (j + 1)) (vs.drop (j + 1)) = fitV f vs) := by
                    rw [Hid, ← HF.out, HS.out]
                    have : decide (x.lo ≤ v ∧ v ≤ x.hi) = true := by simp; omega
                    rw [this]; simp
                  go_wp2
                  go_quiet (fail)
                  go_wp2
                  go_roundw
                  case rel => exact ⟨j + 1, by omega, by go_num, HM1.out, Below.drewN (HBr.out.alloc hsr _) _⟩
                  case measure => simp [intOf]; omega
            · have hjk : j = k := by omega
              subst hjk
              have HM1 : Hid (fitV f vs = true) := by
                rw [Hid, ← HF.out, ← HFN.out]
                exact fitV_end
              have hp := HP2.out
              rw [if_neg (by simp [HM1.out])] at hp
              simp only [Prod.mk.injEq] at hp
              obtain ⟨rfl, rfl⟩ := hp
              have HRF := Lib.hid ((HRO.out.below HBr.out (Nat.le_refl _)).more hsr)
              have HBF : Hid (Below w.heap.size w wr) := HBL.out.trans (HBr.out.mono hsl)
              go_wp2
              go_ret2
              exact ⟨Ao, co, by rw [HVL.out]; rfl, by rw [HVL.out]; exact ho1, HO1.out, HRF.out, HBF.out⟩
end Go.Proofs.Ytjdknddnanopaaa.Bus
