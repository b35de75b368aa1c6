/-
  The reference's bit and Unpack.
-/
import Derived.Test.YteooabcgojadcaaW29
import Derived.Test.YteooabcgojadcaaW32
namespace Go.Proofs.Yteooabcgojadcaa
open Go.RowKit
set_option linter.unusedVariables false

set_option maxHeartbeats 1000000 in
theorem bit_any (A : Option Addr) (n c B : Nat) (b : List Int) (i : Nat) (w : World) (hA : Rd w B A (kcells .u8 b)) (hn : b.length = n) (hi : i < 8 * n) (hi2 : i < 1000) (hr : ∀ x ∈ b, 0 ≤ x ∧ x < 256) :
    Calls Try.prog 66 #[.slice A n c, .int .i64 i] w fun e w' => e = .returned (.int .i64 (bitOf b i)) ∧ w = w' := by
  obtain ⟨a8, h8⟩ : ∃ a8, i / 8 = a8 := ⟨_, rfl⟩
  obtain ⟨am, hm8⟩ : ∃ am, i % 8 = am := ⟨_, rfl⟩
  have h8m : a8 < n := by omega
  have q1 : (i : Int) / 8 = a8 := by omega
  have q2 : (i : Int).tdiv 8 = a8 := by rw [Int.tdiv_eq_ediv_of_nonneg (by omega)]; exact q1
  have q3 : (i : Int) % 8 = am := by omega
  have q4 : (i : Int).tmod 8 = am := by rw [Int.tmod_eq_emod_of_nonneg (by omega)]; exact q3
  have am8 : am < 8 := by omega
  obtain ⟨y, hy⟩ := getElem?_of_lt (l := b) (k := a8) (by omega)
  obtain ⟨b', off', rfl, hbl', d0⟩ := hA.kint hy
  have hy0 := hr y (List.mem_of_getElem? hy)
  have e1 : bits .and .u8 (y / 2 ^ am) 1 = bitOf b i := by rw [bitOf_eq hy h8 hm8]; exact bit_and y hy0 am
  have hbn : 0 ≤ bitOf b i ∧ bitOf b i ≤ 1 := by have := bitOf_bin b i; omega
  obtain ⟨hbn1, hbn2⟩ := hbn
  generalize bitOf b i = z at *
  clear hA hn hr hy h8 hm8
  go_enter Try.func66, Try.ntmps66
  go_wp2
  go_ret
  exact ⟨rfl, rfl⟩

theorem readV_append (b : List Int) : ∀ (f g : List Ob) (a : Nat), readV b (f ++ g) a = readV b f a ++ readV b g (a + sumB f)
  | [], g, a => by simp [readV, sumB]
  | y :: f, g, a => by simp [readV, readV_append b f g, sumB, Nat.add_assoc]

set_option maxRecDepth 100000 in
set_option maxHeartbeats 16000000 in
theorem refUnpack_any (A A' B : Option Addr) (n c n' c' m e : Nat) (l : List Ob) (ms : List It) (b : List Int) (w : World) (hA : Rd w w.heap.size A (ocells l)) (hn : l.length = n) (hc : n ≤ c) (hcc : c ≤ maxLen)
    (hA' : Rd w w.heap.size A' (mcells ms)) (hn' : ms.length = n') (hc' : n' ≤ c') (hcc' : c' ≤ maxLen) (hB : Rd w w.heap.size B (kcells .u8 b)) (hm : b.length = m) (hme : m ≤ e) (hemx : e ≤ maxLen) (hrb : ∀ x ∈ b, 0 ≤ x ∧ x < 256) :
    Calls Try.prog 55 #[.slice A n c, .slice A' n' c', .slice B m e] w fun e w' => ∃ Ar cr, e = .returned (.tuple #[.slice Ar (unpackO l ms b).1.length cr, (.int .i64 (unpackO l ms b).2)]) ∧ (unpackO l ms b).1.length ≤ cr ∧ cr ≤ maxLen ∧
      Rd w' w'.heap.size Ar (icells (unpackO l ms b).1) ∧ Below w.heap.size w w' := by
  obtain ⟨p, hp⟩ : ∃ p, unpackO l ms b = p := ⟨_, rfl⟩
  rw [hp]
  obtain ⟨r, pe⟩ := p
  simp only
  have HFIND := Lib.hid (reffind_no A A' n c n' c' l ms false w hA hn hc hcc hA' hn' hc' hcc')
  have HBB := Lib.hid hB
  have HM := Lib.hid hm
  have HRB := Lib.hid hrb
  have h1 := ne_nil
  have h2 := ne_err
  have hcm := hemx
  unfold maxLen at hcm
  obtain ⟨i3, hi3, hz30, hz31, hz32⟩ := info_parts info3
  unfold unpackO at hp
  obtain ⟨q, hq⟩ : ∃ q, findM l noChk ms = q := ⟨_, rfl⟩
  rw [hq] at hp HFIND
  obtain ⟨f, ec⟩ := q
  have hok : ec = 0 → f.length ≤ 16 ∧ sumB f ≤ 256 := by
    intro h
    subst h
    obtain ⟨_, a, b, _, d⟩ := findM_ok hq
    exact ⟨by omega, d⟩
  unfold unpackQ at hp
  simp only at hp HFIND
  clear hA hn hcc hA' hn' hcc' hB hm hrb hemx hq
  by_cases he : ec = 0
  case neg =>
    rw [if_pos he] at hp
    simp only [Prod.mk.injEq] at hp
    obtain ⟨rfl, rfl⟩ := hp
    have hne : (ec != 0) = true := by simp [he]
    clear he hok
    go_enter Try.func55, Try.ntmps55
    go_wp2_with (fail)
    (with_reducible refine HFIND.out.mono ?_)
    rintro e w1 ⟨Af, cf, rfl, hf1, hf2, hrf, hb⟩
    have HB := Lib.hid hb
    clear hb hrf HFIND
    generalize f.length = nf at *
    generalize sumB f = sf at *
    go_wp2
    go_ret2
    exact ⟨none, 0, rfl, Nat.le_refl _, Nat.zero_le _, fun h => absurd rfl h, HB.out⟩
  subst he
  rw [if_neg (by simp)] at hp
  obtain ⟨hnf, hsum⟩ := hok rfl
  clear hok
  obtain ⟨nf, hfn⟩ : ∃ nf, f.length = nf := ⟨_, rfl⟩
  rw [hfn] at hnf
  have HFN := Lib.hid hfn
  simp only [hfn] at HFIND
  clear hfn
  rw [HM.out] at hp
  obtain ⟨N, hN⟩ : ∃ N, (sumB f + 7) / 8 = N := ⟨_, rfl⟩
  rw [hN] at hp
  obtain ⟨S, hS⟩ : ∃ S, sumB f = S := ⟨_, rfl⟩
  have HSS := Lib.hid hS
  rw [hS] at hN hsum hp HFIND
  have hN33 : N ≤ 32 := by omega
  have hNS : S ≤ 8 * N := by omega
  have z1 : ((S : Int) + 7) / 8 = N := by omega
  have z2 : ((S : Int) + 7).tdiv 8 = N := by rw [Int.tdiv_eq_ediv_of_nonneg (by omega)]; exact z1
  clear hN hS
  by_cases hlen : m = N
  case neg =>
    rw [if_pos hlen] at hp
    simp only [Prod.mk.injEq] at hp
    obtain ⟨rfl, rfl⟩ := hp
    have hlen' : ((m : Int) != N) = true := by simp; omega
    go_enter Try.func55, Try.ntmps55
    go_wp2_with (fail)
    (with_reducible refine HFIND.out.mono ?_)
    rintro e w1 ⟨Af, cf, rfl, hf1, hf2, hrf, hb⟩
    have HB := Lib.hid hb
    clear hb hrf HFIND
    go_wp2
    go_ret2
    exact ⟨none, 0, rfl, Nat.le_refl _, Nat.zero_le _, fun h => absurd rfl h, HB.out⟩
  subst hlen
  rw [if_neg (by simp)] at hp
  have hlen' : ((m : Int) != m) = false := by simp
  have HP := Lib.hid hp
  clear hp
  go_enter Try.func55, Try.ntmps55
  go_wp2_with (fail)
  (with_reducible refine HFIND.out.mono ?_)
  rintro e1 w1 ⟨Af, cf, rfl, hf1, hf2, hrf, hb⟩
  have HB := Lib.hid hb
  have HRF := Lib.hid hrf
  have hs1 := HB.out.size
  have HB1 : Hid (Rd w1 w1.heap.size B (kcells .u8 b)) := (HBB.out.below HB.out (Nat.le_refl _)).more hs1
  unfold maxLen at hf2
  clear hb hrf HFIND HBB
  go_wp2
  go_loopw [11] (fun a wx => ∃ a0 : Nat, a = .int .i64 a0 ∧ S ≤ a0 ∧ a0 ≤ 8 * m ∧ loose b S = loose b a0 ∧ w1 = wx) (fun a _ => 8 * m - (intOf a).toNat)
  case atStart => exact ⟨S, rfl, Nat.le_refl _, hNS, rfl, rfl⟩
  case round =>
    obtain ⟨a0, rfl, ha1, ha2, hL, rfl⟩ := hrel
    have HL := Lib.hid hL
    clear hL
    by_cases hlt : a0 < 8 * m
    · have HLS := Lib.hid (loose_step (b := b) (s := a0) (by rw [HM.out]; exact hlt))
      have a0l : a0 < 300 := by omega
      have HBIT := Lib.hid (bit_any B m e w1.heap.size b a0 w1 HB1.out HM.out hlt (by omega) HRB.out)
      rcases bitOf_bin b a0 with hz | hz
      · have HL2 : Hid (loose b S = loose b (a0 + 1)) := by rw [Hid, HL.out, HLS.out, hz]; simp
        rw [hz] at HBIT
        clear hz
        go_wp2_with (fail)
        (with_reducible refine HBIT.out.mono ?_)
        rintro e2 w2 ⟨rfl, rfl⟩
        go_wp2
        go_roundw
        case rel => exact ⟨a0 + 1, by push_cast; rfl, by omega, by omega, HL2.out, by first | rfl | trivial⟩
        case measure => simp [intOf]; omega
      · have HL2 : Hid (loose b S = true) := by rw [Hid, HL.out, HLS.out, hz]; simp
        rw [hz] at HBIT
        clear hz
        have hp := HP.out
        rw [if_pos HL2.out] at hp
        simp only [Prod.mk.injEq] at hp
        obtain ⟨rfl, rfl⟩ := hp
        go_wp2_with (fail)
        (with_reducible refine HBIT.out.mono ?_)
        rintro e2 w2 ⟨rfl, rfl⟩
        go_wp2
        go_ret2
        exact ⟨none, 0, rfl, Nat.le_refl _, Nat.zero_le _, fun h => absurd rfl h, HB.out⟩
    · have HL2 : Hid (loose b S = false) := by rw [Hid, HL.out]; exact loose_end (by rw [HM.out]; omega)
      have hp := HP.out
      rw [if_neg (by simp [HL2.out])] at hp
      have HP2 := Lib.hid hp
      have hend : ¬ ((a0 : Int) < 8 * (m : Int)) := by omega
      clear hp HP
      obtain ⟨vs, hvs⟩ : ∃ vs, readV b f 0 = vs := ⟨_, rfl⟩
      rw [hvs] at HP2
      have HVS := Lib.hid hvs
      have HVL : Hid (vs.length = nf) := by rw [← hvs, Hid, readV_length, HFN.out]
      clear hvs
      go_wp2
      go_loopw [12, 13, 51] (fun o a i wr => ∃ k : Nat, k ≤ nf ∧ i = .int .i64 k ∧ a = .int .i64 (sumB (f.take k) : Nat) ∧ fitV (f.drop k) (vs.drop k) = fitV f vs ∧ wr.ownsRow w1.heap.size 3 1 o k (icells (readV b (f.take k) 0)) ∧ Below w1.heap.size w1 wr) (fun _ _ i _ => nf - (intOf i).toNat)
      case atStart => exact ⟨0, Nat.zero_le _, rfl, rfl, rfl, World.ownsRow_nil .., Below.refl _ _⟩
      case round =>
        obtain ⟨k, hk, rfl, rfl, hF, hO, hBr⟩ := hrel
        have hsr := hBr.size
        have HBr := Lib.hid hBr
        have HO := Lib.hid hO
        have HF := Lib.hid hF
        clear hBr hO hF
        by_cases hlt : k < nf
        · obtain ⟨x, hx⟩ := getElem?_of_lt (l := f) (k := k) (by rw [HFN.out]; exact hlt)
          have HST := Lib.hid (sumB_take hx)
          have HRT := Lib.hid (readV_take b hx)
          have hsle : sumB (f.take k) + bitsO x.t ≤ sumB f := by
            rw [← sumB_take hx]
            have := sumB_append (f.take (k + 1)) (f.drop (k + 1))
            rw [List.take_append_drop] at this
            omega
          rw [HSS.out] at hsle
          obtain ⟨v, hv⟩ := getElem?_of_lt (l := vs) (k := k) (by rw [HVL.out]; exact hlt)
          have HSF := Lib.hid (fitV_step hx hv)
          have hvv : signO x.t (valB (bitsAt b (sumB (f.take k)) (bitsO x.t))) = v := by
            have h1 := readV_take b hx
            have h2 : (readV b (f.take (k + 1)) 0)[k]? = some (signO x.t (valB (bitsAt b (sumB (f.take k)) (bitsO x.t)))) := by
              rw [h1, List.getElem?_append_right (by rw [readV_length, List.length_take, HFN.out]; omega), readV_length, List.length_take, HFN.out, show k - min k nf = 0 by omega]
              rfl
            have h3 : vs = readV b (f.take (k + 1)) 0 ++ readV b (f.drop (k + 1)) (0 + sumB (f.take (k + 1))) := by
              rw [← HVS.out, ← readV_append, List.take_append_drop]
            rw [h3, List.getElem?_append_left (by rw [readV_length, List.length_take, HFN.out]; omega), h2] at hv
            exact Option.some.inj hv
          obtain ⟨s, hs⟩ : ∃ s, sumB (f.take k) = s := ⟨_, rfl⟩
          rw [hs] at HST HRT hsle hvv ⊢
          have hbo32 := bitsO_le x.t
          obtain ⟨bo, hbo⟩ : ∃ bo, bitsO x.t = bo := ⟨_, rfl⟩
          obtain ⟨kd, hkd⟩ : ∃ kd, kindOf x.t = kd := ⟨_, rfl⟩
          have hkr : -2147483648 ≤ kd.lo ∧ kd.hi ≤ 4294967295 := by
            rcases kind_cases x.t with h | h | h | h | h | h | h | h <;> rw [hkd] at h <;> rw [h.1] <;> simp
          have HSGN : Hid (∀ z, signO x.t z = if kd.lo < 0 ∧ kd.hi < z then z - 2 ^ bo else z) := by
            intro z
            unfold signO
            rw [hkd, hbo]
          rw [hbo] at HST HRT hsle hbo32 hvv
          have HVV := Lib.hid hvv
          have HBO := Lib.hid hbo
          have HKD := Lib.hid hkd
          obtain ⟨hkr1, hkr2⟩ := hkr
          obtain ⟨bb, off, rfl, hbl, c0, c1, c2, c3, c4, c5, c6, c7, c8⟩ := (HRF.out.below HBr.out (Nat.le_refl _)).ob hx
          obtain ⟨rs, hrs⟩ : ∃ rs, readV b (f.take k) 0 = rs := ⟨_, rfl⟩
          rw [hrs] at HO HRT
          clear hx hbo hs hrs hv hvv hkd
          go_upto_region 16 with (fail)
          obtain ⟨W, hW⟩ : ∃ W, wr.alloc (.cells #[.int .i64 x.i, .int .i64 x.s, .int .i64 x.t, .int .i64 x.a, .int .i64 x.lo, .int .i64 x.hi, .int .i64 x.v, .bool x.mp, .bool x.hd] 52) = W := ⟨_, rfl⟩
          have HOW : Hid (W.ownsRow w1.heap.size 3 1 u12 k (icells rs)) := by rw [← hW]; exact HO.out.alloc _
          have HBW : Hid (Below w1.heap.size w1 W) := by rw [← hW]; exact HBr.out.alloc hsr _
          have m2 : W.cell? ⟨wr.heap.size, 2, none⟩ = some (.int .i64 x.t) := by rw [← hW]; exact cell_new_at _ _ _ _ _ _ rfl rfl
          have m4 : W.cell? ⟨wr.heap.size, 4, none⟩ = some (.int .i64 x.lo) := by rw [← hW]; exact cell_new_at _ _ _ _ _ _ rfl rfl
          have m5 : W.cell? ⟨wr.heap.size, 5, none⟩ = some (.int .i64 x.hi) := by rw [← hW]; exact cell_new_at _ _ _ _ _ _ rfl rfl
          have hsW := HBW.out.size
          have HB15 : Hid (Rd W w1.heap.size B (kcells .u8 b)) := HB1.out.below HBW.out (Nat.le_refl _)
          rw [hW]
          clear hW c0 c1 c2 c3 c4 c5 c6 c7 c8 HO HBr hsr
          generalize wr.heap.size = B1 at *
          go_wp2_with (fail)
          (with_reducible refine (refbits_any x.t W).mono ?_)
          rintro e1 w5 ⟨rfl, rfl⟩
          rw [HBO.out]
          go_wp2
          go_loopw [13, 16, 58] (fun a v i wr => ∃ j a0 : Nat, ∃ V : Int, j ≤ bo ∧ i = .int .i64 j ∧ a = .int .i64 a0 ∧ a0 = s + j ∧ v = .int .i64 V ∧ V = valB (bitsAt b s j) ∧ W = wr) (fun _ _ i _ => bo - (intOf i).toNat)
          case atStart => exact ⟨0, s, 0, Nat.zero_le _, rfl, rfl, rfl, rfl, by simp [bitsAt, valB], rfl⟩
          case round =>
            obtain ⟨j, a0, V, hj, rfl, rfl, ha0, rfl, hV, rfl⟩ := hrel
            have HV := Lib.hid hV
            by_cases hlt : j < bo
            · obtain ⟨r1, r2, r3, r4⟩ := read_step b s j (by omega)
              rw [← ha0, ← hV] at r1 r2
              have hbin := bitOf_bin b a0
              have HA0 := Lib.hid ha0
              have a0l : a0 < 300 := by omega
              have HBIT := Lib.hid (bit_any B m e w1.heap.size b a0 W HB15.out HM.out (by omega) (by omega) HRB.out)
              obtain ⟨V', hV'⟩ : ∃ V', valB (bitsAt b s (j + 1)) = V' := ⟨_, rfl⟩
              rw [hV'] at r1 r2 r3 r4
              have HV' := Lib.hid hV'
              have hvr := valB_range (bitsAt_bin b s j)
              rw [bitsAt_length, ← hV] at hvr
              obtain ⟨hvr0, _⟩ := hvr
              generalize bitOf b a0 = z at *
              clear hV hV' ha0
              go_wp2_with (fail)
              (with_reducible refine HBIT.out.mono ?_)
              rintro e2 w2 ⟨rfl, rfl⟩
              go_wp2
              go_roundw
              case rel => exact ⟨j + 1, a0 + 1, V', by omega, by go_num, by push_cast; rfl, by rw [HA0.out]; omega, by first | rfl | (congr 1), HV'.out.symm, by first | rfl | trivial⟩
              case measure => simp [intOf]; omega
            · have hjb : j = bo := by omega
              subst hjb
              have HA0 := Lib.hid ha0
              have hvr := valB_range (bitsAt_bin b s j)
              rw [bitsAt_length, ← hV] at hvr
              have hp1 : ((2 : Int) ^ j) = ((2 ^ j : Nat) : Int) := by push_cast; rfl
              have hp2 : 2 ^ j ≤ 2 ^ 32 := Nat.pow_le_pow_right (by omega) (by omega)
              have hv0 := hvr.1
              have hv1 : V < 4294967296 := by omega
              obtain ⟨pw, hpw⟩ : ∃ pw : Int, (2 : Int) ^ j = pw := ⟨_, rfl⟩
              have hpwr : 0 ≤ pw ∧ pw ≤ 4294967296 := by omega
              obtain ⟨hpw0, hpw1⟩ := hpwr
              have hsv : v = if kd.lo < 0 ∧ kd.hi < V then V - pw else V := by rw [← HVV.out, ← HV.out, HSGN.out, hpw]
              clear hV ha0 hvr hp1 hp2
              go_wp2_with (fail)
              (with_reducible refine (lim_any x.t W).mono ?_)
              rintro e6 w6 ⟨rfl, rfl⟩
              rw [HKD.out]
              simp only [limV]
              by_cases g1 : kd.lo < 0
              · by_cases g2 : kd.hi < V
                · rw [if_pos ⟨g1, g2⟩] at hsv
                  have HSV := Lib.hid hsv
                  have hvb : v < 4294967296 ∧ -4294967297 < v := by omega
                  obtain ⟨hvb1, hvb2⟩ := hvb
                  have hvw : V - pw = v := hsv.symm
                  clear hsv
                  go_wp2_with (fail)
                  (with_reducible refine (refbits_any x.t W).mono ?_)
                  rintro e7 w7 ⟨rfl, rfl⟩
                  rw [HBO.out]
                  by_cases l1 : v < x.lo
                  · have HM1 : Hid (fitV f vs = false) := by
                      rw [Hid, ← HF.out, HSF.out]
                      simp; omega
                    have hp := HP2.out
                    rw [if_pos HM1.out] at hp
                    simp only [Prod.mk.injEq] at hp
                    obtain ⟨rfl, rfl⟩ := hp
                    go_wp2
                    go_ret2
                    first | exact ⟨none, 0, rfl, Nat.le_refl _, Nat.zero_le _, fun h => absurd rfl h, HB.out.trans (HBW.out.mono hs1)⟩ | exact ⟨none, 0, rfl, Nat.zero_le _, fun h => absurd rfl h, HB.out.trans (HBW.out.mono hs1)⟩
                  by_cases l2 : x.hi < v
                  · have HM1 : Hid (fitV f vs = false) := by
                      rw [Hid, ← HF.out, HSF.out]
                      simp; omega
                    have hp := HP2.out
                    rw [if_pos HM1.out] at hp
                    simp only [Prod.mk.injEq] at hp
                    obtain ⟨rfl, rfl⟩ := hp
                    go_wp2
                    go_ret2
                    first | exact ⟨none, 0, rfl, Nat.le_refl _, Nat.zero_le _, fun h => absurd rfl h, HB.out.trans (HBW.out.mono hs1)⟩ | exact ⟨none, 0, rfl, Nat.zero_le _, fun h => absurd rfl h, HB.out.trans (HBW.out.mono hs1)⟩
                  have HF2 : Hid (fitV (f.drop (k + 1)) (vs.drop (k + 1)) = fitV f vs) := by
                    rw [Hid, ← HF.out, HSF.out]
                    have : decide (x.lo ≤ v ∧ v ≤ x.hi) = true := by simp; omega
                    rw [this]; simp
                  go_wp2_with (at_builtin; refine wpList_append_own _ rfl _ _ 65 rfl w1.heap.size 3 i3 (.int .i64 0) 1 8 Try.underlying65 hi3 hz30 hz31 hz32 rfl (by omega) _ _ _ rfl (HOW.out.alloc _) ⟨W.heap.size, 0, none⟩ 1 1 [.int .i64 v] rfl rfl (cell_one_new _ _ _) (by simp [Value.oneCell']) (by unfold maxLen; omega) (by omega) (by simp; omega) ?_)
                  intro v' w8 hown8 hgrow8 _
                  have HO8 : Hid (w8.ownsRow w1.heap.size 3 1 v' (k + 1) (icells (readV b (f.take (k + 1)) 0))) := by
                    rw [HRT.out, HVV.out, icells_append]
                    exact hown8
                  have HB8 : Hid (Below w1.heap.size w1 w8) := (HBW.out.alloc hsW _).grown hgrow8 (by simp; omega) (fun k hk => (HOW.out.lt k hk).1)
                  clear hown8 hgrow8
                  go_wp2
                  go_roundw
                  case rel => exact ⟨k + 1, by omega, by go_num, by rw [HA0.out, HST.out], HF2.out, HO8.out, HB8.out⟩
                  case measure => simp [intOf]; omega
                · rw [if_neg (fun h => g2 h.2)] at hsv
                  subst hsv
                  by_cases l1 : v < x.lo
                  · have HM1 : Hid (fitV f vs = false) := by
                      rw [Hid, ← HF.out, HSF.out]
                      simp; omega
                    have hp := HP2.out
                    rw [if_pos HM1.out] at hp
                    simp only [Prod.mk.injEq] at hp
                    obtain ⟨rfl, rfl⟩ := hp
                    go_wp2
                    go_ret2
                    first | exact ⟨none, 0, rfl, Nat.le_refl _, Nat.zero_le _, fun h => absurd rfl h, HB.out.trans (HBW.out.mono hs1)⟩ | exact ⟨none, 0, rfl, Nat.zero_le _, fun h => absurd rfl h, HB.out.trans (HBW.out.mono hs1)⟩
                  by_cases l2 : x.hi < v
                  · have HM1 : Hid (fitV f vs = false) := by
                      rw [Hid, ← HF.out, HSF.out]
                      simp; omega
                    have hp := HP2.out
                    rw [if_pos HM1.out] at hp
                    simp only [Prod.mk.injEq] at hp
                    obtain ⟨rfl, rfl⟩ := hp
                    go_wp2
                    go_ret2
                    first | exact ⟨none, 0, rfl, Nat.le_refl _, Nat.zero_le _, fun h => absurd rfl h, HB.out.trans (HBW.out.mono hs1)⟩ | exact ⟨none, 0, rfl, Nat.zero_le _, fun h => absurd rfl h, HB.out.trans (HBW.out.mono hs1)⟩
                  have HF2 : Hid (fitV (f.drop (k + 1)) (vs.drop (k + 1)) = fitV f vs) := by
                    rw [Hid, ← HF.out, HSF.out]
                    have : decide (x.lo ≤ v ∧ v ≤ x.hi) = true := by simp; omega
                    rw [this]; simp
                  go_wp2_with (at_builtin; refine wpList_append_own _ rfl _ _ 65 rfl w1.heap.size 3 i3 (.int .i64 0) 1 8 Try.underlying65 hi3 hz30 hz31 hz32 rfl (by omega) _ _ _ rfl (HOW.out.alloc _) ⟨W.heap.size, 0, none⟩ 1 1 [.int .i64 v] rfl rfl (cell_one_new _ _ _) (by simp [Value.oneCell']) (by unfold maxLen; omega) (by omega) (by simp; omega) ?_)
                  intro v' w8 hown8 hgrow8 _
                  have HO8 : Hid (w8.ownsRow w1.heap.size 3 1 v' (k + 1) (icells (readV b (f.take (k + 1)) 0))) := by
                    rw [HRT.out, HVV.out, icells_append]
                    exact hown8
                  have HB8 : Hid (Below w1.heap.size w1 w8) := (HBW.out.alloc hsW _).grown hgrow8 (by simp; omega) (fun k hk => (HOW.out.lt k hk).1)
                  clear hown8 hgrow8
                  go_wp2
                  go_roundw
                  case rel => exact ⟨k + 1, by omega, by go_num, by rw [HA0.out, HST.out], HF2.out, HO8.out, HB8.out⟩
                  case measure => simp [intOf]; omega
              · rw [if_neg (fun h => g1 h.1)] at hsv
                subst hsv
                by_cases l1 : v < x.lo
                · have HM1 : Hid (fitV f vs = false) := by
                    rw [Hid, ← HF.out, HSF.out]
                    simp; omega
                  have hp := HP2.out
                  rw [if_pos HM1.out] at hp
                  simp only [Prod.mk.injEq] at hp
                  obtain ⟨rfl, rfl⟩ := hp
                  go_wp2
                  go_ret2
                  first | exact ⟨none, 0, rfl, Nat.le_refl _, Nat.zero_le _, fun h => absurd rfl h, HB.out.trans (HBW.out.mono hs1)⟩ | exact ⟨none, 0, rfl, Nat.zero_le _, fun h => absurd rfl h, HB.out.trans (HBW.out.mono hs1)⟩
                by_cases l2 : x.hi < v
                · have HM1 : Hid (fitV f vs = false) := by
                    rw [Hid, ← HF.out, HSF.out]
                    simp; omega
                  have hp := HP2.out
                  rw [if_pos HM1.out] at hp
                  simp only [Prod.mk.injEq] at hp
                  obtain ⟨rfl, rfl⟩ := hp
                  go_wp2
                  go_ret2
                  first | exact ⟨none, 0, rfl, Nat.le_refl _, Nat.zero_le _, fun h => absurd rfl h, HB.out.trans (HBW.out.mono hs1)⟩ | exact ⟨none, 0, rfl, Nat.zero_le _, fun h => absurd rfl h, HB.out.trans (HBW.out.mono hs1)⟩
                have HF2 : Hid (fitV (f.drop (k + 1)) (vs.drop (k + 1)) = fitV f vs) := by
                  rw [Hid, ← HF.out, HSF.out]
                  have : decide (x.lo ≤ v ∧ v ≤ x.hi) = true := by simp; omega
                  rw [this]; simp
                go_wp2_with (at_builtin; refine wpList_append_own _ rfl _ _ 65 rfl w1.heap.size 3 i3 (.int .i64 0) 1 8 Try.underlying65 hi3 hz30 hz31 hz32 rfl (by omega) _ _ _ rfl (HOW.out.alloc _) ⟨W.heap.size, 0, none⟩ 1 1 [.int .i64 v] rfl rfl (cell_one_new _ _ _) (by simp [Value.oneCell']) (by unfold maxLen; omega) (by omega) (by simp; omega) ?_)
                intro v' w8 hown8 hgrow8 _
                have HO8 : Hid (w8.ownsRow w1.heap.size 3 1 v' (k + 1) (icells (readV b (f.take (k + 1)) 0))) := by
                  rw [HRT.out, HVV.out, icells_append]
                  exact hown8
                have HB8 : Hid (Below w1.heap.size w1 w8) := (HBW.out.alloc hsW _).grown hgrow8 (by simp; omega) (fun k hk => (HOW.out.lt k hk).1)
                clear hown8 hgrow8
                go_wp2
                go_roundw
                case rel => exact ⟨k + 1, by omega, by go_num, by rw [HA0.out, HST.out], HF2.out, HO8.out, HB8.out⟩
                case measure => simp [intOf]; omega
        · have hkn : k = nf := by omega
          subst hkn
          have t1 : f.take k = f := List.take_of_length_le (by rw [HFN.out]; omega)
          have HM1 : Hid (fitV f vs = true) := by
            rw [Hid, ← HF.out, ← HFN.out]
            exact fitV_end
          have hp := HP2.out
          rw [if_neg (by simp [HM1.out])] at hp
          simp only [Prod.mk.injEq] at hp
          obtain ⟨rfl, rfl⟩ := hp
          rw [t1, HVS.out] at HO
          obtain ⟨Ar, cr, rfl, hr1, hr2, hr⟩ := own_read HO.out
          have HR := Lib.hid hr
          have HBF : Hid (Below w.heap.size w wr) := HB.out.trans (HBr.out.mono hs1)
          clear hr HO t1
          go_wp2
          go_ret2
          exact ⟨Ar, cr, by rw [HVL.out]; rfl, by rw [HVL.out]; exact hr1, hr2, HR.out, HBF.out⟩
end Go.Proofs.Yteooabcgojadcaa
