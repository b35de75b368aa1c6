/-
  The reference's Pack.
-/
import Derived.Test.YteooabcgojadcaaW19
import Derived.Test.YteooabcgojadcaaW32
namespace Go.Proofs.Yteooabcgojadcaa
open Go.RowKit
set_option linter.unusedVariables false

set_option maxRecDepth 100000 in
set_option maxHeartbeats 8000000 in
theorem refPack_any (A A' A'' : Option Addr) (n c n' c' n'' c'' : Nat) (l : List Ob) (m : List It) (vs : List Int) (w : World) (hA : Rd w w.heap.size A (ocells l)) (hn : l.length = n) (hc : n ≤ c) (hcc : c ≤ maxLen)
    (hA' : Rd w w.heap.size A' (mcells m)) (hn' : m.length = n') (hc' : n' ≤ c') (hcc' : c' ≤ maxLen) (hA'' : Rd w w.heap.size A'' (icells vs)) (hn'' : vs.length = n'') (hc'' : n'' ≤ c'') (hcc'' : c'' ≤ maxLen) :
    Calls Try.prog 41 #[.slice A n c, .slice A' n' c', .slice A'' n'' c''] w fun e w' => ∃ Ar cr, e = .returned (.tuple #[.slice Ar (packO l m vs).1.length cr, (.int .i64 (packO l m vs).2)]) ∧ (packO l m vs).1.length ≤ cr ∧ cr ≤ maxLen ∧
      Rd w' w'.heap.size Ar (kcells .u8 (packO l m vs).1) ∧ Below w.heap.size w w' := by
  obtain ⟨p, hp⟩ : ∃ p, packO l m vs = p := ⟨_, rfl⟩
  rw [hp]
  obtain ⟨r, pe⟩ := p
  simp only
  have HFIND := Lib.hid (reffind_no A A' n c n' c' l m false w hA hn hc hcc hA' hn' hc' hcc')
  have HA := Lib.hid hA
  have HV := Lib.hid hA''
  have HNV := Lib.hid hn''
  have h1 := ne_nil
  have h2 := ne_err
  have hcm := hcc''
  unfold maxLen at hcm
  obtain ⟨i5, hi5, hz50, hz51, hz52⟩ := info_parts info5
  unfold packO at hp
  obtain ⟨q, hq⟩ : ∃ q, findM l noChk m = q := ⟨_, rfl⟩
  rw [hq] at hp HFIND
  obtain ⟨f, ec⟩ := q
  have hok : ec = 0 → f.length ≤ 16 ∧ sumB f ≤ 256 ∧ f.length = n' := by
    intro h
    subst h
    obtain ⟨_, a, b, _, d⟩ := findM_ok hq
    exact ⟨by omega, d, by omega⟩
  unfold packQ at hp
  simp only at hp HFIND
  clear hA hn hcc hA' hn' hcc' hA'' hn'' hcc'' hq
  by_cases he : ec = 0
  case neg =>
    rw [if_pos he] at hp
    simp only [Prod.mk.injEq] at hp
    obtain ⟨rfl, rfl⟩ := hp
    have hne : (ec != 0) = true := by simp [he]
    clear he hok
    go_enter Try.func41, Try.ntmps41
    go_wp2_with (fail)
    (with_reducible refine HFIND.out.mono ?_)
    rintro e w1 ⟨Af, cf, rfl, hf1, hf2, hrf, hb⟩
    have HB := Lib.hid hb
    clear hb hrf HFIND
    generalize f.length = nf at *
    generalize sumB f = sf at *
    go_wp2
    go_ret2
    exact ⟨none, 0, rfl, Nat.le_refl _, Nat.zero_le _, fun h => absurd rfl h, HB.out⟩
  subst he
  rw [if_neg (by simp)] at hp
  obtain ⟨hnf, hsum, hlm⟩ := hok rfl
  clear hok
  obtain ⟨nf, hfn⟩ : ∃ nf, f.length = nf := ⟨_, rfl⟩
  rw [hfn] at hp hnf hlm
  subst hlm
  have HFN := Lib.hid hfn
  simp only [hfn] at HFIND
  clear hfn
  rw [HNV.out] at hp
  by_cases hlen : n'' = nf
  case neg =>
    rw [if_pos hlen] at hp
    simp only [Prod.mk.injEq] at hp
    obtain ⟨rfl, rfl⟩ := hp
    have hlen' : ((n'' : Int) != nf) = true := by simp; omega
    generalize sumB f = sf at *
    go_enter Try.func41, Try.ntmps41
    go_wp2_with (fail)
    (with_reducible refine HFIND.out.mono ?_)
    rintro e w1 ⟨Af, cf, rfl, hf1, hf2, hrf, hb⟩
    have HB := Lib.hid hb
    clear hb hrf HFIND
    go_wp2
    go_ret2
    exact ⟨none, 0, rfl, Nat.le_refl _, Nat.zero_le _, fun h => absurd rfl h, HB.out⟩
  subst hlen
  rw [if_neg (by simp)] at hp
  have hlen' : ((n'' : Int) != n'') = false := by simp
  have HP := Lib.hid hp
  clear hp
  go_enter Try.func41, Try.ntmps41
  go_wp2_with (fail)
  (with_reducible refine HFIND.out.mono ?_)
  rintro e w1 ⟨Af, cf, rfl, hf1, hf2, hrf, hb⟩
  have HB := Lib.hid hb
  have HRF := Lib.hid hrf
  have hs1 := hb.size
  have HV1 : Hid (Rd w1 w1.heap.size A'' (icells vs)) := (HV.out.below hb (Nat.le_refl _)).more hs1
  clear hb hrf HFIND HA HV
  unfold maxLen at hf2
  obtain ⟨N, hN⟩ : ∃ N, (sumB f + 7) / 8 = N := ⟨_, rfl⟩
  obtain ⟨S, hS⟩ : ∃ S, sumB f = S := ⟨_, rfl⟩
  have HSS := Lib.hid hS
  rw [hS] at hN hsum HP ⊢
  rw [hN] at HP
  have hN32 : N ≤ 32 := by omega
  have HN : Hid (S ≤ 8 * N) := by show _ ≤ _; omega
  have q1 : ((S : Int) + 7) / 8 = N := by omega
  have q2 : ((S : Int) + 7).tdiv 8 = N := by rw [Int.tdiv_eq_ediv_of_nonneg (by omega)]; exact q1
  have HBW2 : Hid (Below w.heap.size w w1) := HB
  have HFR2 : Hid (Rd w1 w1.heap.size Af (ocells f)) := HRF
  have HVR2 : Hid (Rd w1 w1.heap.size A'' (icells vs)) := HV1
  generalize w1 = w2 at *
  have hsw2 := HBW2.out.size
  clear HB HRF HV1 hN hS
  go_wp2_with (at_make; refine wpList_make_full _ rfl _ _ 35 rfl w2.heap.size 5 i5 (.int .u8 0) 1 Try.underlying35 hi5 hz50 hz51 .i64 .i64 (N : Int) (N : Int) N rfl rfl rfl rfl ?c1 ?c2 ?c3 ?_)
  case c1 => rw [hz52]; omega
  case c2 => unfold maxLen; omega
  case c3 => exact Nat.le_refl _
  intro w3 hown hgrow
  have HO3 : Hid (w3.ownsRow w2.heap.size 5 1 (.slice (some ⟨w2.heap.size, 0, none⟩) N N) N (kcells .u8 (packB [] N))) := by
    rw [packB_nil, ← made_k, Nat.mul_one]
    exact hown
  have HB3 : Hid (Below w2.heap.size w2 w3) := (Below.refl _ _).grown hgrow (Nat.le_refl _) (fun k hk => by cases hk)
  clear hown hgrow
  go_wp2
  go_loopw [12, 37] (fun a i wr => ∃ k' : Nat, k' ≤ n'' ∧ fitV (f.drop k') (vs.drop k') = fitV f vs ∧ i = .int .i64 k' ∧ a = .int .i64 (sumB (f.take k') : Nat) ∧ wr.ownsRow w2.heap.size 5 1 (.slice (some ⟨w2.heap.size, 0, none⟩) N N) N (kcells .u8 (packB (laidB (f.take k') (vs.take k')) N)) ∧ Below w2.heap.size w2 wr) (fun _ i _ => n'' - (intOf i).toNat)
  case atStart => exact ⟨0, Nat.zero_le _, rfl, rfl, rfl, HO3.out, HB3.out⟩
  case round =>
    obtain ⟨k', hk', hF, rfl, rfl, hO, hBr⟩ := hrel
    have HF := Lib.hid hF
    have HO := Lib.hid hO
    have HBr := Lib.hid hBr
    have hsr := hBr.size
    have hlr : w2.heap.size < wr.heap.size := (hO.lt _ rfl).2
    clear hO hBr hF
    by_cases hlt : k' < n''
    · obtain ⟨x, hx⟩ := getElem?_of_lt (l := f) (k := k') (by rw [HFN.out]; exact hlt)
      obtain ⟨v, hv⟩ := getElem?_of_lt (l := vs) (k := k') (by rw [HNV.out]; exact hlt)
      have HST := Lib.hid (sumB_take hx)
      have hsle : sumB (f.take k') + bitsO x.t ≤ sumB f := by
        rw [← sumB_take hx]
        have := sumB_append (f.take (k' + 1)) (f.drop (k' + 1))
        rw [List.take_append_drop] at this
        omega
      have HLT := Lib.hid (laidB_take (by rw [HNV.out, HFN.out]) hx hv)
      have HLL : Hid ((laidB (f.take k') (vs.take k')).length = sumB (f.take k')) := laidB_length _ _ (by rw [List.length_take, List.length_take, HNV.out, HFN.out])
      have HBIN := Lib.hid (laidB_bin (f.take k') (vs.take k'))
      have hNN : S ≤ 8 * N := HN.out
      obtain ⟨bs, hbs⟩ : ∃ bs, laidB (f.take k') (vs.take k') = bs := ⟨_, rfl⟩
      rw [hbs] at HLT HLL HBIN HO
      obtain ⟨s, hs⟩ : ∃ s, sumB (f.take k') = s := ⟨_, rfl⟩
      rw [hs] at HST HLL hsle ⊢
      obtain ⟨bo, hbo⟩ : ∃ bo, bitsO x.t = bo := ⟨_, rfl⟩
      have hbo32 := bitsO_le x.t
      rw [hbo] at HST HLT hsle hbo32
      have HBO := Lib.hid hbo
      rw [HSS.out] at hsle
      obtain ⟨b, off, rfl, hbl, c0, c1, c2, c3, c4, c5, c6, c7, c8⟩ := (HFR2.out.below HBr.out (Nat.le_refl _)).ob hx
      obtain ⟨b', off', rfl, hbl', d0⟩ := (HVR2.out.below HBr.out (Nat.le_refl _)).int hv
      have hb1 : b < wr.heap.size := by omega
      have hb2 : b' < wr.heap.size := by omega
      have HVV := Lib.hid hv
      have HSF := Lib.hid (fitV_step hx hv)
      clear hx hv hbo hbs hs
      by_cases hr1 : v < x.lo
      · have HM : Hid (fitV f vs = false) := by
          rw [Hid, ← HF.out, HSF.out]
          simp; omega
        have hp := HP.out
        rw [if_pos HM.out] at hp
        simp only [Prod.mk.injEq] at hp
        obtain ⟨rfl, rfl⟩ := hp
        go_wp2
        go_quiet (fail)
        go_wp2
        go_ret2
        exact ⟨none, 0, rfl, Nat.le_refl _, Nat.zero_le _, fun h => absurd rfl h, Below.drewN ((HBW2.out.trans (HBr.out.mono hsw2)).alloc (by omega) _) _⟩
      by_cases hr2 : x.hi < v
      · have HM : Hid (fitV f vs = false) := by
          rw [Hid, ← HF.out, HSF.out]
          simp; omega
        have hp := HP.out
        rw [if_pos HM.out] at hp
        simp only [Prod.mk.injEq] at hp
        obtain ⟨rfl, rfl⟩ := hp
        go_wp2
        go_quiet (fail)
        go_wp2
        go_ret2
        exact ⟨none, 0, rfl, Nat.le_refl _, Nat.zero_le _, fun h => absurd rfl h, Below.drewN ((HBW2.out.trans (HBr.out.mono hsw2)).alloc (by omega) _) _⟩
      have HF2 : Hid (fitV (f.drop (k' + 1)) (vs.drop (k' + 1)) = fitV f vs) := by
        rw [Hid, ← HF.out, HSF.out]
        have : decide (x.lo ≤ v ∧ v ≤ x.hi) = true := by simp; omega
        rw [this]; simp
      go_upto_region 11 with (fail)
      obtain ⟨W, hW⟩ : ∃ W, wr.alloc (.cells #[.int .i64 x.i, .int .i64 x.s, .int .i64 x.t, .int .i64 x.a, .int .i64 x.lo, .int .i64 x.hi, .int .i64 x.v, .bool x.mp, .bool x.hd] 52) = W := ⟨_, rfl⟩
      have HOW : Hid (W.ownsRow w2.heap.size 5 1 (.slice (some ⟨w2.heap.size, 0, none⟩) N N) N (kcells .u8 (packB bs N))) := by rw [← hW]; exact HO.out.alloc _
      have HBW : Hid (Below w2.heap.size w2 W) := by rw [← hW]; exact HBr.out.alloc hsr _
      have m2 : W.cell? ⟨wr.heap.size, 2, none⟩ = some (.int .i64 x.t) := by rw [← hW]; exact cell_new_at _ _ _ _ _ _ rfl rfl
      have m4 : W.cell? ⟨wr.heap.size, 4, none⟩ = some (.int .i64 x.lo) := by rw [← hW]; exact cell_new_at _ _ _ _ _ _ rfl rfl
      have m5 : W.cell? ⟨wr.heap.size, 5, none⟩ = some (.int .i64 x.hi) := by rw [← hW]; exact cell_new_at _ _ _ _ _ _ rfl rfl
      have d0' : W.cell? ⟨b', off' + k', none⟩ = some (.int .i64 v) := by rw [← hW]; exact (((Below.refl wr.heap.size wr).alloc (Nat.le_refl _) _).cell (p := ⟨b', off' + k', none⟩) hb2).trans d0
      have hsW := HBW.out.size
      rw [hW]
      clear hW c0 c1 c2 c3 c4 c5 c6 c7 c8 HO HBr d0 hb1 hb2 hlr hsr
      generalize wr.heap.size = B1 at *
      go_quiet (fail)
      go_upto_region 13 with (fail)
      have HO5 : Hid ((W.drewN nq).ownsRow w2.heap.size 5 1 (.slice (some ⟨w2.heap.size, 0, none⟩) N N) N (kcells .u8 (packB bs N))) := own_below HOW.out (Below.drewN (Below.refl _ _) nq)
      have HB5 : Hid (Below w2.heap.size w2 (W.drewN nq)) := Below.drewN HBW.out nq
      have m2' : (W.drewN nq).cell? ⟨B1, 2, none⟩ = some (.int .i64 x.t) := m2
      generalize W.drewN nq = w5 at *
      clear m2 m4 m5 d0' HOW HBW hsW
      go_wp2_with (fail)
      (with_reducible refine (refbits_any x.t w5).mono ?_)
      rintro e w5' ⟨rfl, rfl⟩
      rw [HBO.out]
      clear m2'
      go_wp2
      go_loopw [12, 61] (fun a i wr => ∃ j a0 : Nat, j ≤ bo ∧ i = .int .i64 j ∧ a = .int .i64 a0 ∧ a0 = s + j ∧ wr.ownsRow w2.heap.size 5 1 (.slice (some ⟨w2.heap.size, 0, none⟩) N N) N (kcells .u8 (packB (bs ++ bitsN v j) N)) ∧ Below w2.heap.size w2 wr) (fun _ i _ => bo - (intOf i).toNat)
      case atStart => exact ⟨0, s, Nat.zero_le _, rfl, rfl, rfl, by simpa [bitsN] using HO5.out, HB5.out⟩
      case round =>
        obtain ⟨j, a0, hj, rfl, rfl, ha0, hO, hBr⟩ := hrel
        have HO := Lib.hid hO
        have HBr := Lib.hid hBr
        have hsr := hBr.size
        have HA0 := Lib.hid ha0
        by_cases hlt : j < bo
        · obtain ⟨a8, h8⟩ : ∃ a8, a0 / 8 = a8 := ⟨_, rfl⟩
          obtain ⟨am, hm⟩ : ∃ am, a0 % 8 = am := ⟨_, rfl⟩
          have h8N : a8 < N := by omega
          have hm8 : am < 8 := by omega
          have q1 : (a0 : Int) / 8 = a8 := by omega
          have q2 : (a0 : Int).tdiv 8 = a8 := by rw [Int.tdiv_eq_ediv_of_nonneg (by omega)]; exact q1
          have q3 : (a0 : Int) % 8 = am := by omega
          have q4 : (a0 : Int).tmod 8 = am := by rw [Int.tmod_eq_emod_of_nonneg (by omega)]; exact q3
          have a0l : a0 < 256 := by omega
          have HBB : Hid (Bin (bs ++ bitsN v j)) := by
            intro y hy
            rcases List.mem_append.1 hy with h | h
            · exact HBIN.out y h
            · exact bitsN_bin _ _ y h
          have HLB : Hid ((bs ++ bitsN v j).length = a0) := by rw [Hid, List.length_append, HLL.out, bitsN_length, ha0]
          have HPS : Hid (packB (bs ++ bitsN v (j + 1)) N = (packB (bs ++ bitsN v j) N).set a8 (byteAt (bs ++ bitsN v j) a8 + v / 2 ^ j % 2 * 2 ^ am)) := by
            have := pack_step HBB.out (v / 2 ^ j % 2) (N := N) HLB.out
            rw [List.append_assoc, ← bitsN_succ, h8, hm] at this
            exact this
          have HY : Hid (0 ≤ byteAt (bs ++ bitsN v j) a8 ∧ byteAt (bs ++ bitsN v j) a8 < 2 ^ am) := by
            have := (byteAt_at HBB.out 0).2
            rw [HLB.out, h8, hm] at this
            exact this
          have f0 : wr.cell? ⟨w2.heap.size, a8, none⟩ = some (.int .u8 (byteAt (bs ++ bitsN v j) a8)) := own_k (packB_length _ _) HO.out (packB_get _ h8N)
          have f1 : wr.frozen? ⟨w2.heap.size, a8, none⟩ = false := HO.out.frozenAt _
          have d1 : wr.cell? ⟨b', off' + k', none⟩ = some (.int .i64 v) := by
            obtain ⟨b2, o2, he, _, d1⟩ := (HVR2.out.below HBr.out (Nat.le_refl _)).int HVV.out
            obtain ⟨rfl, rfl⟩ : b' = b2 ∧ off' = o2 := by simpa using he
            exact d1
          generalize byteAt (bs ++ bitsN v j) a8 = y at *
          clear h8 hm ha0 hO hBr
          go_upto_region 16 with (fail)
          go_region
          have hz : v / 2 ^ j % 2 = 0 ∨ v / 2 ^ j % 2 = 1 := by omega
          obtain ⟨u1, u2, u3⟩ := u8_or_join y (v / 2 ^ j % 2) am HY.out.1 HY.out.2 hz hm8
          have e1 : bits .or .u8 y (bits .and .i64 (v / 2 ^ j) 1 % 256 * 2 ^ am % 256) = y + v / 2 ^ j % 2 * 2 ^ am := by
            rw [i64_and_one, Int.emod_eq_of_lt (by omega) (by omega : v / 2 ^ j % 2 < 256), Int.emod_eq_of_lt u2 u3, u1]
          rw [e1]
          have HO2 : Hid ((wr.setCell ⟨w2.heap.size, a8, none⟩ (.int .u8 (y + v / 2 ^ j % 2 * 2 ^ am))).drew.ownsRow w2.heap.size 5 1 (.slice (some ⟨w2.heap.size, 0, none⟩) N N) N (kcells .u8 (packB (bs ++ bitsN v (j + 1)) N))) := by
            rw [HPS.out]
            exact own_below (own_set_k HO.out a8 _) (Below.drew (Below.refl _ _))
          have HB2 : Hid (Below w2.heap.size w2 (wr.setCell ⟨w2.heap.size, a8, none⟩ (.int .u8 (y + v / 2 ^ j % 2 * 2 ^ am))).drew) :=
            Below.drew (HBr.out.setCell (p := ⟨w2.heap.size, a8, none⟩) (Nat.le_refl _) _)
          generalize (wr.setCell ⟨w2.heap.size, a8, none⟩ (.int .u8 (y + v / 2 ^ j % 2 * 2 ^ am))).drew = W3 at *
          clear u1 u2 u3 hz e1 f0 f1 d1
          go_wp2
          go_roundw
          case rel => exact ⟨j + 1, a0 + 1, by omega, by go_num, by push_cast; rfl, by rw [HA0.out]; omega, HO2.out, HB2.out⟩
          case measure => simp [intOf]; omega
        · have hjb : j = bo := by omega
          subst hjb
          have HO2 : Hid (wr.ownsRow w2.heap.size 5 1 (.slice (some ⟨w2.heap.size, 0, none⟩) N N) N (kcells .u8 (packB (laidB (f.take (k' + 1)) (vs.take (k' + 1))) N))) := by
            rw [HLT.out]
            exact HO.out
          clear hO hBr ha0
          go_wp2
          go_roundw
          case rel => exact ⟨k' + 1, by omega, HF2.out, by go_num, by rw [HA0.out, HST.out], HO2.out, HBr.out⟩
          case measure => simp [intOf]; omega
    · have hkn : k' = n'' := by omega
      subst hkn
      have HM : Hid (fitV f vs = true) := by
        rw [Hid, ← HF.out, ← HFN.out]
        exact fitV_end
      have hp := HP.out
      rw [if_neg (by simp [HM.out])] at hp
      simp only [Prod.mk.injEq] at hp
      obtain ⟨hpr, rfl⟩ := hp
      have HPR := Lib.hid hpr
      have t1 : f.take k' = f := List.take_of_length_le (by rw [HFN.out]; omega)
      have t2 : vs.take k' = vs := List.take_of_length_le (by rw [HNV.out]; omega)
      rw [t1, t2, HPR.out] at HO
      have hrl : r.length = N := by rw [← HPR.out, packB_length]
      obtain ⟨Ar, cr, hv, hr1, hr2, hr⟩ := own_read HO.out
      injection hv with e1 e2 e3
      subst e1 e3
      have HR := Lib.hid hr
      have HRL := Lib.hid hrl
      have HBB : Hid (Below w.heap.size w wr) := HBW2.out.trans (HBr.out.mono hsw2)
      clear hr hrl t1 t2 hpr
      go_wp2
      go_ret2
      exact ⟨_, N, by rw [HRL.out]; rfl, by rw [HRL.out]; exact Nat.le_refl _, hr2, HR.out, HBB.out⟩
end Go.Proofs.Yteooabcgojadcaa
