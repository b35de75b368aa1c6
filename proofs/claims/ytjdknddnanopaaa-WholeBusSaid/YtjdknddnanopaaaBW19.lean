
/-
  mapping.Pack.
-/
import Derived.Test.YtjdknddnanopaaaBW18
namespace Go.Proofs.Ytjdknddnanopaaa.Bus
open Go.RowKit
set_option linter.unusedVariables false

theorem made_k (k : IntKind) (n : Nat) : (madeCells #[.int k 0] (n * 1)).toList = kcells k (List.replicate n 0) := by
  apply List.ext_getElem?
  intro j
  simp only [madeCells, kcells, Array.toList_map, Array.toList_range, List.getElem?_map, Nat.mul_one]
  by_cases hj : j < n
  · rw [List.getElem?_range hj, List.getElem?_replicate, if_pos hj]
    simp
    rw [Nat.mod_one]
    rfl
  · rw [List.getElem?_eq_none (by simp; omega), List.getElem?_replicate, if_neg hj]
    rfl

/-- A cell of an owned row of integers. -/
theorem own_k {w : World} {base e g n cap : Nat} {ki : IntKind} {l : List Int} (hl : l.length = n) (h : w.ownsRow base e 1 (.slice (some ⟨g, 0, none⟩) n cap) n (kcells ki l)) {k : Nat} {x : Int} (hx : l[k]? = some x) : w.cell? ⟨g, k, none⟩ = some (.int ki x) := by
  have := (List.getElem?_eq_some_iff.1 hx).1
  rw [h.cellAt k (by omega)]
  simp [kcells, hx]

theorem own_set_k {w : World} {base e g n cap : Nat} {ki : IntKind} {l : List Int} (h : w.ownsRow base e 1 (.slice (some ⟨g, 0, none⟩) n cap) n (kcells ki l)) (k : Nat) (x : Int) :
    (w.setCell ⟨g, k, none⟩ (.int ki x)).ownsRow base e 1 (.slice (some ⟨g, 0, none⟩) n cap) n (kcells ki (l.set k x)) := by
  have : kcells ki (l.set k x) = (kcells ki l).set k (.int ki x) := by simp [kcells]
  rw [this]
  exact (h.stored k (.int ki x)).1

theorem ofInt_u8 (a : Nat) (ha : a < 256) : (BitVec.ofInt 8 (a : Int)).toNat = a := by
  rw [BitVec.ofInt_natCast, BitVec.toNat_ofNat]; exact Nat.mod_eq_of_lt (by omega)
theorem u8_or_nat (a b : Nat) (ha : a < 256) (hb : b < 256) : bits .or .u8 (a : Int) (b : Int) = ((a ||| b : Nat) : Int) := by
  have hx : a ||| b < 2 ^ 8 := Nat.or_lt_two_pow (by omega) (by omega)
  show IntKind.u8.wrap ((BitVec.ofInt 8 (a : Int) ||| BitVec.ofInt 8 (b : Int)).toNat : Int) = _
  rw [BitVec.toNat_or, ofInt_u8 a ha, ofInt_u8 b hb]
  show ((a ||| b : Nat) : Int) % 256 = _
  omega
theorem u8_and_one (a : Int) (h : 0 ≤ a ∧ a < 256) : bits .and .u8 a 1 = a % 2 := by
  obtain ⟨A, rfl⟩ := Int.eq_ofNat_of_zero_le h.1
  show IntKind.u8.wrap ((BitVec.ofInt 8 (A : Int) &&& BitVec.ofInt 8 1).toNat : Int) = _
  have e : (BitVec.ofInt 8 (1 : Int)).toNat = 1 := by decide
  rw [BitVec.toNat_and, e, Nat.and_one_is_mod, ofInt_u8 A (by omega)]
  show ((A % 2 : Nat) : Int) % 256 = _
  omega
/-- Or of bytes with no common bit. -/
theorem u8_or_join (a y : Int) (m : Nat) (ha0 : 0 ≤ a) (ha : a < 2 ^ m) (hy : y = 0 ∨ y = 1) (hm : m < 8) : bits .or .u8 a (y * 2 ^ m) = a + y * 2 ^ m ∧ 0 ≤ y * 2 ^ m ∧ y * 2 ^ m < 256 := by
  obtain ⟨A, rfl⟩ := Int.eq_ofNat_of_zero_le ha0
  have hy0 : 0 ≤ y := by omega
  obtain ⟨Y, rfl⟩ := Int.eq_ofNat_of_zero_le hy0
  have e2 : (Y : Int) * 2 ^ m = ((Y * 2 ^ m : Nat) : Int) := by push_cast; rfl
  have e3 : ((2 : Int) ^ m) = ((2 ^ m : Nat) : Int) := by push_cast; rfl
  rw [e2]
  rw [e3] at ha
  have hA : A < 2 ^ m := by omega
  have hp : 2 ^ m ≤ 2 ^ 7 := Nat.pow_le_pow_right (by omega) (by omega)
  have hY : Y = 0 ∨ Y = 1 := by omega
  have hs : Y * 2 ^ m < 256 := by rcases hY with rfl | rfl <;> omega
  refine ⟨?_, by omega, by omega⟩
  rw [u8_or_nat _ _ (by omega) hs, Nat.or_comm, nat_join m _ _ (Nat.mul_mod_left _ _) hA]
  push_cast
  omega

/-- One bit more is packed. -/
theorem pack_step {bs : List Int} (hb : Bin bs) (y : Int) {N at' : Nat} (h : bs.length = at') : packB (bs ++ [y]) N = (packB bs N).set (at' / 8) (byteAt bs (at' / 8) + y * 2 ^ (at' % 8)) := by
  subst h
  rw [packB_snoc, (byteAt_at hb y).1]

set_option maxRecDepth 100000 in
set_option maxHeartbeats 8000000 in
theorem Pack_any (A A' A'' : Option Addr) (n c n' c' n'' c'' : Nat) (l : List Ob) (m : List It) (vs : List Int) (w : World) (hA : Rd w w.heap.size A (ocells l)) (hn : l.length = n) (hc : n ≤ c) (hcc : c ≤ maxLen)
    (hA' : Rd w w.heap.size A' (mcells m)) (hn' : m.length = n') (hc' : n' ≤ c') (hcc' : c' ≤ maxLen) (hA'' : Rd w w.heap.size A'' (icells vs)) (hn'' : vs.length = n'') (hc'' : n'' ≤ c'') (hcc'' : c'' ≤ maxLen) :
    Calls Try.prog 47 #[.slice A n c, .slice A' n' c', .slice A'' n'' c''] w fun e w' => ∃ Ar cr, e = .returned (.tuple #[.slice Ar (packO l m vs).1.length cr, errV (packO l m vs).2]) ∧ (packO l m vs).1.length ≤ cr ∧ cr ≤ maxLen ∧
      Rd w' w'.heap.size Ar (kcells .u8 (packO l m vs).1) ∧ Below w.heap.size w w' := by
  obtain ⟨p, hp⟩ : ∃ p, packO l m vs = p := ⟨_, rfl⟩
  rw [hp]
  obtain ⟨r, pe⟩ := p
  simp only
  have HFIND := Lib.hid (find_nil A A' n c n' c' l m w hA hn hc hcc hA' hn' hc' hcc')
  have HA := Lib.hid hA
  have HV := Lib.hid hA''
  have HNV := Lib.hid hn''
  have h1 := ne_nil
  have h2 := ne_err
  have hcm := hcc''
  unfold maxLen at hcm
  obtain ⟨i5, hi5, hz50, hz51, hz52⟩ := info_parts info5
  unfold packO at hp
  obtain ⟨q, hq⟩ : ∃ q, findM l noChk m = q := ⟨_, rfl⟩
  rw [hq] at hp HFIND
  obtain ⟨f, ec⟩ := q
  have hok : ec = 0 → f.length ≤ 16 ∧ sumB f ≤ 256 := by
    intro h
    subst h
    obtain ⟨_, a, b, _, d⟩ := findM_ok hq
    exact ⟨by omega, d⟩
  unfold packQ at hp
  simp only at hp HFIND
  clear hA hn hcc hA' hn' hcc' hA'' hn'' hcc'' hq
  by_cases he : ec = 0
  case neg =>
    rw [if_pos he] at hp
    simp only [Prod.mk.injEq] at hp
    obtain ⟨rfl, rfl⟩ := hp
    have HE := Lib.hid (errV_ne he)
    clear he hok
    go_enter Try.func47, Try.ntmps47
    go_wp2_with (fail)
    (with_reducible refine HFIND.out.mono ?_)
    rintro e w1 ⟨Af, cf, rfl, hf1, hf2, hrf, hb⟩
    rw [HE.out]
    have HB := Lib.hid hb
    clear hb hrf HFIND
    generalize f.length = nf at *
    go_wp2
    go_ret2
    exact ⟨none, 0, by rw [HE.out]; rfl, Nat.le_refl _, Nat.zero_le _, fun h => absurd rfl h, HB.out⟩
  subst he
  rw [if_neg (by simp)] at hp
  obtain ⟨hnf, hsum⟩ := hok rfl
  clear hok
  obtain ⟨nf, hfn⟩ : ∃ nf, f.length = nf := ⟨_, rfl⟩
  rw [hfn] at hp hnf
  have HFN := Lib.hid hfn
  simp only [hfn] at HFIND
  clear hfn
  rw [HNV.out] at hp
  by_cases hlen : n'' = nf
  case neg =>
    rw [if_pos hlen] at hp
    simp only [Prod.mk.injEq] at hp
    obtain ⟨rfl, rfl⟩ := hp
    have hlen' : ((n'' : Int) != nf) = true := by simp; omega
    go_enter Try.func47, Try.ntmps47
    go_wp2_with (fail)
    (with_reducible refine HFIND.out.mono ?_)
    rintro e w1 ⟨Af, cf, rfl, hf1, hf2, hrf, hb⟩
    rw [errV_zero]
    have HB := Lib.hid hb
    clear hb hrf HFIND
    go_wp2
    go_ret2
    exact ⟨none, 0, rfl, Nat.le_refl _, Nat.zero_le _, fun h => absurd rfl h, HB.out⟩
  subst hlen
  rw [if_neg (by simp)] at hp
  have hlen' : ((n'' : Int) != n'') = false := by simp
  have HP := Lib.hid hp
  clear hp
  go_enter Try.func47, Try.ntmps47
  go_wp2_with (fail)
  (with_reducible refine HFIND.out.mono ?_)
  rintro e w1 ⟨Af, cf, rfl, hf1, hf2, hrf, hb⟩
  rw [errV_zero]
  have HB := Lib.hid hb
  have HRF := Lib.hid hrf
  have hs1 := hb.size
  have HV1 : Hid (Rd w1 w1.heap.size A'' (icells vs)) := (HV.out.below hb (Nat.le_refl _)).more hs1
  clear hb hrf HFIND HA HV
  unfold maxLen at hf2
  go_wp2
  go_loopw [34] (fun i wr => ∃ k : Nat, k ≤ n'' ∧ i = .int .i64 k ∧ fitV (f.drop k) (vs.drop k) = fitV f vs ∧ Below w1.heap.size w1 wr) (fun i _ => n'' - (intOf i).toNat)
  case atStart => exact ⟨0, Nat.zero_le _, rfl, rfl, Below.refl _ _⟩
  case round =>
    obtain ⟨k, hk, rfl, hF, hBr⟩ := hrel
    have hsr := hBr.size
    have HBr := Lib.hid hBr
    have HF := Lib.hid hF
    clear hBr hF
    by_cases hlt : k < n''
    · obtain ⟨x, hx⟩ := getElem?_of_lt (l := f) (k := k) (by rw [HFN.out]; exact hlt)
      obtain ⟨v, hv⟩ := getElem?_of_lt (l := vs) (k := k) (by rw [HNV.out]; exact hlt)
      have HS := Lib.hid (fitV_step hx hv)
      obtain ⟨b, off, rfl, hbl, c0, c1, c2, c3, c4, c5, c6, c7, c8⟩ := (HRF.out.below HBr.out (Nat.le_refl _)).ob hx
      obtain ⟨b', off', rfl, hbl', d0⟩ := (HV1.out.below HBr.out (Nat.le_refl _)).int hv
      have hb1 : b < wr.heap.size := by omega
      have hb2 : b' < wr.heap.size := by omega
      clear hx hv
      by_cases hr1 : v < x.lo
      · have HM : Hid (fitV f vs = false) := by
          rw [Hid, ← HF.out, HS.out]
          simp; omega
        have hp := HP.out
        rw [if_pos HM.out] at hp
        simp only [Prod.mk.injEq] at hp
        obtain ⟨rfl, rfl⟩ := hp
        go_wp2
        go_quiet (fail)
        go_wp2
        go_ret2
        exact ⟨none, 0, rfl, Nat.le_refl _, Nat.zero_le _, fun h => absurd rfl h, Below.drewN ((HB.out.trans (HBr.out.mono hs1)).alloc (by omega) _) _⟩
      · by_cases hr2 : x.hi < v
        · have HM : Hid (fitV f vs = false) := by
            rw [Hid, ← HF.out, HS.out]
            simp; omega
          have hp := HP.out
          rw [if_pos HM.out] at hp
          simp only [Prod.mk.injEq] at hp
          obtain ⟨rfl, rfl⟩ := hp
          go_wp2
          go_quiet (fail)
          go_wp2
          go_ret2
          exact ⟨none, 0, rfl, Nat.le_refl _, Nat.zero_le _, fun h => absurd rfl h, Below.drewN ((HB.out.trans (HBr.out.mono hs1)).alloc (by omega) _) _⟩
        · have HM : Hid (fitV (f.drop (k + 1)) (vs.drop (k + 1)) = fitV f vs) := by
            rw [Hid, ← HF.out, HS.out]
            have : decide (x.lo ≤ v ∧ v ≤ x.hi) = true := by simp; omega
            rw [this]; simp
          go_wp2
          go_quiet (fail)
          go_wp2
          go_roundw
          case rel => exact ⟨k + 1, by omega, by go_num, HM.out, Below.drewN (HBr.out.alloc hsr _) _⟩
          case measure => simp [intOf]; omega
    · have hkn : k = n'' := by omega
      subst hkn
      have HM : Hid (fitV f vs = true) := by
        rw [Hid, ← HF.out, ← HFN.out]
        exact fitV_end
      have hp := HP.out
      rw [if_neg (by simp [HM.out])] at hp
      simp only [Prod.mk.injEq] at hp
      obtain ⟨hpr, rfl⟩ := hp
      have HPR := Lib.hid hpr
      have HBW : Hid (Below w.heap.size w wr) := HB.out.trans (HBr.out.mono hs1)
      have HFR : Hid (Rd wr wr.heap.size Af (ocells f)) := (HRF.out.below HBr.out (Nat.le_refl _)).more hsr
      have HVR : Hid (Rd wr wr.heap.size A'' (icells vs)) := (HV1.out.below HBr.out (Nat.le_refl _)).more hsr
      have hsw := HBW.out.size
      obtain ⟨N, hN⟩ : ∃ N, (sumB f + 7) / 8 = N := ⟨_, rfl⟩
      rw [hN] at HPR
      have HN := Lib.hid hN
      have hN32 : N ≤ 32 := by omega
      clear hpr hlt HF HM HP HRF HV1 HB HBr hsr hs1 hN
      go_wp2_with (fail)
      (with_reducible refine (size_any Af k cf f wr HFR.out HFN.out hf1 (by unfold maxLen; omega) hnf).mono ?_)
      rintro e w2 ⟨rfl, hb⟩
      rw [HN.out]
      have HBW2 : Hid (Below w.heap.size w w2) := HBW.out.trans (hb.mono hsw)
      have HFR2 : Hid (Rd w2 w2.heap.size Af (ocells f)) := (HFR.out.below hb (Nat.le_refl _)).more hb.size
      have HVR2 : Hid (Rd w2 w2.heap.size A'' (icells vs)) := (HVR.out.below hb (Nat.le_refl _)).more hb.size
      have hsw2 := HBW2.out.size
      clear hb HFR HVR HBW hsw
      go_wp2_with (at_make; refine wpList_make_full _ rfl _ _ 22 rfl w2.heap.size 5 i5 (.int .u8 0) 1 Try.underlying22 hi5 hz50 hz51 .i64 .i64 (N : Int) (N : Int) N rfl rfl rfl rfl ?c1 ?c2 ?c3 ?_)
      case c1 => rw [hz52]; omega
      case c2 => unfold maxLen; omega
      case c3 => exact Nat.le_refl _
      intro w3 hown hgrow
      have HO3 : Hid (w3.ownsRow w2.heap.size 5 1 (.slice (some ⟨w2.heap.size, 0, none⟩) N N) N (kcells .u8 (packB [] N))) := by
        rw [packB_nil, ← made_k, Nat.mul_one]
        exact hown
      have HB3 : Hid (Below w2.heap.size w2 w3) := (Below.refl _ _).grown hgrow (Nat.le_refl _) (fun k hk => by cases hk)
      clear hown hgrow
      go_wp2
      go_loopw [13, 62] (fun a i wr => ∃ k' : Nat, k' ≤ k ∧ i = .int .i64 k' ∧ a = .int .i64 (sumB (f.take k') : Nat) ∧ wr.ownsRow w2.heap.size 5 1 (.slice (some ⟨w2.heap.size, 0, none⟩) N N) N (kcells .u8 (packB (laidB (f.take k') (vs.take k')) N)) ∧ Below w2.heap.size w2 wr) (fun _ i _ => k - (intOf i).toNat)
      case atStart => exact ⟨0, Nat.zero_le _, rfl, rfl, HO3.out, HB3.out⟩
      case round =>
        obtain ⟨k', hk', rfl, rfl, hO, hBr⟩ := hrel
        have HO := Lib.hid hO
        have HBr := Lib.hid hBr
        have hsr := hBr.size
        have hlr : w2.heap.size < wr.heap.size := (hO.lt _ rfl).2
        clear hO hBr
        by_cases hlt : k' < k
        · obtain ⟨x, hx⟩ := getElem?_of_lt (l := f) (k := k') (by rw [HFN.out]; exact hlt)
          obtain ⟨v, hv⟩ := getElem?_of_lt (l := vs) (k := k') (by rw [HNV.out]; exact hlt)
          have HST := Lib.hid (sumB_take hx)
          have hsle : sumB (f.take k') + bitsO x.t ≤ sumB f := by
            rw [← sumB_take hx]
            have := sumB_append (f.take (k' + 1)) (f.drop (k' + 1))
            rw [List.take_append_drop] at this
            omega
          have HLT := Lib.hid (laidB_take (by rw [HNV.out, HFN.out]) hx hv)
          have HLL : Hid ((laidB (f.take k') (vs.take k')).length = sumB (f.take k')) := laidB_length _ _ (by rw [List.length_take, List.length_take, HNV.out, HFN.out])
          have HBIN := Lib.hid (laidB_bin (f.take k') (vs.take k'))
          have hNN : 8 * N + 0 ≥ sumB f := by have := HN.out; omega
          obtain ⟨bs, hbs⟩ : ∃ bs, laidB (f.take k') (vs.take k') = bs := ⟨_, rfl⟩
          rw [hbs] at HLT HLL HBIN HO
          obtain ⟨s, hs⟩ : ∃ s, sumB (f.take k') = s := ⟨_, rfl⟩
          rw [hs] at HST HLL hsle ⊢
          obtain ⟨bo, hbo⟩ : ∃ bo, bitsO x.t = bo := ⟨_, rfl⟩
          have hbo32 := bitsO_le x.t
          rw [hbo] at HST HLT hsle hbo32
          have HBO := Lib.hid hbo
          generalize sumB f = S at *
          obtain ⟨b, off, rfl, hbl, c0, c1, c2, c3, c4, c5, c6, c7, c8⟩ := (HFR2.out.below HBr.out (Nat.le_refl _)).ob hx
          obtain ⟨b', off', rfl, hbl', d0⟩ := (HVR2.out.below HBr.out (Nat.le_refl _)).int hv
          have hb1 : b < wr.heap.size := by omega
          have hb2 : b' < wr.heap.size := by omega
          have HVV := Lib.hid hv
          clear hx hv hbo hbs hs
          go_upto_region 17 with (fail)
          obtain ⟨W, hW⟩ : ∃ W, wr.alloc (.cells #[.int .i64 x.i, .int .i64 x.s, .int .i64 x.t, .int .i64 x.a, .int .i64 x.lo, .int .i64 x.hi, .int .i64 x.v, .bool x.mp, .bool x.hd] 144) = W := ⟨_, rfl⟩
          have HOW : Hid (W.ownsRow w2.heap.size 5 1 (.slice (some ⟨w2.heap.size, 0, none⟩) N N) N (kcells .u8 (packB bs N))) := by rw [← hW]; exact HO.out.alloc _
          have HBW : Hid (Below w2.heap.size w2 W) := by rw [← hW]; exact HBr.out.alloc hsr _
          have m2 : W.cell? ⟨wr.heap.size, 2, none⟩ = some (.int .i64 x.t) := by rw [← hW]; exact cell_new_at _ _ _ _ _ _ rfl rfl
          have hsW := HBW.out.size
          rw [hW]
          clear hW c0 c1 c2 c3 c4 c5 c6 c7 c8 HO HBr d0 hb1 hb2 hlr hsr
          generalize wr.heap.size = B1 at *
          go_wp2_with (fail)
          (with_reducible refine (bits_any x.t W).mono ?_)
          rintro e w5 ⟨rfl, hb⟩
          rw [HBO.out]
          have HO5 : Hid (w5.ownsRow w2.heap.size 5 1 (.slice (some ⟨w2.heap.size, 0, none⟩) N N) N (kcells .u8 (packB bs N))) := own_below HOW.out hb
          have HB5 : Hid (Below w2.heap.size w2 w5) := HBW.out.trans (hb.mono hsW)
          clear hb m2 HOW HBW hsW
          go_wp2
          go_loopw [13, 70] (fun a i wr => ∃ j a0 : Nat, j ≤ bo ∧ i = .int .i64 j ∧ a = .int .i64 a0 ∧ a0 = s + j ∧ wr.ownsRow w2.heap.size 5 1 (.slice (some ⟨w2.heap.size, 0, none⟩) N N) N (kcells .u8 (packB (bs ++ bitsN v j) N)) ∧ Below w2.heap.size w2 wr) (fun _ i _ => bo - (intOf i).toNat)
          case atStart => exact ⟨0, s, Nat.zero_le _, rfl, rfl, rfl, by simpa [bitsN] using HO5.out, HB5.out⟩
          case round =>
            obtain ⟨j, a0, hj, rfl, rfl, ha0, hO, hBr⟩ := hrel
            have HO := Lib.hid hO
            have HBr := Lib.hid hBr
            have hsr := hBr.size
            have HA0 := Lib.hid ha0
            by_cases hlt : j < bo
            · obtain ⟨a8, h8⟩ : ∃ a8, a0 / 8 = a8 := ⟨_, rfl⟩
              obtain ⟨am, hm⟩ : ∃ am, a0 % 8 = am := ⟨_, rfl⟩
              have h8N : a8 < N := by omega
              have hm8 : am < 8 := by omega
              have q1 : (a0 : Int) / 8 = a8 := by omega
              have q2 : (a0 : Int).tdiv 8 = a8 := by rw [Int.tdiv_eq_ediv_of_nonneg (by omega)]; exact q1
              have q3 : (a0 : Int) % 8 = am := by omega
              have q4 : (a0 : Int).tmod 8 = am := by rw [Int.tmod_eq_emod_of_nonneg (by omega)]; exact q3
              have a0l : a0 < 256 := by omega
              have HBB : Hid (Bin (bs ++ bitsN v j)) := by
                intro y hy
                rcases List.mem_append.1 hy with h | h
                · exact HBIN.out y h
                · exact bitsN_bin _ _ y h
              have HLB : Hid ((bs ++ bitsN v j).length = a0) := by rw [Hid, List.length_append, HLL.out, bitsN_length, ha0]
              have HPS : Hid (packB (bs ++ bitsN v (j + 1)) N = (packB (bs ++ bitsN v j) N).set a8 (byteAt (bs ++ bitsN v j) a8 + v / 2 ^ j % 2 * 2 ^ am)) := by
                have := pack_step HBB.out (v / 2 ^ j % 2) (N := N) HLB.out
                rw [List.append_assoc, ← bitsN_succ, h8, hm] at this
                exact this
              have HY : Hid (0 ≤ byteAt (bs ++ bitsN v j) a8 ∧ byteAt (bs ++ bitsN v j) a8 < 2 ^ am) := by
                have := (byteAt_at HBB.out 0).2
                rw [HLB.out, h8, hm] at this
                exact this
              have f0 : wr.cell? ⟨w2.heap.size, a8, none⟩ = some (.int .u8 (byteAt (bs ++ bitsN v j) a8)) := own_k (packB_length _ _) HO.out (packB_get _ h8N)
              have f1 : wr.frozen? ⟨w2.heap.size, a8, none⟩ = false := HO.out.frozenAt _
              have d1 : wr.cell? ⟨b', off' + k', none⟩ = some (.int .i64 v) := by
                obtain ⟨b2, o2, he, _, d1⟩ := (HVR2.out.below HBr.out (Nat.le_refl _)).int HVV.out
                obtain ⟨rfl, rfl⟩ : b' = b2 ∧ off' = o2 := by simpa using he
                exact d1
              generalize byteAt (bs ++ bitsN v j) a8 = y at *
              clear h8 hm ha0 hO hBr
              go_upto_region 20 with (fail)
              go_region
              have hz : v / 2 ^ j % 2 = 0 ∨ v / 2 ^ j % 2 = 1 := by omega
              obtain ⟨u1, u2, u3⟩ := u8_or_join y (v / 2 ^ j % 2) am HY.out.1 HY.out.2 hz hm8
              have e1 : bits .or .u8 y (bits .and .i64 (v / 2 ^ j) 1 % 256 * 2 ^ am % 256) = y + v / 2 ^ j % 2 * 2 ^ am := by
                rw [i64_and_one, Int.emod_eq_of_lt (by omega) (by omega : v / 2 ^ j % 2 < 256), Int.emod_eq_of_lt u2 u3, u1]
              rw [e1]
              have HO2 : Hid ((wr.setCell ⟨w2.heap.size, a8, none⟩ (.int .u8 (y + v / 2 ^ j % 2 * 2 ^ am))).drew.ownsRow w2.heap.size 5 1 (.slice (some ⟨w2.heap.size, 0, none⟩) N N) N (kcells .u8 (packB (bs ++ bitsN v (j + 1)) N))) := by
                rw [HPS.out]
                exact own_below (own_set_k HO.out a8 _) (Below.drew (Below.refl _ _))
              have HB2 : Hid (Below w2.heap.size w2 (wr.setCell ⟨w2.heap.size, a8, none⟩ (.int .u8 (y + v / 2 ^ j % 2 * 2 ^ am))).drew) :=
                Below.drew (HBr.out.setCell (p := ⟨w2.heap.size, a8, none⟩) (Nat.le_refl _) _)
              generalize (wr.setCell ⟨w2.heap.size, a8, none⟩ (.int .u8 (y + v / 2 ^ j % 2 * 2 ^ am))).drew = W3 at *
              clear u1 u2 u3 hz e1 f0 f1 d1
              go_wp2
              go_roundw
              case rel => exact ⟨j + 1, a0 + 1, by omega, by go_num, by push_cast; rfl, by rw [HA0.out]; omega, HO2.out, HB2.out⟩
              case measure => simp [intOf]; omega
            · have hjb : j = bo := by omega
              subst hjb
              have HO2 : Hid (wr.ownsRow w2.heap.size 5 1 (.slice (some ⟨w2.heap.size, 0, none⟩) N N) N (kcells .u8 (packB (laidB (f.take (k' + 1)) (vs.take (k' + 1))) N))) := by
                rw [HLT.out]
                exact HO.out
              clear hO hBr ha0
              go_wp2
              go_roundw
              case rel => exact ⟨k' + 1, by omega, by go_num, by rw [HA0.out, HST.out], HO2.out, HBr.out⟩
              case measure => simp [intOf]; omega
        · have hkn : k' = k := by omega
          subst hkn
          have t1 : f.take k' = f := List.take_of_length_le (by rw [HFN.out]; omega)
          have t2 : vs.take k' = vs := List.take_of_length_le (by rw [HNV.out]; omega)
          rw [t1, t2, HPR.out] at HO
          have hrl : r.length = N := by rw [← HPR.out, packB_length]
          obtain ⟨Ar, cr, hv, hr1, hr2, hr⟩ := own_read HO.out
          injection hv with e1 e2 e3
          subst e1 e3
          have HR := Lib.hid hr
          have HRL := Lib.hid hrl
          have HBB : Hid (Below w.heap.size w wr) := HBW2.out.trans (HBr.out.mono hsw2)
          clear hr hrl t1 t2
          go_wp2
          go_ret2
          exact ⟨_, N, by rw [HRL.out]; rfl, by rw [HRL.out]; exact Nat.le_refl _, hr2, HR.out, HBB.out⟩
end Go.Proofs.Ytjdknddnanopaaa.Bus
