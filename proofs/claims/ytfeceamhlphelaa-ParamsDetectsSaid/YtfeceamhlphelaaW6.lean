/-
  A flash: Erase.
-/
import Derived.Test.YtfeceamhlphelaaW5
import Derived.Deep.RegionLaw
namespace Go.Proofs.Ytfeceamhlphelaa
open Go.RowKit
set_option linter.unusedVariables false

section
variable {w0 w : World} {L : Lc} {f : Fl}

set_option maxRecDepth 100000 in
set_option maxHeartbeats 4000000 in
theorem erase_any (h : FlAt w0 w L f) (block : Int) :
    Calls Try.prog 30 #[.pointer (some ⟨L.d, 0, none⟩), .int .i64 block] w fun e w' => e = .returned (errV (eraseF f block).2) ∧ FlAt w0 w' L (eraseF f block).1 ∧ Only L w w' := by
  have g1 := eqp_some L.d
  have c0 := h.c0
  have c1 := h.c1
  have c2 := h.c2
  have c3 := h.c3
  obtain ⟨Q, hQ⟩ : ∃ q, eraseF f block = q := ⟨_, rfl⟩
  rw [hQ]
  unfold eraseF at hQ
  by_cases hd : f.down = true
  · rw [if_pos hd] at hQ
    subst hQ
    have H := Lib.hid h
    rw [hd] at c3
    clear h hd
    go_enter Try.func30, Try.ntmps30
    go_wp2
    go_ret
    exact ⟨rfl, H.out, Only.refl _ _⟩
  rw [if_neg hd] at hQ
  have hd' : f.down = false := by simpa using hd
  rw [hd'] at c3
  obtain ⟨n, hn⟩ : ∃ n, f.wear.length = n := ⟨_, rfl⟩
  have hn64 := h.ok.b2
  have hn1 := h.ok.b1
  have hp16 := h.ok.p2
  have hp1 := h.ok.p1
  rw [hn] at hQ c2 hn64 hn1
  by_cases hout : block < 0 ∨ (n : Int) ≤ block
  · rw [if_pos hout] at hQ
    subst hQ
    have H := Lib.hid h
    clear h hd hd' hn
    go_enter Try.func30, Try.ntmps30
    go_wp2_with (fail)
    (with_reducible refine (within_no block 0 ((n : Int) - 1) w (by omega)).mono ?_)
    rintro e w1 ⟨rfl, rfl⟩
    go_wp2
    go_ret
    exact ⟨rfl, H.out, Only.refl _ _⟩
  rw [if_neg hout] at hQ
  obtain ⟨bn, rfl⟩ := Int.eq_ofNat_of_zero_le (by omega : 0 ≤ block)
  have hbn : bn < n := by omega
  simp only [Int.toNat_natCast] at hQ
  obtain ⟨N, hN⟩ : ∃ N, 64 * f.pg = N := ⟨_, rfl⟩
  obtain ⟨a, ha⟩ : ∃ a, N * bn = a := ⟨_, rfl⟩
  rw [hN, ha] at hQ
  have hN1 : 64 ≤ N := by omega
  have hN2 : N ≤ 1024 := by omega
  have hae : a + N ≤ f.img.length := by
    rw [h.ok.len, hn]
    have h1 : N * bn + N ≤ N * n := by
      have := Nat.mul_le_mul_left N (by omega : bn + 1 ≤ n)
      rw [Nat.mul_add, Nat.mul_one] at this
      exact this
    have h2 : n * f.pg * 64 = N * n := by rw [← hN, Nat.mul_comm (64 * f.pg), Nat.mul_assoc, Nat.mul_comm f.pg 64]
    omega
  have hil := h.img_len
  have hci := h.ci
  unfold maxLen at hci
  obtain ⟨hci1, hci2⟩ := hci
  have e1 : (f.pg : Int) * 64 = (N : Int) := by omega
  have e2 : (bn : Int) * (N : Int) = (a : Int) := by rw [← ha]; push_cast; exact Int.mul_comm _ _
  have e3 : ((bn : Int) + 1) * (N : Int) = (a : Int) + N := by rw [Int.add_mul, e2, Int.one_mul]
  have hbn64 : bn < 64 := by omega
  have k1 : (a : Int) ≤ (a : Int) + N := by omega
  have k2 : (a : Int) + N ≤ (L.ci : Int) := by omega
  have k4 : ((a : Int) + N).toNat = a + N := by omega
  have k6 : ¬ (L.ci = a) := by omega
  have hbn0 : (0 : Int) ≤ (bn : Int) := by omega
  have hbn1 : (bn : Int) < (n : Int) := by omega
  have HCUT := Lib.hid (cut_any h)
  obtain ⟨s1, s2, s3, s4⟩ := cutF_same f
  have HS2 := Lib.hid s2
  have HS3 := Lib.hid s3
  have HS4 := Lib.hid s4
  obtain ⟨⟨g, fails⟩, hg⟩ : ∃ g, cutF f = g := ⟨_, rfl⟩
  rw [hg] at HCUT hQ HS2 HS3 HS4
  simp only at HCUT hQ HS2 HS3 HS4
  obtain ⟨b', hb'⟩ : ∃ b', (if fails = true then torn ((f.img.drop a).take N) f.picks else List.replicate N 255) = b' := ⟨_, rfl⟩
  have hbl : b'.length = N := by
    rw [← hb']
    split
    · rw [torn_length, List.length_take, List.length_drop]; omega
    · rw [List.length_replicate]
  have hbb : Bytes b' := by
    rw [← hb']
    split
    · exact torn_bytes (fun x hx => h.ok.byt x (List.mem_of_mem_drop (List.mem_of_mem_take hx))) h.ok.pby
    · intro x hx
      rw [List.mem_replicate] at hx
      omega
  have HB' := Lib.hid hb'
  have HBL' := Lib.hid hbl
  have HBB := Lib.hid hbb
  have HQ := Lib.hid hQ
  obtain ⟨u, hu⟩ := getElem?_of_lt (l := f.wear) (k := bn) (by rw [hn]; exact hbn)
  have HU := Lib.hid hu
  have HWN := Lib.hid hn
  obtain ⟨il, hil0⟩ : ∃ il, f.img.length = il := ⟨_, rfl⟩
  have HIL := Lib.hid hil0
  rw [hil0] at hae hil hci1 c1
  clear hil0
  clear s1 s2 s3 s4 hg hb' hbl hbb hQ hu hn ha hN h hout hd hd'
  go_enter Try.func30, Try.ntmps30
  go_wp2_with (fail)
  (with_reducible refine (within_yes bn 0 ((n : Int) - 1) w (by omega) (by omega)).mono ?_)
  rintro e w1 ⟨rfl, rfl⟩
  go_wp2_with (fail)
  (with_reducible refine HCUT.out.mono ?_)
  rintro e w2 ⟨rfl, hF, ho, _⟩
  have HF := Lib.hid hF
  have HO2 := Lib.hid ho
  have d2 := hF.c2
  have dn : w2.cell? ⟨L.gw, bn, none⟩ = some (.int .i64 u) := hF.num (by rw [HS3.out]; exact HU.out)
  have df := hF.nfz bn
  rw [HS3.out, HWN.out] at d2
  clear hF ho HCUT c0 c1 c2 c3
  go_upto_region 11 with (fail)
  obtain ⟨x1, x2⟩ := HF.out.wr bn (wrap64 (u + 1))
  have HBU : Hid (g.wear.set bn (wrap64 (u + 1)) = bumpF f.wear bn) := by
    show _ = _
    unfold bumpF
    rw [HS3.out, HU.out]
    rfl
  rw [HBU.out] at x1
  have HF3 := Lib.hid x1
  have HO3 : Hid (Only L w _) := HO2.out.trans x2
  generalize w2.setCell ⟨L.gw, bn, none⟩ (.int .i64 (wrap64 (u + 1))) = w3 at *
  clear x1 x2 dn df d2 HF HO2
  go_wp2
  go_loopw [57] (fun i wr => ∃ j : Nat, j ≤ N ∧ i = .int .i64 j ∧ FlAt w0 wr L { g with img := lay f.img a (b'.take j), wear := bumpF f.wear bn } ∧ Only L w wr) (fun i _ => N - (intOf i).toNat)
  case atStart =>
    refine ⟨0, by omega, rfl, ?_, HO3.out⟩
    rw [List.take_zero, lay_nil, ← HS2.out]
    exact HF3.out
  case round =>
    obtain ⟨j, hj, rfl, hF, ho⟩ := hrel
    have HFj := Lib.hid hF
    have HOj := Lib.hid ho
    clear hF ho
    by_cases hlt : j < N
    · obtain ⟨y, hy⟩ := getElem?_of_lt (l := b') (k := j) (by rw [HBL'.out]; exact hlt)
      obtain ⟨z, hz⟩ := getElem?_of_lt (l := f.img) (k := a + j) (by rw [HIL.out]; omega)
      have hz2 : (lay f.img a (b'.take j))[a + j]? = some z := by
        rw [lay_get _ _ _ (by rw [List.length_take, HBL'.out, HIL.out]; omega), List.length_take, HBL'.out, if_neg (by omega)]
        exact hz
      have c0 := HFj.out.byte hz2
      have c1 := HFj.out.bfz (a + j)
      obtain ⟨n1, n2⟩ := HFj.out.img (a + j) y (HBB.out y (List.mem_of_getElem? hy))
      rw [lay_step (by rw [HBL'.out, HIL.out]; exact hae) hy] at n1
      have HN1 := Lib.hid n1
      have HN2 := Lib.hid n2
      cases hfl : fails with
      | false =>
        have hy255 : y = 255 := by
          have h1 := HB'.out
          rw [hfl, if_neg (by simp)] at h1
          rw [← h1, List.getElem?_replicate, if_pos hlt] at hy
          exact (Option.some.inj hy).symm
        subst hy255
        clear hy hz hz2 n1 n2
        go_wp2
        go_roundw
        case rel => exact ⟨j + 1, by omega, by go_num, HN1.out, HOj.out.trans HN2.out⟩
        case measure => simp [intOf]; omega
      | true =>
        have HXY : Hid (bits .or .u8 z (pickF f.picks j) = y) := by
          have h1 := HB'.out
          rw [hfl, if_pos rfl] at h1
          rw [← h1, torn_get, List.getElem?_take, if_pos hlt, List.getElem?_drop, hz] at hy
          show _ = _
          simpa [orB] using hy
        have hpk := pick_any (HFj.out.later (Below.drew (Below.refl _ _))) j (by omega)
        simp only [HS4.out] at hpk
        have HPK := Lib.hid hpk
        have HN3 := Lib.hid (HN1.out.later (Below.drew (Below.refl _ _)))
        have HN4 : Hid (Only L w _) := (HOj.out.trans HN2.out).trans (Only.of_below (Below.drew (Below.refl _ _)))
        clear hy hz hz2 n1 n2 hpk
        have hxy := HXY.out
        generalize pickF f.picks j = pk at *
        go_upto_region 15 with (fail)
        go_region_with (go_at_call 78; with_reducible refine HPK.out.mono ?_; rintro e w4 ⟨rfl, rfl⟩)
        all_goals
          go_wp2
          go_roundw
          case rel => exact ⟨j + 1, by omega, by go_num, HN3.out, HN4.out⟩
          case measure => simp [intOf]; omega
    · have hjn : j = N := by omega
      subst hjn
      have hfin := HFj.out
      rw [List.take_of_length_le (by rw [HBL'.out]; exact Nat.le_refl _), ← HB'.out] at hfin
      have hq := HQ.out
      cases hfl : fails with
      | false =>
        rw [hfl, if_neg (by simp)] at hfin hq
        subst hq
        have HFIN := Lib.hid hfin
        clear hfin
        go_wp2
        go_ret
        exact ⟨rfl, HFIN.out, HOj.out⟩
      | true =>
        rw [hfl, if_pos rfl] at hfin hq
        subst hq
        have HFIN := Lib.hid hfin
        clear hfin
        go_wp2
        go_ret
        exact ⟨rfl, HFIN.out, HOj.out⟩
end
end Go.Proofs.Ytfeceamhlphelaa
