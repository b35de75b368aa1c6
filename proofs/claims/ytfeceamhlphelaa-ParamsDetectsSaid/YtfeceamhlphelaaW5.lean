/-
  A flash: Program.
-/
import Derived.Test.YtfeceamhlphelaaW4
namespace Go.Proofs.Ytfeceamhlphelaa
open Go.RowKit
set_option linter.unusedVariables false

theorem lay_nil (img : List Int) (a : Nat) : lay img a [] = img := by simp [lay]
theorem lay_step {img b : List Int} {a i : Nat} {x : Int} (ha : a + b.length ≤ img.length) (hx : b[i]? = some x) : (lay img a (b.take i)).set (a + i) x = lay img a (b.take (i + 1)) := by
  have hi : i < b.length := (List.getElem?_eq_some_iff.1 hx).1
  have l1 : (b.take i).length = i := by rw [List.length_take]; omega
  have l2 : (b.take (i + 1)).length = i + 1 := by rw [List.length_take]; omega
  apply List.ext_getElem?
  intro k
  rw [lay_get _ _ _ (by omega), List.getElem?_set, lay_length _ _ _ (by omega), lay_get _ _ _ (by omega), l1, l2]
  by_cases h1 : a + i = k
  · subst h1
    rw [if_pos rfl, if_pos (by omega), if_pos (by omega), List.getElem?_take, if_pos (by omega), show a + i - a = i by omega, hx]
  · rw [if_neg h1]
    by_cases h2 : a ≤ k ∧ k < a + i
    · rw [if_pos h2, if_pos (by omega), List.getElem?_take, if_pos (by omega), List.getElem?_take, if_pos (by omega)]
    · rw [if_neg h2, if_neg (by omega)]

theorem blankF_step {b : List Int} {j : Nat} {x : Int} (hx : b[j]? = some x) (h : blankF (b.take j) = true) (he : x = 255) : blankF (b.take (j + 1)) = true := by
  rw [take_snoc_get b j x hx]
  unfold blankF at h ⊢
  rw [List.all_append, h, he]
  rfl
theorem blankF_no {b : List Int} {j : Nat} {x : Int} (hx : b[j]? = some x) (he : x ≠ 255) : blankF b = false := by
  unfold blankF
  rw [List.all_eq_false]
  exact ⟨x, List.mem_of_getElem? hx, by simpa using he⟩

section
variable {w0 w : World} {L : Lc} {f : Fl}

theorem FlAt.byte (h : FlAt w0 w L f) {k : Nat} {x : Int} (hx : f.img[k]? = some x) : w.cell? ⟨L.gi, k, none⟩ = some (.int .u8 x) := by
  have := (List.getElem?_eq_some_iff.1 hx).1
  rw [h.oi.cellAt k (by omega)]
  simp [kcells, hx]
theorem FlAt.bfz (h : FlAt w0 w L f) (k : Nat) : w.frozen? ⟨L.gi, k, none⟩ = false := h.oi.frozenAt _
theorem FlAt.num (h : FlAt w0 w L f) {k : Nat} {x : Int} (hx : f.wear[k]? = some x) : w.cell? ⟨L.gw, k, none⟩ = some (.int .i64 x) := by
  have := (List.getElem?_eq_some_iff.1 hx).1
  rw [h.ow.cellAt k (by omega)]
  simp [icells, hx]
theorem FlAt.nfz (h : FlAt w0 w L f) (k : Nat) : w.frozen? ⟨L.gw, k, none⟩ = false := h.ow.frozenAt _

set_option maxRecDepth 100000 in
set_option maxHeartbeats 4000000 in
theorem program_any (h : FlAt w0 w L f) (page : Int) (A : Option Addr) (m c : Nat) (b : List Int) (hA : Apart L w A (kcells .u8 b)) (hm : b.length = m) (hc : m ≤ c) (hcc : c ≤ maxLen) (hb : Bytes b) :
    Calls Try.prog 26 #[.pointer (some ⟨L.d, 0, none⟩), .int .i64 page, .slice A m c] w fun e w' => e = .returned (errV (progF f page b).2) ∧ FlAt w0 w' L (progF f page b).1 ∧ Only L w w' := by
  have HAT := Lib.hid (at_any h page)
  have g1 := ne_nil
  have g2 := ne_err
  unfold maxLen at hcc
  obtain ⟨Q, hQ⟩ : ∃ q, progF f page b = q := ⟨_, rfl⟩
  rw [hQ]
  have HM := Lib.hid hm
  have HAP := Lib.hid hA
  have HBY := Lib.hid hb
  unfold progF at hQ
  by_cases h0 : atF f page = 0
  case neg =>
    have HV : Hid (atV L f page = .tuple #[.slice none 0 0, errV (atF f page)]) := by unfold atV; rw [Hid, if_neg h0]
    rw [if_pos h0] at hQ
    subst hQ
    have HE := Lib.hid (errV_ne h0)
    have H := Lib.hid h
    clear h h0 hA hm hb
    generalize atF f page = k at *
    go_enter Try.func26, Try.ntmps26
    go_wp2_with (fail)
    (with_reducible refine HAT.out.mono ?_)
    rintro e w1 ⟨rfl, q, rfl⟩
    rw [HV.out, HE.out]
    have H1 := Lib.hid (H.out.drewN q)
    go_wp2
    go_ret
    exact ⟨by rw [HE.out]; rfl, H1.out, Only.of_below (Below.drewN (Below.refl _ _) q)⟩
  rw [if_neg (by simp [h0])] at hQ
  have HV : Hid (atV L f page = .tuple #[.slice (some ⟨L.gi, 64 * page.toNat, none⟩) 64 (L.ci - 64 * page.toNat), .nilIface]) := by unfold atV; rw [Hid, if_pos h0]
  obtain ⟨hpl, hpe⟩ := h.page_len h0
  have hil := h.img_len
  obtain ⟨a, ha⟩ : ∃ a, 64 * page.toNat = a := ⟨_, rfl⟩
  have HPG : Hid (∀ j, j < 64 → (pageF f page.toNat)[j]? = f.img[a + j]?) := by
    intro j hj
    unfold pageF
    rw [List.getElem?_take, if_pos hj, List.getElem?_drop, ha]
  rw [ha] at hQ HV hpe
  generalize pageF f page.toNat = pg at *
  rw [hm] at hQ
  by_cases hlen : m = 64
  case neg =>
    rw [if_pos hlen] at hQ
    subst hQ
    have H := Lib.hid h
    have hlen' : ((m : Int) != 64) = true := by simp; omega
    clear h h0 hA hm hb hlen
    go_enter Try.func26, Try.ntmps26
    go_wp2_with (fail)
    (with_reducible refine HAT.out.mono ?_)
    rintro e w1 ⟨rfl, q, rfl⟩
    rw [HV.out]
    have H1 := Lib.hid (H.out.drewN q)
    go_wp2
    go_ret
    exact ⟨rfl, H1.out, Only.of_below (Below.drewN (Below.refl _ _) q)⟩
  subst hlen
  rw [if_neg (by simp)] at hQ
  have HQ := Lib.hid hQ
  have H := Lib.hid h
  have HPL := Lib.hid hpl
  clear h h0 hA hm hb hQ hpl ha
  go_enter Try.func26, Try.ntmps26
  go_wp2_with (fail)
  (with_reducible refine HAT.out.mono ?_)
  rintro e w1 ⟨rfl, q, rfl⟩
  rw [HV.out]
  have H1 := Lib.hid (H.out.drewN q)
  have HO1 : Hid (Only L w (w.drewN q)) := Only.of_below (Below.drewN (Below.refl _ _) q)
  have HAP1 := Lib.hid (HAP.out.only HO1.out)
  generalize w.drewN q = w1 at *
  clear H HAP HAT
  go_wp2
  go_loopw [29] (fun i wr => ∃ j : Nat, j ≤ 64 ∧ i = .int .i64 j ∧ blankF (pg.take j) = true ∧ w1 = wr) (fun i _ => 64 - (intOf i).toNat)
  case atStart => exact ⟨0, by omega, rfl, by simp [blankF], rfl⟩
  case round =>
    obtain ⟨j, hj, rfl, hbl, rfl⟩ := hrel
    have HBL := Lib.hid hbl
    clear hbl
    by_cases hlt : j < 64
    · obtain ⟨x, hx⟩ := getElem?_of_lt (l := pg) (k := j) (by rw [HPL.out]; exact hlt)
      have hx2 : f.img[a + j]? = some x := by rw [← HPG.out j hlt]; exact hx
      have d0 := H1.out.byte hx2
      by_cases he : x = 255
      · have HBL2 := Lib.hid (blankF_step hx HBL.out he)
        have he' : (x != 255) = false := by simp [he]
        clear hx hx2 he
        go_wp2
        go_roundw
        case rel => exact ⟨j + 1, by omega, by go_num, HBL2.out, by first | rfl | trivial⟩
        case measure => simp [intOf]; omega
      · have HNB := Lib.hid (blankF_no hx he)
        have he' : (x != 255) = true := by simpa using he
        have hq := HQ.out
        rw [if_pos HNB.out] at hq
        subst hq
        clear hx hx2 he
        go_wp2
        go_ret
        exact ⟨rfl, H1.out, HO1.out⟩
    · have hj64 : j = 64 := by omega
      subst hj64
      have HNB : Hid (blankF pg = true) := by
        have h1 := HBL.out
        rw [List.take_of_length_le (by rw [HPL.out]; exact Nat.le_refl _)] at h1
        exact h1
      have hq := HQ.out
      rw [if_neg (by simp [HNB.out])] at hq
      have HQ2 := Lib.hid hq
      have HCUT := Lib.hid (cut_any H1.out)
      obtain ⟨s1, s2, s3, s4⟩ := cutF_same f
      have HS2 := Lib.hid s2
      have HS4 := Lib.hid s4
      obtain ⟨⟨g, fails⟩, hg⟩ : ∃ g, cutF f = g := ⟨_, rfl⟩
      rw [hg] at HCUT HQ2 HS2 HS4
      simp only at HCUT HQ2 HS2 HS4
      obtain ⟨b', hb'⟩ : ∃ b', (if fails = true then torn b f.picks else b) = b' := ⟨_, rfl⟩
      have hbl : b'.length = 64 := by rw [← hb']; split; rw [torn_length, HM.out]; exact HM.out
      have hbb : Bytes b' := by
        rw [← hb']
        split
        · exact torn_bytes HBY.out H1.out.ok.pby
        · exact HBY.out
      have HB' := Lib.hid hb'
      have HBL' := Lib.hid hbl
      have HBB := Lib.hid hbb
      clear s1 s2 s3 s4 hg hb' hbl hbb hq hlt HBL
      go_wp2_with (fail)
      (with_reducible refine HCUT.out.mono ?_)
      rintro e w2 ⟨rfl, hF, ho, _⟩
      have HF := Lib.hid hF
      have HO2 : Hid (Only L w w2) := HO1.out.trans ho
      have HAP2 := Lib.hid (HAP1.out.only ho)
      clear hF ho HAP1 H1 HCUT
      go_wp2
      go_loopw [41] (fun i wr => ∃ j : Nat, j ≤ 64 ∧ i = .int .i64 j ∧ FlAt w0 wr L { g with img := lay f.img a (b'.take j) } ∧ Only L w wr ∧ Only L w2 wr) (fun i _ => 64 - (intOf i).toNat)
      case atStart =>
        refine ⟨0, by omega, rfl, ?_, HO2.out, Only.refl _ _⟩
        rw [List.take_zero, lay_nil, ← HS2.out]
        exact HF.out
      case round =>
        obtain ⟨j, hj, rfl, hF, ho, ho2⟩ := hrel
        have HFj := Lib.hid hF
        have HOj := Lib.hid ho
        have HO2j := Lib.hid ho2
        clear hF ho ho2
        by_cases hlt : j < 64
        · obtain ⟨x, hx⟩ := getElem?_of_lt (l := b) (k := j) (by rw [HM.out]; exact hlt)
          obtain ⟨bb, oo, hA, hbs, d0⟩ := (HAP2.out.only HO2j.out).rd.kint hx
          subst hA
          obtain ⟨y, hy⟩ := getElem?_of_lt (l := b') (k := j) (by rw [HBL'.out]; exact hlt)
          obtain ⟨z, hz⟩ := getElem?_of_lt (l := lay f.img a (b'.take j)) (k := a + j) (by rw [lay_length _ _ _ (by rw [List.length_take, HBL'.out]; omega)]; omega)
          have c0 := HFj.out.byte hz
          have c1 := HFj.out.bfz (a + j)
          obtain ⟨n1, n2⟩ := HFj.out.img (a + j) y (HBB.out y (List.mem_of_getElem? hy))
          rw [lay_step (by rw [HBL'.out]; exact hpe) hy] at n1
          have HN1 := Lib.hid n1
          have HN2 := Lib.hid n2
          cases hfl : fails with
          | false =>
            have hxy : x = y := by
              have h1 := HB'.out
              rw [hfl, if_neg (by simp)] at h1
              rw [← h1, hx] at hy
              exact Option.some.inj hy
            subst hxy
            clear hx hy hz n1 n2
            go_wp2
            go_roundw
            case rel => exact ⟨j + 1, by omega, by go_num, HN1.out, HOj.out.trans HN2.out, HO2j.out.trans HN2.out⟩
            case measure => simp [intOf]; omega
          | true =>
            have HXY : Hid (bits .or .u8 x (pickF f.picks j) = y) := by
              have h1 := HB'.out
              rw [hfl, if_pos rfl] at h1
              rw [← h1, torn_get, hx] at hy
              show _ = _
              simpa [orB] using hy
            have HPK := Lib.hid (pick_any HFj.out j (by omega))
            simp only [HS4.out] at HPK
            clear hx hy hz n1 n2
            go_wp2_with (fail)
            (with_reducible refine HPK.out.mono ?_)
            rintro e w3 ⟨rfl, rfl⟩
            have hxy := HXY.out
            generalize pickF f.picks j = pk at *
            go_wp2
            go_roundw
            case rel => exact ⟨j + 1, by omega, by go_num, HN1.out, HOj.out.trans HN2.out, HO2j.out.trans HN2.out⟩
            case measure => simp [intOf]; omega
        · have hj64 : j = 64 := by omega
          subst hj64
          have hfin := HFj.out
          rw [List.take_of_length_le (by rw [HBL'.out]; exact Nat.le_refl _), ← HB'.out] at hfin
          have hq := HQ2.out
          cases hfl : fails with
          | false =>
            rw [hfl, if_neg (by simp)] at hfin hq
            subst hq
            have HFIN := Lib.hid hfin
            clear hfin
            go_wp2
            go_ret
            exact ⟨rfl, HFIN.out, HOj.out⟩
          | true =>
            rw [hfl, if_pos rfl] at hfin hq
            subst hq
            have HFIN := Lib.hid hfin
            clear hfin
            go_wp2
            go_ret
            exact ⟨rfl, HFIN.out, HOj.out⟩
end
end Go.Proofs.Ytfeceamhlphelaa
