/-
  do.
-/
import Derived.Test.YtfeceamhlphelaaW12
import Derived.OpenShut
namespace Go.Proofs.Ytfeceamhlphelaa
open Go.RowKit
set_option linter.unusedVariables false

/-- What do leaves: a number, bytes. -/
def Gives (L : Lc) (w0 w w' : World) (v : Value) (g : Fl × Int × List Int) : Prop :=
  (∃ Ap cp, FlAt w0 w' { L with Ap := Ap, cp := cp } g.1) ∧ Only L w w' ∧ ∃ A n c, v = .tuple #[.int .i64 g.2.1, .slice A n c] ∧ g.2.2.length = n ∧ n ≤ c ∧ c ≤ maxLen ∧ Rd w' w'.heap.size A (kcells .u8 g.2.2)

theorem gives_nil {L : Lc} {w0 w w' : World} {f : Fl} {k : Int} (h : ∃ Ap cp, FlAt w0 w' { L with Ap := Ap, cp := cp } f) (ho : Only L w w') : Gives L w0 w w' (.tuple #[.int .i64 k, .slice none 0 0]) (f, k, []) :=
  ⟨h, ho, none, 0, 0, rfl, rfl, Nat.le_refl _, Nat.zero_le _, fun h => absurd rfl h⟩

set_option maxRecDepth 100000 in
set_option maxHeartbeats 8000000 in
theorem do_any {w0 w : World} {L : Lc} {f : Fl} (h : FlAt w0 w L f) (x : Ac) (hx : x.ok w w0.heap.size) :
    Calls Try.prog 37 #[.pointer (some ⟨L.d, 0, none⟩), .agg #[.int .u8 x.k, .int .i64 x.a, .int .i64 x.n, .slice x.B x.m x.e, .slice x.P x.q x.r]] w fun e w' => ∃ v, e = .returned v ∧ Gives L w0 w w' v (x.does f) := by
  obtain ⟨k, a, n, B, m, ec, b, P, q, r, p⟩ := x
  obtain ⟨hrb, hlb, hmb, hcb, hbb, hrp, hlp, hmp, hcp, hbp, hsq, hk0, hk1, hwa, hwn⟩ := hx
  simp only at hrb hlb hmb hcb hbb hrp hlp hmp hcp hbp hsq hk0 hk1 hwa hwn ⊢
  obtain ⟨j, hj⟩ : ∃ j : Int, k % 6 = j := ⟨_, rfl⟩
  have hj1 : k.tmod 6 = j := by rw [Int.tmod_eq_emod_of_nonneg hk0]; exact hj
  have hj2 : 0 ≤ j ∧ j < 6 := by omega
  have hnn := bounds_i64 hwn
  have H := Lib.hid h
  have HRB := Lib.hid hrb
  have HLB := Lib.hid hlb
  have HBB := Lib.hid hbb
  have HRP := Lib.hid hrp
  have HLP := Lib.hid hlp
  have HBP := Lib.hid hbp
  have hD : Ac.does ⟨k, a, n, B, m, ec, b, P, q, r, p⟩ f = if j < 2 then ((progF f a (page0 n b)).1, (progF f a (page0 n b)).2, []) else if j = 2 then ((eraseF f a).1, (eraseF f a).2, [])
      else if j = 3 then (f, (readF f a).2, (readF f a).1) else if j = 4 then (fuseF f n p, 0, []) else (startF f, 0, []) := by
    show doF f k a n b p = _
    unfold doF
    rw [hj]
  have HD := Lib.hid hD
  obtain ⟨V, hV⟩ : ∃ V, w.alloc (.cells #[.int .u8 k, .int .i64 a, .int .i64 n, .slice B m ec, .slice P q r] 36) = V := ⟨_, rfl⟩
  have HBV : Hid (Below w.heap.size w V) := by rw [← hV]; exact (Below.refl _ _).alloc (Nat.le_refl _) _
  have HFV := Lib.hid (h.later HBV.out)
  have v0 : V.cell? ⟨w.heap.size, 0, none⟩ = some (.int .u8 k) := by rw [← hV]; exact cell_new_at _ _ _ _ _ _ rfl rfl
  have v1 : V.cell? ⟨w.heap.size, 1, none⟩ = some (.int .i64 a) := by rw [← hV]; exact cell_new_at _ _ _ _ _ _ rfl rfl
  have v2 : V.cell? ⟨w.heap.size, 2, none⟩ = some (.int .i64 n) := by rw [← hV]; exact cell_new_at _ _ _ _ _ _ rfl rfl
  have v3 : V.cell? ⟨w.heap.size, 3, none⟩ = some (.slice B m ec) := by rw [← hV]; exact cell_new_at _ _ _ _ _ _ rfl rfl
  have v4 : V.cell? ⟨w.heap.size, 4, none⟩ = some (.slice P q r) := by rw [← hV]; exact cell_new_at _ _ _ _ _ _ rfl rfl
  have HGD : Hid (w.heap.size ≠ L.d ∧ w.heap.size ≠ L.gi ∧ w.heap.size ≠ L.gw) := by
    have h1 := h.ld
    have h2 := h.bi.2
    have h3 := h.bw.2
    exact ⟨by omega, by omega, by omega⟩
  have hgV : w.heap.size < V.heap.size := World.block_lt_of_cell? V _ v0
  have HOV : Hid (Only L w V) := Only.of_below HBV.out
  have HGE : Hid (∃ g, w.heap.size = g) := ⟨_, rfl⟩
  clear h hrb hlb hbb hrp hlp hbp hD hj hwa hwn
  by_cases c2 : j < 2
  · have HD2 : Hid (Ac.does ⟨k, a, n, B, m, ec, b, P, q, r, p⟩ f = ((progF f a (page0 n b)).1, (progF f a (page0 n b)).2, [])) := by rw [Hid, HD.out, if_pos c2]
    have HFD : Hid (FlAt w0 V.drew L f) := HFV.out.later (Below.drew (Below.refl _ _))
    have HRD : Hid (Rd V.drew w0.heap.size B (kcells .u8 b)) := (HRB.out.below HBV.out H.out.below.size).below (Below.drew (Below.refl V.heap.size V)) (Nat.le_trans H.out.below.size HBV.out.size)
    have HPB : Hid (Bytes (page0 n b)) := pageO_bytes HBB.out
    have hk2 : ∀ w2 : World, Below V.drew.heap.size V.drew w2 → w2.cell? ⟨w.heap.size, 0, none⟩ = some (.int .u8 k) ∧ w2.cell? ⟨w.heap.size, 1, none⟩ = some (.int .i64 a) ∧ w2.cell? ⟨w.heap.size, 2, none⟩ = some (.int .i64 n) ∧ w2.cell? ⟨w.heap.size, 3, none⟩ = some (.slice B m ec) ∧ w2.cell? ⟨w.heap.size, 4, none⟩ = some (.slice P q r) := fun w2 hb2 =>
      ⟨(hb2.cell (p := ⟨w.heap.size, 0, none⟩) hgV).trans v0, (hb2.cell (p := ⟨w.heap.size, 1, none⟩) hgV).trans v1, (hb2.cell (p := ⟨w.heap.size, 2, none⟩) hgV).trans v2, (hb2.cell (p := ⟨w.heap.size, 3, none⟩) hgV).trans v3, (hb2.cell (p := ⟨w.heap.size, 4, none⟩) hgV).trans v4⟩
    have hk3 : ∀ w2 w3 : World, Below V.drew.heap.size V.drew w2 → Only L w2 w3 → w3.cell? ⟨w.heap.size, 0, none⟩ = some (.int .u8 k) ∧ w3.cell? ⟨w.heap.size, 1, none⟩ = some (.int .i64 a) ∧ w3.cell? ⟨w.heap.size, 2, none⟩ = some (.int .i64 n) ∧ w3.cell? ⟨w.heap.size, 3, none⟩ = some (.slice B m ec) ∧ w3.cell? ⟨w.heap.size, 4, none⟩ = some (.slice P q r) := fun w2 w3 hb2 ho => by
      have hb := ho.block w.heap.size (Nat.lt_of_lt_of_le hgV hb2.size) HGD.out.1 HGD.out.2.1 HGD.out.2.2
      obtain ⟨a0, a1, a2, a3, a4⟩ := hk2 w2 hb2
      exact ⟨(cell_of_block hb).trans a0, (cell_of_block hb).trans a1, (cell_of_block hb).trans a2, (cell_of_block hb).trans a3, (cell_of_block hb).trans a4⟩
    have HK2 := Lib.hid hk2
    have HK3 := Lib.hid hk3
    clear hk2 hk3 HD HRP HRB
    go_enter Try.func37, Try.ntmps37
    by_cases cz : j = 0
    · have hz : (j == 0) = true := by simpa using cz
      go_upto_region 5 with (fail)
      try rw [hV]
      clear hV
      go_region_held3 (fun w' => w'.cell? ⟨w.heap.size, 0, none⟩ = some (.int .u8 k) ∧ w'.cell? ⟨w.heap.size, 1, none⟩ = some (.int .i64 a) ∧ w'.cell? ⟨w.heap.size, 2, none⟩ = some (.int .i64 n) ∧ w'.cell? ⟨w.heap.size, 3, none⟩ = some (.slice B m ec) ∧ w'.cell? ⟨w.heap.size, 4, none⟩ = some (.slice P q r)) (first | exact ⟨v0, v1, v2, v3, v4⟩ | assumption | exact HK2.out _ hb2 | exact HK3.out _ _ hb2 hO3) (first | (go_at_call 25; refine (page_apart HFD.out k a n B m ec b P q r HRD.out HLB.out hmb hcb HBB.out).mono ?_; rintro e w2 ⟨A', m', c', rfl, hpl, hpc, hpm, hb2, hap⟩) | (go_at_call 26; refine (program_any (HFD.out.later hb2) a A' m' c' (page0 n b) hap hpl hpc hpm HPB.out).mono ?_; rintro e w3 ⟨rfl, hF3, hO3⟩) | (go_at_call 44; refine (num_any _ _).mono ?_; rintro e w4 ⟨rfl, rfl⟩))
      have HF3 := Lib.hid hF3
      have HO3 : Hid (Only L w w3) := ((HOV.out.trans (Only.of_below (Below.drew (Below.refl _ _)))).trans (Only.of_below hb2)).trans hO3
      clear hF3 hO3 hb2 hap hpl
      go_wp2
      go_ret2
      exact ⟨_, rfl, by rw [HD2.out]; exact gives_nil ⟨L.Ap, L.cp, HF3.out⟩ HO3.out⟩
    · have cz1 : j = 1 := by omega
      have hz : (j == 0) = false := by simpa using cz
      have hz1 : (j == 1) = true := by simpa using cz1
      clear cz
      go_upto_region 5 with (fail)
      try rw [hV]
      clear hV
      go_region_held3 (fun w' => w'.cell? ⟨w.heap.size, 0, none⟩ = some (.int .u8 k) ∧ w'.cell? ⟨w.heap.size, 1, none⟩ = some (.int .i64 a) ∧ w'.cell? ⟨w.heap.size, 2, none⟩ = some (.int .i64 n) ∧ w'.cell? ⟨w.heap.size, 3, none⟩ = some (.slice B m ec) ∧ w'.cell? ⟨w.heap.size, 4, none⟩ = some (.slice P q r)) (first | exact ⟨v0, v1, v2, v3, v4⟩ | assumption | exact HK2.out _ hb2 | exact HK3.out _ _ hb2 hO3) (first | (go_at_call 25; refine (page_apart HFD.out k a n B m ec b P q r HRD.out HLB.out hmb hcb HBB.out).mono ?_; rintro e w2 ⟨A', m', c', rfl, hpl, hpc, hpm, hb2, hap⟩) | (go_at_call 26; refine (program_any (HFD.out.later hb2) a A' m' c' (page0 n b) hap hpl hpc hpm HPB.out).mono ?_; rintro e w3 ⟨rfl, hF3, hO3⟩) | (go_at_call 44; refine (num_any _ _).mono ?_; rintro e w4 ⟨rfl, rfl⟩))
      have HF3 := Lib.hid hF3
      have HO3 : Hid (Only L w w3) := ((HOV.out.trans (Only.of_below (Below.drew (Below.refl _ _)))).trans (Only.of_below hb2)).trans hO3
      clear hF3 hO3 hb2 hap hpl
      go_wp2
      go_ret2
      exact ⟨_, rfl, by rw [HD2.out]; exact gives_nil ⟨L.Ap, L.cp, HF3.out⟩ HO3.out⟩
  · clear HRB
    have hz : (j == 0) = false := by simp; omega
    have hz1 : (j == 1) = false := by simp; omega
    by_cases c3 : j = 2
    · have HD2 : Hid (Ac.does ⟨k, a, n, B, m, ec, b, P, q, r, p⟩ f = ((eraseF f a).1, (eraseF f a).2, [])) := by rw [Hid, HD.out, if_neg c2, if_pos c3]
      have hz2 : (j == 2) = true := by simpa using c3
      clear HD HRP c3
      go_enter Try.func37, Try.ntmps37
      go_wp2_with (fail)
      try rw [hV]
      clear hV
      (with_reducible refine (erase_any HFV.out a).mono ?_)
      rintro e w3 ⟨rfl, hF3, hO3⟩
      have HF3 := Lib.hid hF3
      have HO3 : Hid (Only L w w3) := HOV.out.trans hO3
      clear hF3 hO3
      go_wp2_with (fail)
      (with_reducible refine (num_any _ _).mono ?_)
      rintro e w4 ⟨rfl, rfl⟩
      go_wp2
      go_ret2
      exact ⟨_, rfl, by rw [HD2.out]; exact gives_nil ⟨L.Ap, L.cp, HF3.out⟩ HO3.out⟩
    · have hz2 : (j == 2) = false := by simpa using c3
      by_cases c4 : j = 3
      · have HD2 : Hid (Ac.does ⟨k, a, n, B, m, ec, b, P, q, r, p⟩ f = (f, (readF f a).2, (readF f a).1)) := by rw [Hid, HD.out, if_neg c2, if_neg c3, if_pos c4]
        have hz3 : (j == 3) = true := by simpa using c4
        clear HD HRP c3 c4
        go_enter Try.func37, Try.ntmps37
        go_wp2_with (fail)
        try rw [hV]
        clear hV
        (with_reducible refine (read_any HFV.out a).mono ?_)
        rintro e w3 ⟨v', rfl, ho, hb3⟩
        obtain ⟨A', c', rfl, g1, g2, g3⟩ := own_read ho
        have HF3 := Lib.hid (HFV.out.later hb3)
        have HO3 : Hid (Only L w w3) := HOV.out.trans (Only.of_below hb3)
        have HR3 := Lib.hid g3
        clear ho hb3 g3
        go_wp2_with (fail)
        (with_reducible refine (num_any _ _).mono ?_)
        rintro e w4 ⟨rfl, rfl⟩
        go_wp2
        go_ret2
        exact ⟨_, rfl, by rw [HD2.out]; exact ⟨⟨L.Ap, L.cp, HF3.out⟩, HO3.out, A', _, c', rfl, rfl, g1, g2, HR3.out⟩⟩
      · have hz3 : (j == 3) = false := by simpa using c4
        by_cases c5 : j = 4
        · have HD2 : Hid (Ac.does ⟨k, a, n, B, m, ec, b, P, q, r, p⟩ f = (fuseF f n p, 0, [])) := by rw [Hid, HD.out, if_neg c2, if_neg c3, if_neg c4, if_pos c5]
          have hz4 : (j == 4) = true := by simpa using c5
          have HRPV : Hid (Rd V V.heap.size P (kcells .u8 p)) := ((HRP.out.below HBV.out H.out.below.size).more (Nat.le_trans H.out.below.size HBV.out.size))
          clear HD HRP c3 c4 c5
          go_enter Try.func37, Try.ntmps37
          go_wp2_with (fail)
          try rw [hV]
          clear hV
          (with_reducible refine (fuse_any HFV.out n (by omega) (by omega) P q r p HRPV.out HLP.out hsq HBP.out).mono ?_)
          rintro e w3 ⟨rfl, hF3, hO3⟩
          have HF3 := Lib.hid hF3
          have HO3 : Hid (Only L w w3) := HOV.out.trans hO3
          clear hF3 hO3
          go_wp2
          go_ret2
          exact ⟨_, rfl, by rw [HD2.out]; exact gives_nil HF3.out HO3.out⟩
        · have HD2 : Hid (Ac.does ⟨k, a, n, B, m, ec, b, P, q, r, p⟩ f = (startF f, 0, [])) := by rw [Hid, HD.out, if_neg c2, if_neg c3, if_neg c4, if_neg c5]
          have hz4 : (j == 4) = false := by simpa using c5
          clear HD HRP c3 c4 c5
          go_enter Try.func37, Try.ntmps37
          go_wp2_with (fail)
          try rw [hV]
          clear hV
          (with_reducible refine (start_any HFV.out).mono ?_)
          rintro e w3 ⟨rfl, hF3, hO3⟩
          have HF3 := Lib.hid hF3
          have HO3 : Hid (Only L w w3) := HOV.out.trans hO3
          clear hF3 hO3
          go_wp2
          go_ret2
          exact ⟨_, rfl, by rw [HD2.out]; exact gives_nil HF3.out HO3.out⟩
end Go.Proofs.Ytfeceamhlphelaa
