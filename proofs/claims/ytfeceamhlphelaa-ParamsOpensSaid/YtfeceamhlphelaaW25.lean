/-
  flash.Load.
-/
import Derived.Test.YtfeceamhlphelaaMb
namespace Go.Proofs.Ytfeceamhlphelaa
open Go.RowKit
set_option linter.unusedVariables false

/-- A flash with the bytes of an image. -/
def loadF (p : Nat) (img : List Int) : Fl := ⟨p, img, List.replicate (img.length / (64 * p)) 0, false, -1, []⟩
/-- The error of Load. -/
def loadE (p : Int) (n : Nat) : Int := if p < 1 ∨ 16 < p then 3 else if n % (64 * p.toNat) ≠ 0 ∨ n / (64 * p.toNat) < 1 ∨ 64 < n / (64 * p.toNat) then 11 else 0

theorem loadF_ok {p : Nat} {img : List Int} (h : loadE p img.length = 0) (hb : Bytes img) : (loadF p img).ok := by
  unfold loadE at h
  split at h
  · omega
  rename_i h1
  split at h
  · omega
  rename_i h2
  simp only [Int.toNat_natCast] at h2
  have h3 : img.length / (64 * p) * (64 * p) = img.length := Nat.div_mul_cancel (Nat.dvd_of_mod_eq_zero (by omega))
  refine ⟨by simp only [loadF]; omega, by simp only [loadF]; omega, by simp only [loadF, List.length_replicate]; omega, by simp only [loadF, List.length_replicate]; omega, ?_, hb, by intro x hx; simp [loadF] at hx, by simp [loadF], by simp [loadF]⟩
  simp only [loadF, List.length_replicate]
  rw [Nat.mul_assoc, Nat.mul_comm p 64, h3]

theorem clone_own (A : Option Addr) (n c B : Nat) (b : List Int) (w : World) (hA : Rd w B A (kcells .u8 b)) (hB : B ≤ w.heap.size) (hn : b.length = n) (hm : n ≤ 140737488351232) (h0 : 0 < n) :
    Calls Try.prog 79 #[.slice A n c] w fun e w' => ∃ g c', e = .returned (.slice (some ⟨g, 0, none⟩) n c') ∧ n ≤ c' ∧ c' ≤ maxLen ∧ w.heap.size ≤ g ∧ g < w'.heap.size ∧ w'.ownsRow w.heap.size 5 1 (.slice (some ⟨g, 0, none⟩) n c') n (kcells .u8 b) ∧ Below w.heap.size w w' := by
  refine (clone8_any A n c B b w hA hB hn hm).mono ?_
  rintro e w' ⟨v, rfl, ho, hb⟩
  obtain ⟨A', c', rfl, h1, h2, hg⟩ := own_form ho
  obtain ⟨g, rfl, hg1, hg2⟩ := hg h0
  exact ⟨g, c', rfl, h1, h2, hg1, hg2, ho, hb⟩

theorem below_onew (w : World) (o : Obj) : Below w.heap.size w (w.alloc o) := (Below.refl _ _).alloc (Nat.le_refl _) o

theorem mk3 (D : Nat) (hD : D ≤ 64) (wx : World) : (Instr.makeSlice 44 (.int .i64 (D : Int)) (.int .i64 (D : Int))).run Try.prog wx = .ok (.slice (some ⟨wx.heap.size, 0, none⟩) D D) (wx.alloc (.cells (madeCells #[.int .i64 0] D) 3)) :=
  run_make_row' 44 3 (.int .i64 0) 8 Try.underlying44 info3 rfl .i64 .i64 D (by omega) (by omega) wx

theorem load_no (p : Int) (A : Option Addr) (n c : Nat) (w : World) (hn : n ≤ 140737488351232) (h : loadE p n ≠ 0) :
    Calls Try.prog 38 #[.int .i64 p, .slice A n c] w fun e w' => e = .returned (.tuple #[.pointer none, .iface 40 (.int .i64 (loadE p n))]) ∧ w = w' := by
  unfold loadE at h ⊢
  by_cases h1 : p < 1 ∨ 16 < p
  · rw [if_pos h1]
    have H1 := Lib.hid h1
    clear h h1
    go_enter Try.func38, Try.ntmps38
    go_wp2_with (fail)
    (with_reducible refine (within_no p 1 16 w H1.out).mono ?_)
    rintro e w1 ⟨rfl, rfl⟩
    go_wp2
    go_ret2
    exact ⟨rfl, rfl⟩
  · rw [if_neg h1] at h ⊢
    obtain ⟨q, rfl⟩ : ∃ q : Nat, p = (q : Int) := ⟨p.toNat, by omega⟩
    simp only [Int.toNat_natCast] at h ⊢
    have hq1 : 1 ≤ q := by omega
    have hq2 : q ≤ 16 := by omega
    have hbad : n % (64 * q) ≠ 0 ∨ n / (64 * q) < 1 ∨ 64 < n / (64 * q) := by
      by_cases hx : n % (64 * q) ≠ 0 ∨ n / (64 * q) < 1 ∨ 64 < n / (64 * q)
      · exact hx
      · rw [if_neg hx] at h; exact absurd rfl h
    rw [if_pos hbad]
    clear h
    obtain ⟨M, hM⟩ : ∃ M, 64 * q = M := ⟨_, rfl⟩
    rw [hM] at hbad
    have x1 : (64 : Int) * (q : Int) = (M : Int) := by omega
    have hM0 : 64 ≤ M := by omega
    have q0 : ((M : Int) == 0) = false := by simp; omega
    obtain ⟨D, hD⟩ : ∃ D, n / M = D := ⟨_, rfl⟩
    obtain ⟨R, hR⟩ : ∃ R, n % M = R := ⟨_, rfl⟩
    rw [hD, hR] at hbad
    have d1 : (n : Int) / (M : Int) = (D : Int) := by rw [← hD]; push_cast; rfl
    have d2 : (n : Int).tdiv (M : Int) = (D : Int) := by rw [Int.tdiv_eq_ediv_of_nonneg (by omega)]; exact d1
    have r1 : (n : Int) % (M : Int) = (R : Int) := by rw [← hR]; push_cast; rfl
    have r2 : (n : Int).tmod (M : Int) = (R : Int) := by rw [Int.tmod_eq_emod_of_nonneg (by omega)]; exact r1
    have hDb : D ≤ 140737488351232 := by rw [← hD]; exact Nat.le_trans (Nat.div_le_self _ _) hn
    have d3 : wrap64 (D : Int) = (D : Int) := by unfold wrap64; omega
    have HW : Hid (1 ≤ (q : Int) ∧ (q : Int) ≤ 16) := ⟨by omega, by omega⟩
    by_cases hR0 : R = 0
    · have HN : Hid ((D : Int) < 1 ∨ 64 < (D : Int)) := by show _ ∨ _; omega
      have e0 : ((R : Int) != 0) = false := by simp; omega
      subst hR0
      clear h1 hM hD hR hbad
      go_enter Try.func38, Try.ntmps38
      go_wp2_with (fail)
      (with_reducible refine (within_yes q 1 16 w HW.out.1 HW.out.2).mono ?_)
      rintro e w1 ⟨rfl, rfl⟩
      go_wp2_with (fail)
      (with_reducible refine (within_no D 1 64 w HN.out).mono ?_)
      rintro e w1 ⟨rfl, rfl⟩
      go_wp2
      go_ret2
      exact ⟨rfl, rfl⟩
    · have e0 : ((R : Int) != 0) = true := by simp; omega
      clear h1 hM hD hR hbad
      go_enter Try.func38, Try.ntmps38
      go_wp2_with (fail)
      (with_reducible refine (within_yes q 1 16 w HW.out.1 HW.out.2).mono ?_)
      rintro e w1 ⟨rfl, rfl⟩
      go_wp2
      go_ret2
      exact ⟨rfl, rfl⟩

set_option maxRecDepth 100000 in
set_option maxHeartbeats 4000000 in
theorem load_ok (q : Nat) (A : Option Addr) (n c : Nat) (b : List Int) (w : World) (hA : Rd w w.heap.size A (kcells .u8 b)) (hn : b.length = n) (hb : Bytes b) (h : loadE q n = 0) :
    Calls Try.prog 38 #[.int .i64 q, .slice A n c] w fun e w' => ∃ L, e = .returned (.tuple #[.pointer (some ⟨L.d, 0, none⟩), .nilIface]) ∧ FlAt w w' L (loadF q b) := by
  have hok := loadF_ok (by rw [hn]; exact h) hb
  have HOK := Lib.hid hok
  unfold loadE at h
  split at h
  · omega
  rename_i h1
  split at h
  · omega
  rename_i h2
  simp only [Int.toNat_natCast] at h2
  have hq1 : 1 ≤ q := by omega
  have hq2 : q ≤ 16 := by omega
  obtain ⟨M, hM⟩ : ∃ M, 64 * q = M := ⟨_, rfl⟩
  rw [hM] at h2
  have x1 : (64 : Int) * (q : Int) = (M : Int) := by omega
  have hM0 : 64 ≤ M := by omega
  have q0 : ((M : Int) == 0) = false := by simp; omega
  obtain ⟨D, hD⟩ : ∃ D, n / M = D := ⟨_, rfl⟩
  rw [hD] at h2
  have hR : n % M = 0 := by omega
  have hD1 : 1 ≤ D := by omega
  have hD2 : D ≤ 64 := by omega
  have d1 : (n : Int) / (M : Int) = (D : Int) := by rw [← hD]; push_cast; rfl
  have d2 : (n : Int).tdiv (M : Int) = (D : Int) := by rw [Int.tdiv_eq_ediv_of_nonneg (by omega)]; exact d1
  have r1 : (n : Int) % (M : Int) = 0 := by omega
  have r2 : (n : Int).tmod (M : Int) = 0 := by rw [Int.tmod_eq_emod_of_nonneg (by omega)]; exact r1
  have hnM : D * M = n := by rw [← hD]; exact Nat.div_mul_cancel (Nat.dvd_of_mod_eq_zero hR)
  have hn1 : 64 ≤ n := by have := Nat.mul_le_mul hD1 hM0; rw [hnM] at this; omega
  have hn2 : n ≤ 65536 := by have := Nat.mul_le_mul hD2 (show M ≤ 1024 by omega); rw [hnM] at this; omega
  have d3 : wrap64 (D : Int) = (D : Int) := by unfold wrap64; omega
  have HLF : Hid (loadF q b = ⟨q, b, List.replicate D 0, false, -1, []⟩) := by unfold loadF; rw [Hid, hn, hM, hD]
  obtain ⟨C3, hC3⟩ : ∃ C, madeCells #[.int .i64 0] D = C := ⟨_, rfl⟩
  have HC3 : Hid (C3.toList = icells (List.replicate D 0)) := by rw [← hC3]; exact made_k .i64 D
  have hm3 : ∀ wx : World, (Instr.makeSlice 44 (.int .i64 (D : Int)) (.int .i64 (D : Int))).run Try.prog wx = .ok (.slice (some ⟨wx.heap.size, 0, none⟩) D D) (wx.alloc (.cells C3 3)) := by
    intro wx
    rw [← hC3]
    exact mk3 D hD2 wx
  have HCL : Hid (∀ wx : World, Below w.heap.size w wx → Calls Try.prog 79 #[.slice A n c] wx fun e w' => ∃ g c', e = .returned (.slice (some ⟨g, 0, none⟩) n c') ∧ n ≤ c' ∧ c' ≤ maxLen ∧ wx.heap.size ≤ g ∧ g < w'.heap.size ∧ w'.ownsRow wx.heap.size 5 1 (.slice (some ⟨g, 0, none⟩) n c') n (kcells .u8 b) ∧ Below wx.heap.size wx w') :=
    fun wx hbx => clone_own A n c w.heap.size b wx (hA.below hbx (Nat.le_refl _)) hbx.size hn (by omega) (by omega)
  have HN := Lib.hid hn
  rw [HLF.out] at HOK ⊢
  clear hA hn hb h h1 h2 hok hC3 hM hD hR hnM
  go_enter Try.func38, Try.ntmps38
  go_wp2_with (fail)
  (with_reducible refine (within_yes q 1 16 w (by omega) (by omega)).mono ?_)
  rintro e w1 ⟨rfl, rfl⟩
  go_wp2_with (fail)
  (with_reducible refine (within_yes D 1 64 w (by omega) (by omega)).mono ?_)
  rintro e w1 ⟨rfl, rfl⟩
  go_upto_region 6 with (fail)
  have HL1 := Lib.hid (HCL.out w.drew (Below.drew (Below.refl _ _)))
  have HL2 := Lib.hid (HCL.out (w.alloc (.cells C3 3)).drew (Below.drew (below_onew _ _)))
  clear HCL
  go_region_with (first
    | (go_at_call 79; with_reducible refine HL1.out.mono ?_; rintro e w3 ⟨g3, c3, rfl, hc31, hc32, hg31, hg32, ho3, hb3⟩)
    | (go_at_call 79; with_reducible refine HL2.out.mono ?_; rintro e w3 ⟨g3, c3, rfl, hc31, hc32, hg31, hg32, ho3, hb3⟩))
  · have hb3' : Below w.heap.size w w3 := (Below.drew (Below.refl _ _)).trans hb3
    have ho3' : w3.ownsRow w.heap.size 5 1 (.slice (some ⟨g3, 0, none⟩) n c3) n (kcells .u8 b) := ho3
    have hg31' : w.heap.size ≤ g3 := hg31
    have hs := World.size_alloc w3 (.cells C3 3)
    have o2 := own_alloc (w := w3) (base := w.heap.size) (e := 3) HC3.out (by rw [icells_length, List.length_replicate]) hb3'.size (by unfold maxLen; omega)
    have hF : FlAt w ((w3.alloc (.cells C3 3)).alloc (.cells #[.int .i64 (q : Int), .slice (some ⟨g3, 0, none⟩) n c3, .slice (some ⟨w3.heap.size, 0, none⟩) D D, .bool false, .int .i64 (-1), .slice none 0 0] 126)) ⟨w3.heap.size + 1, g3, w3.heap.size, c3, D, none, 0⟩ ⟨q, b, List.replicate D 0, false, -1, []⟩ := by
      refine FlAt.fresh _ _ HOK.out rfl ((hb3'.alloc hb3'.size _).alloc (by rw [hs]; have := hb3'.size; omega) _) ?_ (by have := hb3'.size; simp only; omega) (by simp only; omega) (by simp only; omega) (by simp only; omega) ?_ ?_ rfl rfl
      · have := heap_new (w3.alloc (.cells C3 3)) #[.int .i64 (q : Int), .slice (some ⟨g3, 0, none⟩) n c3, .slice (some ⟨w3.heap.size, 0, none⟩) D D, .bool false, .int .i64 (-1), .slice none 0 0] 126
        rw [hs] at this
        simp only [List.length_replicate, HN.out]
        exact this
      · simp only [HN.out]
        exact own_below (own_below ho3' (below_onew _ _)) (below_onew _ _)
      · simp only [List.length_replicate]
        exact own_below o2 (below_onew _ _)
    clear ho3 hb3 hg31 hb3' ho3' hg31' hs o2
    have HF : Hid (FlAt w ((w3.alloc (.cells C3 3)).alloc (.cells #[.int .i64 (q : Int), .slice (some ⟨g3, 0, none⟩) n c3, .slice (some ⟨w3.heap.size, 0, none⟩) D D, .bool false, .int .i64 (-1), .slice none 0 0] 126)) ⟨w3.heap.size + 1, g3, w3.heap.size, c3, D, none, 0⟩ ⟨q, b, List.replicate D 0, false, -1, []⟩) := hF
    clear hF
    go_wp2
    go_ret2
    exact ⟨⟨w3.heap.size + 1, g3, w3.heap.size, c3, D, none, 0⟩, rfl, HF.out⟩
  · have hb3' : Below w.heap.size w w3 := (Below.drew (below_onew w (.cells C3 3))).trans (hb3.mono (by show w.heap.size ≤ (w.alloc (.cells C3 3)).heap.size; rw [World.size_alloc]; omega))
    have hg31' : w.heap.size + 1 ≤ g3 := by have h : (w.alloc (.cells C3 3)).heap.size ≤ g3 := hg31; rw [World.size_alloc] at h; exact h
    have ho3' : w3.ownsRow w.heap.size 5 1 (.slice (some ⟨g3, 0, none⟩) n c3) n (kcells .u8 b) := by
      rcases ho3.2 with ⟨h, _⟩ | ⟨g, cap, cur, h2, h3, h4⟩
      · cases h
      · exact ⟨ho3.1, .inr ⟨g, cap, cur, h2, by
          have h : (w.alloc (.cells C3 3)).heap.size ≤ g := h3
          rw [World.size_alloc] at h
          omega, h4⟩⟩
    have o2 := own_below (own_below (own_alloc (w := w) (base := w.heap.size) (e := 3) (cs := C3) HC3.out (by rw [icells_length, List.length_replicate]) (Nat.le_refl _) (by unfold maxLen; omega)) (Below.drew (Below.refl _ _))) hb3
    have hF : FlAt w (w3.alloc (.cells #[.int .i64 (q : Int), .slice (some ⟨g3, 0, none⟩) n c3, .slice (some ⟨w.heap.size, 0, none⟩) D D, .bool false, .int .i64 (-1), .slice none 0 0] 126)) ⟨w3.heap.size, g3, w.heap.size, c3, D, none, 0⟩ ⟨q, b, List.replicate D 0, false, -1, []⟩ := by
      refine FlAt.fresh _ _ HOK.out rfl (hb3'.alloc hb3'.size _) ?_ hb3'.size (by simp only; omega) (by simp only; omega) (by simp only; omega) ?_ ?_ rfl rfl
      · have := heap_new w3 #[.int .i64 (q : Int), .slice (some ⟨g3, 0, none⟩) n c3, .slice (some ⟨w.heap.size, 0, none⟩) D D, .bool false, .int .i64 (-1), .slice none 0 0] 126
        simp only [List.length_replicate, HN.out]
        exact this
      · simp only [HN.out]
        exact own_below ho3' (below_onew _ _)
      · simp only [List.length_replicate]
        exact own_below o2 (below_onew _ _)
    clear ho3 hb3 hg31 hb3' ho3' hg31' o2
    have HF : Hid (FlAt w (w3.alloc (.cells #[.int .i64 (q : Int), .slice (some ⟨g3, 0, none⟩) n c3, .slice (some ⟨w.heap.size, 0, none⟩) D D, .bool false, .int .i64 (-1), .slice none 0 0] 126)) ⟨w3.heap.size, g3, w.heap.size, c3, D, none, 0⟩ ⟨q, b, List.replicate D 0, false, -1, []⟩) := hF
    clear hF
    go_wp2
    go_ret2
    exact ⟨⟨w3.heap.size, g3, w.heap.size, c3, D, none, 0⟩, rfl, HF.out⟩
end Go.Proofs.Ytfeceamhlphelaa
