/-
  Firmware: check, size, spec, pad.
-/
import Derived.Test.YtjdknddnanopaaaF4
namespace Go.Proofs.Ytjdknddnanopaaa
open Go.RowKit
set_option linter.unusedVariables false
set_option linter.unusedSimpArgs false

variable {w0 w : World} {L : Lc} {f : Fl}

theorem tmod_two (x : Int) : (x % 2 = 0 → x.tmod 2 = 0) ∧ (x % 2 ≠ 0 → x.tmod 2 = 1 ∨ x.tmod 2 = -1) := by
  have := Int.tmod_add_mul_tdiv x 2
  have h2 := Int.emod_add_mul_ediv x 2
  have h3 : -2 < x.tmod 2 ∧ x.tmod 2 < 2 := by
    constructor
    · have := Int.lt_tmod_of_pos x (b := 2) (by omega); omega
    · exact Int.tmod_lt_of_pos x (by omega)
  omega

set_option maxHeartbeats 1000000 in
theorem fcheck_any (h : FlAt w0 w L f) (first blocks : Int) (hf1 : I64 first) (hb1 : I64 blocks) :
    Calls Try.prog 53 #[.pointer (some ⟨L.d, 0, none⟩), .int .i64 first, .int .i64 blocks] w fun e w' => e = .returned (errV (regE f first blocks)) ∧ w = w' := by
  have e1 := eqp_some L.d
  have HD := Lib.hid (down_any h)
  have HB := Lib.hid (blocks_any h)
  have HP := Lib.hid (pages_any h)
  have HW := Lib.hid (within62 blocks 4 18)
  have hwl : f.wear.length ≤ 64 := h.ok.b2
  have hpg : f.pg ≤ 16 := h.ok.p2
  obtain ⟨N, hN⟩ : ∃ N, f.wear.length = N := ⟨_, rfl⟩
  obtain ⟨P, hP⟩ : ∃ P, f.pg = P := ⟨_, rfl⟩
  rw [hN] at hwl HB
  rw [hP] at hpg HP
  unfold I64 at hf1 hb1
  by_cases hd : f.down = true
  · have HR : Hid (regE f first blocks = 20) := by unfold regE; rw [Hid, if_pos hd]
    rw [hd] at HD
    clear h hd hN hP
    go_enter Try.func53, Try.ntmps53
    go_wp2_with (fail)
    (with_reducible refine HD.out.mono ?_)
    rintro e w1 ⟨rfl, rfl⟩
    go_wp2
    go_ret
    exact ⟨by rw [HR.out]; rfl, rfl⟩
  have hd' : f.down = false := by simpa using hd
  rw [hd'] at HD
  by_cases hb : blocks % 2 ≠ 0 ∨ blocks < 4 ∨ 18 < blocks
  · have HR : Hid (regE f first blocks = 3) := by unfold regE; rw [Hid, if_neg hd, if_pos hb]
    clear h hd hd' hN hP
    by_cases hm : blocks % 2 ≠ 0
    · rcases (tmod_two blocks).2 hm with ht | ht
      all_goals
        clear hb hm
        go_enter Try.func53, Try.ntmps53
        go_wp2_with (fail)
        (with_reducible refine HD.out.mono ?_)
        rintro e w1 ⟨rfl, rfl⟩
        go_wp2
        go_ret
        exact ⟨by rw [HR.out]; rfl, rfl⟩
    · have hm0 : blocks % 2 = 0 := by simpa using hm
      have ht := (tmod_two blocks).1 hm0
      rw [decide_eq_false (show ¬ (4 ≤ blocks ∧ blocks ≤ 18) by omega)] at HW
      clear hb hm
      go_enter Try.func53, Try.ntmps53
      go_wp2_with (fail)
      (with_reducible refine HD.out.mono ?_)
      rintro e w1 ⟨rfl, rfl⟩
      go_wp2_with (fail)
      (with_reducible refine (HW.out _).mono ?_)
      rintro e w1 ⟨rfl, rfl⟩
      go_wp2
      go_ret
      exact ⟨by rw [HR.out]; rfl, rfl⟩
  have hb2 : blocks % 2 = 0 ∧ 4 ≤ blocks ∧ blocks ≤ 18 := by omega
  have ht := (tmod_two blocks).1 hb2.1
  rw [decide_eq_true (show 4 ≤ blocks ∧ blocks ≤ 18 from hb2.2)] at HW
  have hsub : IntKind.i64.wrap ((N : Int) - blocks) = (N : Int) - blocks := IntWalk.i64_in _ (by omega)
  obtain ⟨hb20, hb21, hb22⟩ := hb2
  by_cases hi : first < 0 ∨ (N : Int) - blocks < first
  · have HR : Hid (regE f first blocks = 10) := by unfold regE; rw [Hid, if_neg hd, if_neg hb, hN, if_pos hi]
    clear h hd hd' hb hN hP
    by_cases h0 : first < 0
    · have d0 : decide (first < 0) = true := by simpa using h0
      clear hi
      go_enter Try.func53, Try.ntmps53
      go_wp2_with (fail)
      (with_reducible refine HD.out.mono ?_)
      rintro e w1 ⟨rfl, rfl⟩
      go_wp2_with (fail)
      (with_reducible refine (HW.out _).mono ?_)
      rintro e w1 ⟨rfl, rfl⟩
      go_wp2
      go_ret
      exact ⟨by rw [HR.out]; rfl, rfl⟩
    · have d0 : decide (first < 0) = false := by simpa using h0
      have d1 : decide ((N : Int) - blocks < first) = true := by simp; omega
      have d1b : (N : Int) - blocks < first := by omega
      clear hi
      go_enter Try.func53, Try.ntmps53
      go_wp2_with (fail)
      (with_reducible refine HD.out.mono ?_)
      rintro e w1 ⟨rfl, rfl⟩
      go_wp2_with (fail)
      (with_reducible refine (HW.out _).mono ?_)
      rintro e w1 ⟨rfl, rfl⟩
      go_wp2_with (fail)
      (with_reducible refine HB.out.mono ?_)
      rintro e w1 ⟨rfl, rfl⟩
      go_wp2
      go_ret
      exact ⟨by rw [HR.out]; rfl, rfl⟩
  · have h0 : ¬ first < 0 := fun e => hi (.inl e)
    have d0 : decide (first < 0) = false := by simpa using h0
    have d1b : ¬ (N : Int) - blocks < first := fun e => hi (.inr e)
    have d1 : decide ((N : Int) - blocks < first) = false := by simpa using d1b
    have HRX : (P < 2 ∧ Hid (regE f first blocks = 11)) ∨ (¬ P < 2 ∧ Hid (regE f first blocks = 0)) := by
      have : regE f first blocks = if P < 2 then 11 else 0 := by unfold regE; rw [if_neg hd, if_neg hb, hN, if_neg hi, hP]
      by_cases hp2 : P < 2
      · exact .inl ⟨hp2, by rw [Hid, this, if_pos hp2]⟩
      · exact .inr ⟨hp2, by rw [Hid, this, if_neg hp2]⟩
    clear h hd hd' hb hi hN hP
    rcases HRX with ⟨hp2, HR2⟩ | ⟨hp2, HR2⟩
    all_goals
      go_enter Try.func53, Try.ntmps53
      go_wp2_with (fail)
      (with_reducible refine HD.out.mono ?_)
      rintro e w1 ⟨rfl, rfl⟩
      go_wp2_with (fail)
      (with_reducible refine (HW.out _).mono ?_)
      rintro e w1 ⟨rfl, rfl⟩
      go_wp2_with (fail)
      (with_reducible refine HB.out.mono ?_)
      rintro e w1 ⟨rfl, rfl⟩
      go_wp2_with (fail)
      (with_reducible refine HP.out.mono ?_)
      rintro e w1 ⟨rfl, rfl⟩
      go_wp2
      go_ret
      exact ⟨by rw [HR2.out]; rfl, rfl⟩

theorem fcheck_none (first blocks : Int) (w : World) : Calls Try.prog 53 #[.pointer none, .int .i64 first, .int .i64 blocks] w fun e w' => e = .returned (errV 1) ∧ w = w' := by
  have e1 := eqp_none
  go_enter Try.func53, Try.ntmps53
  go_wp2
  go_ret
  exact ⟨rfl, rfl⟩

/-- The bytes of a slot. -/
theorem fsize_any (h : FlAt w0 w L f) (k : Nat) (hk : k ≤ 8) (bl : Int) (hbl : bl = ((2 * k + 2 : Nat) : Int)) :
    Calls Try.prog 56 #[.pointer (some ⟨L.d, 0, none⟩), .int .i64 bl] w fun e w' => e = .returned (.int .i64 (sizeF f (2 * k + 2) : Nat)) ∧ w = w' := by
  have HP := Lib.hid (pages_any h)
  have hpg : f.pg ≤ 16 := h.ok.p2
  have HS : Hid (((sizeF f (2 * k + 2) : Nat) : Int) = (k : Int) * (f.pg : Int) * 64) := by
    rw [Hid]; unfold sizeF
    rw [show (2 * k + 2 - 2) / 2 = k by omega]
    push_cast
    rfl
  have h1 : (k : Int) * (f.pg : Int) ≤ 128 := by
    have h2 := Nat.mul_le_mul hk hpg
    have h3 : ((k * f.pg : Nat) : Int) ≤ 128 := by omega
    push_cast at h3
    exact h3
  have h0 : (0 : Int) ≤ (k : Int) * (f.pg : Int) := Int.mul_nonneg (by omega) (by omega)
  have q1 : (bl - 2).tdiv 2 = k := by rw [hbl, Int.tdiv_eq_ediv_of_nonneg (by omega)]; omega
  have q1' : (bl - 2) / 2 = k := by rw [hbl]; omega
  have q0 : IntKind.i64.wrap (bl - 2) = bl - 2 := IntWalk.i64_in _ (by omega)
  have q2 : IntKind.i64.wrap ((k : Int) * (f.pg : Int)) = (k : Int) * (f.pg : Int) := IntWalk.i64_in _ (by omega)
  have q3 : IntKind.i64.wrap ((k : Int) * (f.pg : Int) * 64) = (k : Int) * (f.pg : Int) * 64 := IntWalk.i64_in _ (by omega)
  have hb0 : 4 ≤ bl + 2 ∧ bl ≤ 18 := by omega
  obtain ⟨hb1, hb2⟩ := hb0
  have HBL := Lib.hid hbl
  generalize f.pg = P at *
  clear h hbl
  go_enter Try.func56, Try.ntmps56
  go_wp2_with (fail)
  (with_reducible refine HP.out.mono ?_)
  rintro e w1 ⟨rfl, rfl⟩
  go_wp2
  go_ret
  exact ⟨by rw [HS.out]; rfl, rfl⟩

theorem fw_take (n : Nat) : (fwSpec n).take 3 = [⟨0, 1, 0⟩, ⟨0, 2, 2⟩, ⟨0, 3, 0⟩] ∧ (fwSpec n).take 6 = (fwSpec n).take 3 ++ [⟨0, 1073741824, 0⟩, ⟨0, n, 0⟩, ⟨0, 4294967295, 0⟩] ∧ (fwSpec n).take 9 = (fwSpec n).take 6 ++ [⟨0, 1073741824, 0⟩, ⟨0, n, 0⟩, ⟨0, 4294967295, 0⟩] ∧ (fwSpec n).take 9 = fwSpec n := ⟨rfl, rfl, rfl, rfl⟩
def roundP (n : Nat) : List Par := [⟨0, 1073741824, 0⟩, ⟨0, n, 0⟩, ⟨0, 4294967295, 0⟩]
theorem fw_round (n j : Nat) (hj : j < 2) : (fwSpec n).take (3 + 3 * (j + 1)) = (fwSpec n).take (3 + 3 * j) ++ roundP n := by
  match j, hj with
  | 0, _ => rfl
  | 1, _ => rfl
theorem pcells_append (a b : List Par) : pcells (a ++ b) = pcells a ++ pcells b := by unfold pcells; rw [List.flatMap_append]

set_option maxRecDepth 100000 in
set_option maxHeartbeats 1000000 in
theorem fspec_any (n : Nat) (hn : n ≤ 1000000) (w : World) : Calls Try.prog 55 #[.int .i64 (n : Int)] w fun e w' => ∃ A c, e = .returned (.slice A 9 c) ∧ 9 ≤ c ∧ c ≤ maxLen ∧ Rd w' w'.heap.size A (pcells (fwSpec n)) ∧ Below w.heap.size w w' := by
  obtain ⟨i9, hi9, hz90, hz91, hz92⟩ := info_parts info99
  have h3 : (3 : Nat) ≤ maxLen := by unfold maxLen; omega
  go_enter Try.func55, Try.ntmps55
  go_wp2
  obtain ⟨W, hW⟩ : ∃ W, w.alloc (.cells #[.int .i64 0, .int .i64 1, .int .i64 0, .int .i64 0, .int .i64 2, .int .i64 2, .int .i64 0, .int .i64 3, .int .i64 0] 141) = W := ⟨_, rfl⟩
  have HBW : Hid (Below w.heap.size w W) := by rw [← hW]; exact (Below.refl _ _).alloc (Nat.le_refl _) _
  have HOW : Hid (W.ownsRow w.heap.size 141 3 (.slice (some ⟨w.heap.size, 0, none⟩) 3 3) 3 (pcells ((fwSpec n).take 3))) := by
    rw [← hW]
    exact World.ownsRow_lit w #[.int .i64 0, .int .i64 1, .int .i64 0, .int .i64 0, .int .i64 2, .int .i64 2, .int .i64 0, .int .i64 3, .int .i64 0] 3 (Nat.le_refl _) h3 rfl
  rw [hW]
  clear hW
  go_loopw [3, 8] (fun v i wr => ∃ j : Nat, j ≤ 2 ∧ i = .int .i64 j ∧ wr.ownsRow w.heap.size 141 3 v (3 + 3 * j) (pcells ((fwSpec n).take (3 + 3 * j))) ∧ Below w.heap.size w wr) (fun _ i _ => 2 - (intOf i).toNat)
  case atStart => exact ⟨0, by omega, rfl, HOW.out, HBW.out⟩
  case round =>
    obtain ⟨j, hj, rfl, hO, hB⟩ := hrel
    obtain ⟨A1, c1, rfl, h4, h5, h6⟩ := own_form hO
    have HO := Lib.hid hO
    have HB := Lib.hid hB
    clear hO hB h6
    by_cases hlt : j < 2
    · have HRD := Lib.hid (Rd.new wr #[.int .i64 0, .int .i64 1073741824, .int .i64 0, .int .i64 0, .int .i64 n, .int .i64 0, .int .i64 0, .int .i64 4294967295, .int .i64 0] 141 (pcells (roundP n)) rfl)
      have HO2 : Hid ((wr.alloc (.cells #[.int .i64 0, .int .i64 1073741824, .int .i64 0, .int .i64 0, .int .i64 n, .int .i64 0, .int .i64 0, .int .i64 4294967295, .int .i64 0] 141)).ownsRow w.heap.size 141 3 (.slice A1 (3 + 3 * j) c1) (3 + 3 * j) (pcells ((fwSpec n).take (3 + 3 * j)))) := own_below HO.out ((Below.refl _ _).alloc (Nat.le_refl _) _)
      have HFR := Lib.hid (fw_round n j hlt)
      have HBS : Hid (w.heap.size ≤ wr.heap.size) := HB.out.size
      go_wp2_with (at_builtin; refine wpList_append_rd _ rfl _ _ 43 rfl w.heap.size 141 i9 (.agg #[.int .i64 0, .int .i64 0, .int .i64 0]) 3 24 Try.underlying43 hi9 hz90 hz91 hz92 rfl (by omega) _ (3 + 3 * j) (pcells ((fwSpec n).take (3 + 3 * j))) rfl HO2.out (wr.heap.size + 1) _ 3 3 (pcells (roundP n)) rfl HRD.out rfl (pcells_one _) (by unfold maxLen; omega) (by omega) (by rw [World.size_alloc]; have := HBS.out; omega) ?_)
      intro v' w2 hown hgrow hat
      have HB2 : Hid (Below w.heap.size w w2) := (HB.out.alloc HB.out.size _).grown hgrow (by rw [World.size_alloc]; have := HBS.out; omega) (fun k hk => (HO2.out.lt k hk).1)
      rw [← pcells_append, ← HFR.out] at hown
      have HO3 := Lib.hid hown
      clear hown hgrow hat
      go_wp2
      go_roundw
      case rel => exact ⟨j + 1, by omega, by go_num, HO3.out, HB2.out⟩
      case measure => simp [intOf]; omega
    · have hj2 : j = 2 := by omega
      subst hj2
      have H4 : Hid (3 + 3 * 2 ≤ c1) := h4
      have H5 := Lib.hid h5
      clear h4 h5
      go_wp2
      go_ret
      exact ⟨A1, c1, rfl, H4.out, H5.out, own_rd HO.out, HB.out⟩

set_option maxRecDepth 100000 in
set_option maxHeartbeats 1000000 in
/-- A page with bytes, filled up. -/
theorem pad_any (A : Option Addr) (n c : Nat) (b : List Int) (w : World) (hA : Rd w w.heap.size A (kcells .u8 b)) (hn : b.length = n) (hm : n ≤ 64) :
    Calls Try.prog 66 #[.slice A n c] w fun e w' => ∃ A' c', e = .returned (.slice A' 64 c') ∧ w'.ownsRow w.heap.size 5 1 (.slice A' 64 c') 64 (kcells .u8 (padB b)) ∧ Below w.heap.size w w' := by
  have HC := Lib.hid (clone8_any A n c w.heap.size b w hA (Nat.le_refl _) hn (by omega))
  obtain ⟨i5, hi5, hz50, hz51, hz52⟩ := info_parts info5
  have HP : Hid (padB b = b ++ List.replicate (64 - n) 255) := by rw [Hid]; unfold padB; rw [hn]
  have HN := Lib.hid hn
  clear hA hn
  go_enter Try.func66, Try.ntmps66
  go_wp2_with (fail)
  (with_reducible refine HC.out.mono ?_)
  rintro e w1 ⟨v1, rfl, hO, hB⟩
  have HO1 := Lib.hid hO
  have HB1 := Lib.hid hB
  clear hO hB
  go_wp2
  go_loopw [3] (fun v wr => ∃ j : Nat, n + j ≤ 64 ∧ wr.ownsRow w.heap.size 5 1 v (n + j) (kcells .u8 (b ++ List.replicate j 255)) ∧ Below w.heap.size w wr) (fun v _ => 64 - (match v with | .slice _ m _ => m | _ => 0))
  case atStart => exact ⟨0, by omega, by simpa using HO1.out, HB1.out⟩
  case round =>
    obtain ⟨j, hj, hO, hB⟩ := hrel
    obtain ⟨A1, c1, rfl, h1, h2, h3⟩ := own_form hO
    have HO := Lib.hid hO
    have HB := Lib.hid hB
    clear hO hB h3
    by_cases hlt : n + j < 64
    · have HRD := Lib.hid (Rd.new wr #[.int .u8 255] 5 (kcells .u8 [255]) rfl)
      have HO2 : Hid ((wr.alloc (.cells #[.int .u8 255] 5)).ownsRow w.heap.size 5 1 (.slice A1 (n + j) c1) (n + j) (kcells .u8 (b ++ List.replicate j 255))) := own_below HO.out ((Below.refl _ _).alloc (Nat.le_refl _) _)
      have HBS : Hid (w.heap.size ≤ wr.heap.size) := HB.out.size
      have HRS : Hid (b ++ List.replicate (j + 1) 255 = b ++ List.replicate j 255 ++ [255]) := by rw [Hid, List.append_assoc, ← List.replicate_succ']
      go_wp2_with (at_builtin; refine wpList_append_rd _ rfl _ _ 22 rfl w.heap.size 5 i5 (.int .u8 0) 1 1 Try.underlying22 hi5 hz50 hz51 hz52 rfl (by omega) _ (n + j) (kcells .u8 (b ++ List.replicate j 255)) rfl HO2.out (wr.heap.size + 1) _ 1 1 (kcells .u8 [255]) rfl HRD.out rfl (kcells_one _ _) (by unfold maxLen; omega) (by omega) (by rw [World.size_alloc]; have := HBS.out; omega) ?_)
      intro v' w2 hown hgrow hat
      have HB2 : Hid (Below w.heap.size w w2) := (HB.out.alloc HB.out.size _).grown hgrow (by rw [World.size_alloc]; have := HBS.out; omega) (fun k hk => (HO2.out.lt k hk).1)
      rw [← kcells_append, ← HRS.out] at hown
      obtain ⟨A2, c2, rfl, h4, h5, h6⟩ := own_form hown
      have HO3 := Lib.hid hown
      clear hown hgrow hat h6
      go_wp2
      go_roundw
      case rel => exact ⟨j + 1, by omega, HO3.out, HB2.out⟩
      case measure => simp; omega
    · have hj2 : n + j = 64 := by omega
      have HE : Hid (j = 64 - n) := by rw [Hid]; omega
      rw [hj2] at HO ⊢
      clear h1 h2
      go_wp2
      go_ret
      exact ⟨A1, c1, rfl, by have := HO.out; rw [HE.out, ← HP.out] at this; exact this, HB.out⟩
end Go.Proofs.Ytjdknddnanopaaa
