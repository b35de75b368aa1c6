/-
  Layer 52: fit, plant, steps, install of the statements.
-/
import Derived.Test.YtjdknddnanopaaaG2
import Derived.Test.YtjdknddnanopaaaF14
import Derived.Test.YtjdknddnanopaaaF17
import Derived.Test.YtjdknddnanopaaaF18
import Derived.Test.YtjdknddnanopaaaW56
import Derived.Deep.RegionWith
namespace Go.Proofs.Ytjdknddnanopaaa
open Go.RowKit
set_option linter.unusedVariables false
set_option linter.unusedSimpArgs false

set_option maxHeartbeats 1000000 in
theorem fit52_any (b p s l : Int) (C B P S N : Nat) (hC : clipI b 0 1 = C) (hB : 4 + 2 * C = B) (hP : clipI p 2 4 = P) (hS : clipI s 1 1073741824 = S) (hN : clipI l 1 (((B - 2) / 2 * P * 64 : Nat) : Int) = N) (w : World) :
    Calls Try.prog 23 #[.agg #[.int .i64 b, .int .i64 p, .int .i64 s, .int .i64 l]] w fun e w' => e = .returned (.agg #[.int .i64 B, .int .i64 P, .int .i64 S, .int .i64 N]) ∧ Below w.heap.size w w' := by
  have H1 := Lib.hid (fun w => clip_any b 0 1 w)
  have H2 := Lib.hid (fun w => clip_any p 2 4 w)
  have H3 := Lib.hid (fun w => clip_any s 1 1073741824 w)
  have hP4 : P ≤ 4 := by unfold clipI at hP; omega
  have hC1 : C ≤ 1 := by unfold clipI at hC; omega
  have hB46 : B = 4 ∨ B = 6 := by omega
  have e1 : (((B - 2) / 2 * P * 64 : Nat) : Int) = (((B - 2) / 2 : Nat) : Int) * (P : Int) * 64 := by push_cast; rfl
  obtain ⟨k, hk⟩ : ∃ k, (B - 2) / 2 = k := ⟨_, rfl⟩
  have H4 := Lib.hid (fun w => clip_any l 1 ((k : Int) * (P : Int) * 64) w)
  rw [e1, hk] at hN
  rw [hC] at H1
  rw [hP] at H2
  rw [hS] at H3
  rw [hN] at H4
  have hk2 : 1 ≤ k ∧ k ≤ 2 := by omega
  have hBi : (4 : Int) + 2 * (C : Int) = (B : Int) := by omega
  have hB0 : 4 ≤ B ∧ B ≤ 6 := by omega
  have q1 : ((B : Int) - 2).tdiv 2 = (k : Int) := by rw [Int.tdiv_eq_ediv_of_nonneg (by omega)]; omega
  have q1' : ((B : Int) - 2) / 2 = (k : Int) := by omega
  have q2 : (k : Int) * (P : Int) ≤ 8 ∧ 0 ≤ (k : Int) * (P : Int) := by
    have h1 := Nat.mul_le_mul hk2.2 hP4
    have h2 : ((k * P : Nat) : Int) ≤ 8 := by omega
    push_cast at h2
    exact ⟨h2, Int.mul_nonneg (by omega) (by omega)⟩
  have q3 : IntKind.i64.wrap ((k : Int) * (P : Int)) = (k : Int) * (P : Int) := IntWalk.i64_in _ (by omega)
  have q4 : IntKind.i64.wrap ((k : Int) * (P : Int) * 64) = (k : Int) * (P : Int) * 64 := IntWalk.i64_in _ (by omega)
  have q5 : IntKind.i64.wrap (2 * (C : Int)) = 2 * (C : Int) := IntWalk.i64_in _ (by omega)
  have q6 : IntKind.i64.wrap (B : Int) = (B : Int) := IntWalk.i64_in _ (by omega)
  obtain ⟨q2a, q2b⟩ := q2
  clear hC hP hS hN e1 hk hB
  go_enter Try.func23, Try.ntmps23
  go_wp2_with (fail)
  go_region_with (first
    | (go_at_call 12; with_reducible refine (H1.out _).mono ?_; rintro e w1 ⟨rfl, rfl⟩)
    | (go_at_call 12; with_reducible refine (H2.out _).mono ?_; rintro e w1 ⟨rfl, rfl⟩))
  all_goals
    go_wp2_with (fail)
    (with_reducible refine (H3.out _).mono ?_)
    rintro e w1 ⟨rfl, rfl⟩
    go_wp2_with (fail)
    (with_reducible refine (H4.out _).mono ?_)
    rintro e w1 ⟨rfl, rfl⟩
    go_wp2
    refine bodyPost_ret (v := .agg #[.int .i64 B, .int .i64 P, .int .i64 S, .int .i64 N]) ?_ rfl ⟨rfl, ?_⟩
    · rw [results_cell_o rfl]
      go_simp
    · exact Below.drew (((Below.refl _ _).alloc (Nat.le_refl _) _).alloc (by simp) _)

/-- What plant leaves. -/
def PlantR (w : World) (k P : Nat) (v : Int) (img : List Int) (e : Ending) (w' : World) : Prop :=
  ∃ W0 L S K G B, e = .returned (.tuple #[.pointer (some ⟨L.d, 0, none⟩), .pointer (some ⟨K.D, 0, none⟩), .bool true]) ∧ Below w.heap.size w W0 ∧ BkAt W0 w' L S K G B ∧ Planted G 0 k B v img ∧ Shape (newF (2 * k + 2) P) G ∧ G.picks = []
theorem neb_some (d : Nat) (w : World) : (binOp .neq 40 (.pointer (some ⟨d, 0, none⟩)) (.pointer none)).run Try.prog w = .ok (.bool true) w := by kernel_rfl

set_option maxRecDepth 100000 in
set_option maxHeartbeats 4000000 in
theorem plant_any (k P : Nat) (hk1 : 1 ≤ k) (hk2 : k ≤ 2) (hP2 : 2 ≤ P) (hP4 : P ≤ 4) (S N : Nat) (hS1 : 1 ≤ S) (hS2 : S ≤ 1073741824) (hN1 : 1 ≤ N) (hN2 : N ≤ k * P * 64) (w : World) (B : Nat) (hB : 2 * k + 2 = B) :
    Calls Try.prog 24 #[.agg #[.int .i64 B, .int .i64 P, .int .i64 S, .int .i64 N]] w (PlantR w k P S (contB S N)) := by
  have g1 := ne_nil
  have g3 := eq_nil
  obtain ⟨img, himg⟩ : ∃ img, contB S N = img := ⟨_, rfl⟩
  have hil : img.length = N := by rw [← himg]; exact contB_length _ _
  have hib : Bytes img := by rw [← himg]; exact contB_bytes _ _
  have hkp : k * P ≤ 8 := Nat.mul_le_mul hk2 hP4
  have hup := new_up (b := 2 * k + 2) (p := P) (by omega) (by omega) (by omega) (by omega)
  have hwl : (newF (2 * k + 2) P).wear.length = 2 * k + 2 := by unfold newF; simp
  have hsz : sizeF (newF (2 * k + 2) P) (2 * k + 2) = k * P * 64 := by
    unfold sizeF
    rw [show (2 * k + 2 - 2) / 2 = k by omega]
    rfl
  obtain ⟨hpl, hsh, hpk⟩ := planted (first := 0) (k := k) hup hk1 (by omega) (by omega) hP2 hib (by rw [hil]; exact hN1) (by rw [hil, hsz]; exact hN2) (v := (S : Int)) ⟨by omega, by omega⟩
  have HFY : Hid (∀ {w0 w : World} {L : Lc}, FlAt w0 w L (newF (2 * k + 2) P) → ∀ A, Apart L w A (kcells .u8 img) → Calls Try.prog 18 #[.pointer (some ⟨L.d, 0, none⟩), .int .i64 0, .int .i64 B, .int .i64 S, .slice A N N] w fun e w' => e = .returned .nilIface ∧ FlAt w0 w' L (fmtC (newF (2 * k + 2) P) 0 (2 * k + 2) S (sumZ img) img).2.1 ∧ Only L w w') := fun hF A hA =>
    fmt_yes hF hup rfl 0 k hk1 (by omega) (by omega) hP2 (S : Int) ⟨by omega, by omega⟩ A N N img hA hil (Nat.le_refl _) (by unfold maxLen; omega) hib hN1 (by rw [hsz]; exact hN2) 0 (B : Int) rfl (by rw [hB])
  obtain ⟨G, hG⟩ : ∃ G, (fmtC (newF (2 * k + 2) P) 0 (2 * k + 2) S (sumZ img) img).2.1 = G := ⟨_, rfl⟩
  rw [hG] at hpl hsh hpk HFY
  obtain ⟨b, hb⟩ : ∃ b, fwOpenB G ((0 : Nat) : Int) ((2 * k + 2 : Nat) : Int) = b := ⟨_, rfl⟩
  rw [hb] at hpl
  have HCT := Lib.hid (fun W => cont_n (S : Int) (N : Int) N (by unfold clipI; omega) W)
  rw [himg] at HCT ⊢
  have HNW := Lib.hid (fun W => new_okI (B : Int) (P : Int) (2 * k + 2) P (by rw [hB]) rfl W (by omega) (by omega) (by omega) (by omega))
  have HPL := Lib.hid hpl
  have HSH := Lib.hid hsh
  have HPK := Lib.hid hpk
  have HIL := Lib.hid hil
  have HOP : Hid (∀ {w0 w : World} {L : Lc}, FlAt w0 w L G → Calls Try.prog 15 #[.pointer (some ⟨L.d, 0, none⟩), .int .i64 0, .int .i64 B] w (FOpenR w0 w L G b)) := fun {w0 w L} hF => by
    have := fopen_yes hF (0 : Int) (B : Int) (by have := hpl.reg; rw [hB] at this; exact this) (by have := hpl.oe; rw [hB] at this; exact this) (by rw [hpk]; exact RdX.nil)
    rw [show fwOpenB G (0 : Int) (B : Int) = b by rw [← hb, hB]; rfl] at this
    exact this
  obtain ⟨V, hV⟩ : ∃ V, w.alloc (.cells #[.int .i64 B, .int .i64 P, .int .i64 S, .int .i64 N] 59) = V := ⟨_, rfl⟩
  have HBV : Hid (Below w.heap.size w V) := by rw [← hV]; exact (Below.refl _ _).alloc (Nat.le_refl _) _
  have HCV : Hid (four V w.heap.size (.int .i64 B) (.int .i64 P) (.int .i64 S) (.int .i64 N)) := by rw [← hV]; exact four_new _ _ _ _ _ _ _ rfl
  clear himg hil hib hup hwl hsz hpl hsh hpk hG hb
  go_enter Try.func24, Try.ntmps24
  obtain ⟨d0, d1, d2, d3, dz⟩ := HCV.out
  clear dz
  go_wp2_with (fail)
  try rw [hV]
  clear hV
  (with_reducible refine (HNW.out V).mono ?_)
  rintro e w1 ⟨L, rfl, hF⟩
  have HF := Lib.hid hF
  have HC1 := Lib.hid (HCV.out.below hF.below HCV.out.lt)
  clear hF d0 d1 d2 d3
  obtain ⟨d0, d1, d2, d3, dz⟩ := HC1.out
  clear dz
  have HFO : Hid (∀ W W' : World, Below V.heap.size V W → Only L W W' → four W' w.heap.size (.int .i64 B) (.int .i64 P) (.int .i64 S) (.int .i64 N)) := fun W W' hb ho => by
    obtain ⟨x0, x1, x2, x3, x4⟩ := HCV.out.below hb HCV.out.lt
    have hlt := HCV.out.lt
    have e := ho.block w.heap.size (Nat.lt_of_lt_of_le hlt hb.size) (by have := HF.out.bd; omega) (by have := HF.out.bi.1; omega) (by have := HF.out.bw.1; omega)
    exact ⟨(cell_of_block e).trans x0, (cell_of_block e).trans x1, (cell_of_block e).trans x2, (cell_of_block e).trans x3, fun j => (frozen_of_block e).trans (x4 j)⟩
  have HB1 : Hid (Below V.heap.size V w1) := HF.out.below
  have k0 : w1.drew.cell? ⟨w.heap.size, 0, none⟩ = some (.int .i64 B) ∧ w1.drew.cell? ⟨w.heap.size, 2, none⟩ = some (.int .i64 S) ∧ w1.drew.cell? ⟨w.heap.size, 3, none⟩ = some (.int .i64 N) := ⟨d0, d2, d3⟩
  have HCTW : Hid (∀ W, Below w1.heap.size w1 W → Calls Try.prog 25 #[.int .i64 S, .int .i64 N] W fun e w' => ∃ A, e = .returned (.slice A N N) ∧ Apart L w' A (kcells .u8 img) ∧ Below w1.heap.size w1 w' ∧ (w'.cell? ⟨w.heap.size, 0, none⟩ = some (.int .i64 B) ∧ w'.cell? ⟨w.heap.size, 2, none⟩ = some (.int .i64 S) ∧ w'.cell? ⟨w.heap.size, 3, none⟩ = some (.int .i64 N))) := fun W hb => (HCT.out W).mono (fun e w' ⟨A, he, ho, hb2⟩ => by
    have hbb : Below w1.heap.size w1 w' := hb.trans (hb2.mono hb.size)
    obtain ⟨x0, x1, x2, x3, x4⟩ := HFO.out w' w' (HB1.out.trans (hbb.mono HB1.out.size)) (Only.refl _ _)
    exact ⟨A, he, apart_own (HF.out.later hb) (by rw [kcells_length]; exact HIL.out) ho, hbb, x0, x2, x3⟩)
  have HFYW : Hid (∀ W A, Below w1.heap.size w1 W → Apart L W A (kcells .u8 img) → Calls Try.prog 18 #[.pointer (some ⟨L.d, 0, none⟩), .int .i64 0, .int .i64 B, .int .i64 S, .slice A N N] W fun e w' => e = .returned .nilIface ∧ FlAt V w' L G ∧ (w'.cell? ⟨w.heap.size, 0, none⟩ = some (.int .i64 B) ∧ w'.cell? ⟨w.heap.size, 2, none⟩ = some (.int .i64 S) ∧ w'.cell? ⟨w.heap.size, 3, none⟩ = some (.int .i64 N))) := fun W A hb hA => (HFY.out (HF.out.later hb) A hA).mono (fun e w' ⟨he, hf, ho⟩ => by
    obtain ⟨x0, x1, x2, x3, x4⟩ := HFO.out W w' (HB1.out.trans (hb.mono HB1.out.size)) ho
    exact ⟨he, hf, x0, x2, x3⟩)
  go_wp2_with (fail)
  go_region_held3 (fun w9 => w9.cell? ⟨w.heap.size, 0, none⟩ = some (.int .i64 B) ∧ w9.cell? ⟨w.heap.size, 2, none⟩ = some (.int .i64 S) ∧ w9.cell? ⟨w.heap.size, 3, none⟩ = some (.int .i64 N)) (first | exact k0 | exact k2 | exact k3 | exact ⟨d0, d2, d3⟩ | go_keep) (first
    | (go_at_call 25; with_reducible refine (HCTW.out _ (by first | exact Below.drew (Below.refl _ _) | exact Below.refl _ _ | exact Below.drewN (Below.refl _ _) _)).mono ?_; rintro e w2 ⟨A2, rfl, hap, hb2, k2⟩)
    | (go_at_call 18; with_reducible refine (HFYW.out _ _ hb2 hap).mono ?_; rintro e w3 ⟨rfl, hf3, k3⟩)
    | fail)
  all_goals
    obtain ⟨x0, -, -⟩ := k3
    have HF3 := Lib.hid hf3
    clear hap hb2 hf3 k2 k0 d0 d1 d2 d3
    go_wp2_with (fail)
    (with_reducible refine (HOP.out HF3.out).mono ?_)
    rintro e w4 ⟨S4, K4, rfl, hk, hb4, hD4, hG4, hKD4, hKv4⟩
    have HK4 := Lib.hid hk
    have HKD : Hid (w.heap.size < K4.D) := Nat.lt_of_lt_of_le HCV.out.lt (Nat.le_trans HF3.out.below.size hKD4)
    have e9 := neb_some K4.D
    clear hk hb4 hD4 hG4 hKD4 hKv4 x0
    go_wp2
    go_ret3
    exact ⟨V, { L with E := fun g => L.E g ∨ g = K4.D }, S4, K4, G, b, rfl, HBV.out, HK4.out, HPL.out, HSH.out, HPK.out⟩
end Go.Proofs.Ytjdknddnanopaaa
