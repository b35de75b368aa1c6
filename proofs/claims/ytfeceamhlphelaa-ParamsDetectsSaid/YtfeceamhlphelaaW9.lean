/-
  awake of layer 50.
-/
import Derived.Test.YtfeceamhlphelaaW8
namespace Go.Proofs.Ytfeceamhlphelaa
open Go.RowKit
set_option linter.unusedVariables false

def awF1 : Fl := (progF (newF 2 2) 3 (List.replicate 64 5)).1
def awF2 : Fl := fuseF awF1 0 [0, 0, 0, 2, 255]
def awF3 : Fl := (eraseF awF2 1).1
def awF4 : Fl := startF awF3
set_option maxRecDepth 100000 in
theorem aw1 : (progF (newF 2 2) 3 (List.replicate 64 5)).2 = 0 := by decide
set_option maxRecDepth 100000 in
theorem aw2 : (eraseF awF2 1).2 = 20 ∧ awF3.down = true := by decide
set_option maxRecDepth 100000 in
theorem aw3 : (readF awF4 3).2 = 0 ∧ (readF awF4 3).1.length = 64 ∧ (readF awF4 3).1[0]? = some 5 := by decide
set_option maxRecDepth 100000 in
theorem aw4 : awF4.wear = [0, 1] := by
  have h1 : awF4.wear = [0, wrap64 (0 + 1)] := rfl
  rw [h1, show wrap64 (0 + 1) = 1 by unfold wrap64; omega]

theorem bytes_rep (n : Nat) (x : Int) (hx : 0 ≤ x ∧ x < 256) : Bytes (List.replicate n x) := by
  intro y hy
  rw [List.mem_replicate] at hy
  omega
theorem aw5 : Bytes [0, 0, 0, 2, 255] := by
  intro x hx
  simp at hx
  omega

theorem new_okI (bi pi : Int) (b p : Nat) (hb : bi = b) (hp : pi = p) (w : World) (h1 : 1 ≤ b) (h2 : b ≤ 64) (h3 : 1 ≤ p) (h4 : p ≤ 16) :
    Calls Try.prog 23 #[.int .i64 bi, .int .i64 pi] w fun e w' => ∃ L, e = .returned (.tuple #[.pointer (some ⟨L.d, 0, none⟩), .nilIface]) ∧ FlAt w w' L (newF b p) := by
  subst hb hp
  exact new_ok b p w h1 h2 h3 h4

set_option maxRecDepth 100000 in
set_option maxHeartbeats 4000000 in
theorem awake_any (w : World) : Calls Try.prog 21 #[] w fun e w' => e = .returned (.bool true) ∧ Below w.heap.size w w' := by
  have H1 := Lib.hid aw1
  have H2 := Lib.hid aw2
  have H3 := Lib.hid aw3
  have H4 := Lib.hid aw4
  have g1 := ne_nil
  have g2 := ne_err
  have g3 := eq_nil
  have HE20 : Hid (errV 20 = .iface 40 (.int .i64 20)) := errV_ne (by omega)
  go_enter Try.func21, Try.ntmps21
  go_wp2_with (fail)
  (with_reducible refine (new_okI 2 2 2 2 rfl rfl w (by omega) (by omega) (by omega) (by omega)).mono ?_)
  rintro e w1 ⟨L, rfl, hF⟩
  have HF1 := Lib.hid hF
  have g4 := eqp_some L.d
  clear hF
  go_wp2_with (fail)
  (with_reducible refine (fill_any 5 (by omega) w1).mono ?_)
  rintro e w2 ⟨A, rfl, ho, hb⟩
  have HF2 := Lib.hid (HF1.out.later hb)
  have HAP := Lib.hid (apart_own HF1.out (by rw [kcells_length, List.length_replicate]) ho)
  clear ho hb
  go_wp2_with (fail)
  (with_reducible refine (program_any HF2.out 3 A 64 64 (List.replicate 64 5) HAP.out (by rw [List.length_replicate]) (by omega) (by decide) (bytes_rep 64 5 (by omega))).mono ?_)
  rintro e w3 ⟨rfl, hF, _⟩
  rw [H1.out, errV_zero]
  have HF3 : Hid (FlAt w w3 L awF1) := hF
  clear hF HAP
  go_wp2_with (fail)
  have HR5 : Hid (Rd (w3.alloc (.cells #[.int .u8 0, .int .u8 0, .int .u8 0, .int .u8 2, .int .u8 255] 5)) (w3.alloc (.cells #[.int .u8 0, .int .u8 0, .int .u8 0, .int .u8 2, .int .u8 255] 5)).heap.size (some ⟨w3.heap.size, 0, none⟩) (kcells .u8 [0, 0, 0, 2, 255])) := by
    rw [World.size_alloc]
    exact Rd.new w3 _ _ _ rfl
  (with_reducible refine (fuse_any (HF3.out.alloc _) 0 (by omega) (by omega) _ 5 5 [0, 0, 0, 2, 255] HR5.out rfl (by omega) aw5).mono ?_)
  rintro e w4 ⟨rfl, ⟨Ap, cp, hF⟩, _⟩
  have HF4 : Hid (FlAt w w4 { L with Ap := Ap, cp := cp } awF2) := hF
  clear hF
  go_wp2_with (fail)
  (with_reducible refine (erase_any HF4.out 1).mono ?_)
  rintro e w5 ⟨rfl, hF, _⟩
  rw [H2.out.1, HE20.out]
  have HF5 : Hid (FlAt w w5 { L with Ap := Ap, cp := cp } awF3) := hF
  clear hF
  go_wp2_with (fail)
  (with_reducible refine (is_err 20 20 _).mono ?_)
  rintro e w5' ⟨rfl, rfl⟩
  go_wp2_with (fail)
  (with_reducible refine (down_any HF5.out).mono ?_)
  rintro e w5' ⟨rfl, rfl⟩
  rw [H2.out.2]
  go_wp2_with (fail)
  (with_reducible refine (start_any HF5.out).mono ?_)
  rintro e w6 ⟨rfl, ⟨Ap2, cp2, hF⟩, _⟩
  have HF6 : Hid (FlAt w w6 { L with Ap := Ap2, cp := cp2 } awF4) := hF
  clear hF
  go_wp2_with (fail)
  (with_reducible refine (read_any HF6.out 3).mono ?_)
  rintro e w7 ⟨v', rfl, ho, hb⟩
  obtain ⟨⟨x, k⟩, hx⟩ : ∃ q, readF awF4 3 = q := ⟨_, rfl⟩
  have hh := H3.out
  rw [hx] at ho hh ⊢
  simp only at ho hh ⊢
  obtain ⟨h1, h2, h3⟩ := hh
  subst h1
  rw [h2] at ho
  obtain ⟨A7, c7, rfl, hc71, hc72, hr7⟩ := own_read ho
  have HF7 := Lib.hid (HF6.out.later hb)
  have HR7 := Lib.hid hr7
  have HX := Lib.hid h3
  clear ho hb hr7 hx h2 h3
  simp only [errV_zero]
  go_wp2_with (fail)
  (with_reducible refine (wear_any HF7.out).mono ?_)
  rintro e w8 ⟨v', rfl, ho, hb⟩
  rw [H4.out] at ho
  obtain ⟨A8, c8, rfl, hc81, hc82, hr8⟩ := own_read ho
  have HF8 := Lib.hid (HF7.out.later hb)
  obtain ⟨b7, o7, rfl, _, d0⟩ := (HR7.out.below hb (Nat.le_refl _)).kint HX.out
  obtain ⟨b8, o8, rfl, _, d1⟩ := hr8.int (k := 0) (x := 0) rfl
  have d2 : w8.cell? ⟨b8, o8 + 1, none⟩ = some (.int .i64 1) := by
    obtain ⟨b', o', e', _, d⟩ := hr8.int (k := 1) (x := 1) rfl
    obtain ⟨rfl, rfl⟩ : b8 = b' ∧ o8 = o' := by simpa using e'
    exact d
  have d0' : w8.cell? ⟨b7, o7, none⟩ = some (.int .u8 5) := by simpa using d0
  have d1' : w8.cell? ⟨b8, o8, none⟩ = some (.int .i64 0) := by simpa using d1
  clear ho hb hr8 d0 d1
  simp only [List.length_cons, List.length_nil]
  go_wp2
  go_ret
  exact ⟨rfl, HF8.out.below⟩
end Go.Proofs.Ytfeceamhlphelaa
