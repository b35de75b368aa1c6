/-
  Firmware: awake of the statements of layer 52; the statement about sums.
-/
import Derived.Test.YtjdknddnanopaaaG1
import Derived.Test.YtjdknddnanopaaaF16
import Derived.Deep.RegionHeld
import Derived.Lib.SmallJoins
namespace Go.Proofs.Ytjdknddnanopaaa
open Go.RowKit
set_option linter.unusedVariables false
set_option linter.unusedSimpArgs false

theorem rdyB_up {f : Fl} {b : Bk} (h : b.broken = false) (hd : f.down = false) : rdyB b f = b := by
  unfold rdyB
  rw [h, hd]
  obtain ⟨_, _, _, _, _, _, _, _, _, _, _, _, _, _⟩ := b
  simp only at h
  subst h
  rfl
/-- Boot without a trial. -/
theorem boot_plain {f : Fl} {b : Bk} (h : b.broken = false) (hd : f.down = false) (hs : b.slot = 2) {a : Nat} (h0 : savB b 0 = a) (h1 : savB b 1 = 2) : bootB b f = ({ b with slot := a }, f, (a : Int), 0) := by
  unfold bootB
  rw [rdyB_up h hd, if_neg (by rw [h]; decide), if_neg (by rw [hs]; simp), h1, if_pos rfl, h0, Int.toNat_natCast]
/-- The image of a slot. -/
theorem image_plain {f : Fl} {b : Bk} (h : b.broken = false) (hd : f.down = false) {s n : Nat} {img : List Int} (hs : s ≤ 1) (hn : savB b (4 + 3 * s) = n) (hn1 : 1 ≤ n) (hu : b.upload = false ∨ b.dst ≠ s) (hi : imgB f b s n = img) (hc : savB b (5 + 3 * s) = sumZ img) : imageB b f (s : Int) = (b, img, 0) := by
  unfold imageB
  rw [rdyB_up h hd, if_neg (by rw [h]; decide), if_neg (by omega), Int.toNat_natCast, hn, if_neg (by
    rintro (e | e)
    · omega
    · rcases hu with hu | hu
      · rw [hu] at e; cases e.1
      · exact hu (by omega)), Int.toNat_natCast, hi, hc, if_neg (by simp)]

theorem fopen_yes {w0 w : World} {L : Lc} {f : Fl} (h : FlAt w0 w L f) (first blocks : Int) (hE : regE f first blocks = 0) (hz : fwOpenE f first blocks = 0) (hpE : RdX L.E w L.Ap (kcells .u8 f.picks)) :
    Calls Try.prog 15 #[.pointer (some ⟨L.d, 0, none⟩), .int .i64 first, .int .i64 blocks] w (FOpenR w0 w L f (fwOpenB f first blocks)) :=
  (open_go h first blocks hE hpE).mono (fun e w' hh => by rw [if_pos hz] at hh; exact hh)
theorem fopen_no2 {w0 w : World} {L : Lc} {f : Fl} (h : FlAt w0 w L f) (first blocks : Int) (hE : regE f first blocks = 0) (hz : fwOpenE f first blocks ≠ 0) (hpE : RdX L.E w L.Ap (kcells .u8 f.picks)) :
    Calls Try.prog 15 #[.pointer (some ⟨L.d, 0, none⟩), .int .i64 first, .int .i64 blocks] w fun e w' => e = .returned (.tuple #[.pointer none, errV (fwOpenE f first blocks)]) ∧ Below w.heap.size w w' :=
  (open_go h first blocks hE hpE).mono (fun e w' hh => by rw [if_neg hz] at hh; exact hh)
theorem cont_n (s n : Int) (N : Nat) (hN : (clipI n 0 2000).toNat = N) (w : World) : Calls Try.prog 25 #[.int .i64 s, .int .i64 n] w fun e w' => ∃ A, e = .returned (.slice A N N) ∧ w'.ownsRow w.heap.size 5 1 (.slice A N N) N (kcells .u8 (contB s N)) ∧ Below w.heap.size w w' :=
  (cont_any s n w).mono (fun e w' ⟨A, N', he, hn, ho, hb⟩ => by
    rw [hN] at hn
    subst hn
    exact ⟨A, he, ho, hb⟩)
theorem sum9 : sumZ [49, 50, 51, 52, 53, 54, 55, 56, 57] = 3421780262 := by decide +kernel

theorem bytes9 : Bytes [49, 50, 51, 52, 53, 54, 55, 56, 57] := by
  intro x hx
  simp only [List.mem_cons, List.not_mem_nil, or_false] at hx
  omega
theorem sum9_any (w8 : World) (C : Array Value) (hC : C.toList = kcells .u8 [49, 50, 51, 52, 53, 54, 55, 56, 57]) (fr : Nat × Nat) : Calls Try.prog 10 #[.slice (some ⟨w8.heap.size, 0, none⟩) 9 9] (w8.alloc (.cells C 5 fr)) fun e w' => e = .returned (.int .u32 3421780262) ∧ ∃ q, w' = (w8.alloc (.cells C 5 fr)).drewN q := by
  have hr : Rd (w8.alloc (.cells C 5 fr)) (w8.alloc (.cells C 5 fr)).heap.size (some ⟨w8.heap.size, 0, none⟩) (kcells .u8 [49, 50, 51, 52, 53, 54, 55, 56, 57]) := fun _ =>
    ⟨w8.heap.size, 0, rfl, by rw [World.size_alloc]; omega, fun j u hu => by
      rw [Nat.zero_add, Joins.cell_alloc_mark_at w8 C 5 fr w8.heap.size j rfl, ← Array.getElem?_toList, hC]
      exact hu⟩
  have := fsum_any (some ⟨w8.heap.size, 0, none⟩) 9 9 [49, 50, 51, 52, 53, 54, 55, 56, 57] (w8.alloc (.cells C 5 fr)) hr rfl bytes9 (by omega)
  rw [sum9] at this
  exact this

theorem sum9_lit (w8 : World) (fr : Nat × Nat) : Calls Try.prog 10 #[.slice (some ⟨w8.heap.size, 0, none⟩) 9 9] (w8.alloc (.cells #[.int .u8 49, .int .u8 50, .int .u8 51, .int .u8 52, .int .u8 53, .int .u8 54, .int .u8 55, .int .u8 56, .int .u8 57] 5 fr)) fun e w' => e = .returned (.int .u32 3421780262) ∧ ∃ q, w' = (w8.alloc (.cells #[.int .u8 49, .int .u8 50, .int .u8 51, .int .u8 52, .int .u8 53, .int .u8 54, .int .u8 55, .int .u8 56, .int .u8 57] 5 fr)).drewN q :=
  sum9_any w8 #[.int .u8 49, .int .u8 50, .int .u8 51, .int .u8 52, .int .u8 53, .int .u8 54, .int .u8 55, .int .u8 56, .int .u8 57] rfl fr
set_option maxRecDepth 100000 in
set_option maxHeartbeats 8000000 in
theorem awake52_any (w : World) : Calls Try.prog 9 #[] w fun e w' => e = .returned (.bool true) ∧ Below w.heap.size w w' := by
  have g1 := ne_nil
  have g3 := eq_nil
  obtain ⟨img, himg⟩ : ∃ img, contB 1 70 = img := ⟨_, rfl⟩
  have hil : img.length = 70 := by rw [← himg]; exact contB_length _ _
  have hib : Bytes img := by rw [← himg]; exact contB_bytes _ _
  have hup := new_up (b := 4) (p := 2) (by omega) (by omega) (by omega) (by omega)
  obtain ⟨hpl, -, hpk⟩ := planted (first := 0) (k := 1) hup (by omega) (by omega) (by show 0 + (2 * 1 + 2) ≤ (newF 4 2).wear.length; unfold newF; simp) (by show 2 ≤ 2; omega) hib (by rw [hil]; omega) (by rw [hil]; show 70 ≤ 1 * 2 * 64; omega) (v := 9) ⟨by omega, by omega⟩
  obtain ⟨G, hG⟩ : ∃ G, (fmtC (newF 4 2) 0 (2 * 1 + 2) 9 (sumZ img) img).2.1 = G := ⟨_, rfl⟩
  rw [hG] at hpl hpk
  obtain ⟨B, hB⟩ : ∃ B, fwOpenB G ((0 : Nat) : Int) ((2 * 1 + 2 : Nat) : Int) = B := ⟨_, rfl⟩
  rw [hB] at hpl
  have hsv : B.st.saved = [0, 2, 0, 9, (img.length : Int), sumZ img, 0, 0, 0] := hpl.fr.sv.1
  have hbr : B.broken = false := by rw [hpl.nb]; rfl
  have hsl : B.slot = 2 := by rw [hpl.nb]; rfl
  have hul : B.upload = false := by rw [hpl.nb]; rfl
  have HBT : Hid (bootB B G = ({ B with slot := 0 }, G, ((0 : Nat) : Int), 0)) := boot_plain hbr hpl.up.dn hsl (by unfold savB; rw [hsv]; rfl) (by unfold savB; rw [hsv]; rfl)
  have HIM : Hid (imageB { B with slot := 0 } G 0 = ({ B with slot := 0 }, img, 0)) :=
    image_plain (b := { B with slot := 0 }) hbr hpl.up.dn (s := 0) (by omega) (n := img.length) (by show savB B 4 = _; unfold savB; rw [hsv]; rfl) (by omega) (.inl hul) hpl.im (by show savB B 5 = _; unfold savB; rw [hsv]; rfl)
  have HRN : Hid (runB { B with slot := 0 } = (0, 9)) := by
    unfold runB
    rw [Hid, if_neg (by show ¬ (0 : Nat) = 2; omega)]
    show ((0 : Int), savB B 3) = _
    unfold savB; rw [hsv]; rfl
  have HOK : Hid (BkOk G B) := hpl.ok
  have HOK2 : Hid (BkOk G { B with slot := 0 }) := by
    have ho := hpl.ok
    exact ⟨ho.ok, ho.sp, ho.fi, ho.bl, ho.lg, ho.br, ho.bk, ho.k1, ho.k8, ho.fw, ho.pg, by show 0 ≤ 2; omega, ho.dst, ho.ver, ho.len, ho.fed, ho.er, ho.dt, ho.page⟩
  have HPL := Lib.hid hpl
  have HPK : Hid (G.picks = []) := hpk
  have HIL := Lib.hid hil
  have HIB := Lib.hid hib
  have HGG := Lib.hid hG
  have HBB := Lib.hid hB
  have HCT := Lib.hid (fun W => cont_n 1 70 70 (by decide) W)
  rw [himg] at HCT
  have HUP := Lib.hid hup
  have HW4 : Hid (0 + (2 * 1 + 2) ≤ (newF 4 2).wear.length) := by unfold newF; simp [Hid]
  have HP2 : Hid (2 ≤ (newF 4 2).pg) := by show 2 ≤ 2; omega
  have HSZ : Hid (70 ≤ sizeF (newF 4 2) (2 * 1 + 2)) := by show 70 ≤ 1 * 2 * 64; omega
  clear hpl hsv hbr hsl hul hil hib hG hB himg hup hpk
  go_enter Try.func9, Try.ntmps9
  go_wp2_with (fail)
  (with_reducible refine (new_okI 4 2 4 2 rfl rfl w (by omega) (by omega) (by omega) (by omega)).mono ?_)
  rintro e w1 ⟨L, rfl, hF⟩
  have HF := Lib.hid hF
  clear hF
  go_wp2_with (fail)
  (with_reducible refine (HCT.out w1).mono ?_)
  rintro e w2 ⟨A2, rfl, ho2, hb2⟩
  obtain ⟨A3, c3, e3, h31, h32, -⟩ := own_form ho2
  injection e3 with e31 e32 e33
  subst e31 e33
  have HAP : Hid (Apart L w2 A2 (kcells .u8 img)) := apart_own HF.out (by rw [kcells_length]; exact HIL.out) ho2
  have HF2 := Lib.hid (HF.out.later hb2)
  clear ho2 hb2 e32 h31 h32
  go_wp2_with (fail)
  (with_reducible refine (fmt_yes HF2.out HUP.out rfl 0 1 (by omega) (by omega) HW4.out HP2.out 9 ⟨by omega, by omega⟩ A2 70 70 img HAP.out HIL.out (by omega) (by unfold maxLen; omega) HIB.out (by omega) HSZ.out 0 4 rfl rfl).mono ?_)
  rintro e w3 ⟨rfl, hF3, hO3⟩
  rw [HGG.out] at hF3
  have HF3 := Lib.hid hF3
  have HB3 : Hid (Below w.heap.size w w3) := HF3.out.below
  clear hF3 hO3
  have HOP := Lib.hid (fopen_yes HF3.out 0 4 HPL.out.reg HPL.out.oe (by rw [show G.picks = [] from HPK.out]; exact RdX.nil))
  rw [show fwOpenB G 0 4 = B from HBB.out] at HOP
  unfold FOpenR at HOP
  go_wp2_with (fail)
  (with_reducible refine HOP.out.mono ?_)
  rintro e w4 ⟨S, K, rfl, hk, hb, hD, hG, hKD, hKv⟩
  have HK4 := Lib.hid hk
  have e2 := eqb_some K.D
  clear hk hb hD hG hKD hKv
  go_wp2_with (fail)
  (with_reducible refine (fboot_any HK4.out HOK.out).mono ?_)
  rintro e w5 ⟨rfl, hk⟩
  rw [HBT.out] at hk ⊢
  simp only [errV_zero]
  obtain ⟨L5, S5, K5, hA, hk⟩ := hk
  have HK5 := Lib.hid hk
  have HD5 : Hid (K5.D = K.D) := hA.d
  clear hA hk
  have HIM5 := Lib.hid (fimage_any HK5.out HOK2.out 0)
  rw [HD5.out, HIM.out] at HIM5
  unfold ImgR at HIM5
  go_wp2_with (fail)
  (with_reducible refine HIM5.out.mono ?_)
  rintro e w6 ⟨A6, n6, c6, rfl, hl6, hc61, hc62, hr6, hk⟩
  obtain ⟨L6, S6, K6, hA, hk⟩ := hk
  have HK6 := Lib.hid hk
  have HD6 : Hid (K6.D = K.D) := hA.d.trans HD5.out
  have HR6 := Lib.hid (hr6 (fun _ => False) (fun g hg => hg.elim)).rd
  have hl70 : n6 = 70 := by rw [← hl6]; exact HIL.out
  subst hl70
  have HRN6 := Lib.hid (frunning_any HK6.out HOK2.out)
  rw [HD6.out, HRN.out] at HRN6
  simp only [errV_zero]
  clear hA hk hr6 hl6 hc61 hc62
  go_wp2_with (fail)
  (with_reducible refine HRN6.out.mono ?_)
  rintro e w7 ⟨rfl, hb⟩
  have HB7 : Hid (Below w.heap.size w w7) := HK6.out.st.fl.below.trans (hb.mono HK6.out.st.fl.below.size)
  have HR7 := Lib.hid ((HR6.out.below hb (Nat.le_refl _)).more hb.size)
  clear hb
  have HST : Hid (∀ W, Below w7.heap.size w7 W → (convert 22 9 (.slice A6 70 c6)).run Try.prog W = .ok (.string (strOfNums img)) W) := fun W hb => str_of (HR7.out.below hb (Nat.le_refl _)) HIL.out
  have k0 := HST.out w7 (Below.refl _ _)
  have k1 := HST.out w7.drew (Below.drew (Below.refl _ _))
  have HCW : Hid (∀ W, Below w7.heap.size w7 W → Calls Try.prog 25 #[.int .i64 1, .int .i64 70] W fun e w' => ∃ A, e = .returned (.slice A 70 70) ∧ Rd w' w'.heap.size A (kcells .u8 img) ∧ Below w7.heap.size w7 w') := fun W hb => (HCT.out W).mono (fun e w' ⟨A, he, ho, hb2⟩ => ⟨A, he, own_rd ho, hb.trans (hb2.mono hb.size)⟩)
  go_wp2_with (fail)
  go_region_held (fun w' => (convert 22 9 (.slice A6 70 c6)).run Try.prog w' = .ok (.string (strOfNums img)) w') (first | exact k0 | exact k1 | exact HST.out _ hb8 | exact HST.out _ (hb8.alloc hb8.size _) | exact HST.out _ (Below.drewN (hb8.alloc hb8.size _) _)) (first
    | (go_at_call 25; with_reducible refine (HCW.out _ (Below.drew (Below.refl _ _))).mono ?_; rintro e w8 ⟨A8, rfl, hr8, hb8⟩; have t7 : (convert 22 9 (.slice A8 70 70)).run Try.prog w8 = .ok (.string (strOfNums img)) w8 := str_of hr8 HIL.out; have k3 := Joins.run_convert_bytes_const_at (P := Try.prog) w8 22 5 #[.int .u8 49, .int .u8 50, .int .u8 51, .int .u8 52, .int .u8 53, .int .u8 54, .int .u8 55, .int .u8 56, .int .u8 57] 9 9 w8.heap.size rfl Try.underlying22 Try.underlying5)
    | (go_at_call 10; with_reducible refine (sum9_lit _ _).mono ?_; rintro e w9 ⟨rfl, q9, rfl⟩))
  all_goals
    go_wp2
    go_ret
    exact ⟨rfl, HB7.out.trans ((Below.drewN (hb8.alloc hb8.size _) _).mono HB7.out.size)⟩
end Go.Proofs.Ytjdknddnanopaaa
