/-
  Firmware: Image of a bank.
-/
import Derived.Test.YtjdknddnanopaaaF15
namespace Go.Proofs.Ytjdknddnanopaaa
open Go.RowKit
set_option linter.unusedVariables false
set_option linter.unusedSimpArgs false

theorem BkOk.vals {f : Fl} {b : Bk} (ho : BkOk f b) {s : Nat} (hs : s ≤ 1) : ∃ v l c : Nat, savB b (3 + 3 * s) = v ∧ savB b (4 + 3 * s) = l ∧ savB b (5 + 3 * s) = c ∧ v ≤ 1073741824 ∧ l ≤ sizeF f b.blocks ∧ c < 4294967296 := by
  obtain ⟨va, vt, vk, v0, l0, c0, v1, l1, c1, hv, b1, b2, b3, b4, b5, b6, b7, b8, b9⟩ := ho.vec
  match s, hs with
  | 0, _ => exact ⟨v0, l0, c0, by unfold savB; rw [hv]; rfl, by unfold savB; rw [hv]; rfl, by unfold savB; rw [hv]; rfl, b4, b5, b6⟩
  | 1, _ => exact ⟨v1, l1, c1, by unfold savB; rw [hv]; rfl, by unfold savB; rw [hv]; rfl, by unfold savB; rw [hv]; rfl, b7, b8, b9⟩

section
variable {w0 w w1 w' : World} {L L' : Lc} {S S' : Sc} {K K' : Kc} {f f' : Fl} {b b' : Bk} {s : St}
def ImgR (w0 w : World) (L : Lc) (S : Sc) (K : Kc) (f : Fl) (q : Bk × List Int × Int) (e : Ending) (w' : World) : Prop :=
  ∃ A n c, e = .returned (.tuple #[.slice A n c, errV q.2.2]) ∧ q.2.1.length = n ∧ n ≤ c ∧ c ≤ maxLen ∧ (∀ X : Nat → Prop, (∀ g, X g → g < w.heap.size) → RdX X w' A (kcells .u8 q.2.1)) ∧ BkTo w0 w L S K f q.1 w'
theorem ImgR.no {q : Bk × List Int × Int} {c : Int} {b1 : Bk} (hq : q = (b1, [], c)) (hc : c ≠ 0) (hb : BkTo w0 w L S K f b1 w') : ImgR w0 w L S K f q (.returned (.tuple #[.slice none 0 0, .iface 77 (.int .i64 c)])) w' := by
  subst hq
  exact ⟨none, 0, 0, by rw [errV_ne hc], rfl, Nat.le_refl _, Nat.zero_le _, fun X hX => RdX.nil, hb⟩

set_option maxRecDepth 100000 in
set_option maxHeartbeats 4000000 in
theorem fimage_any (h : BkAt w0 w L S K f b) (ho : BkOk f b) (si : Int) : Calls Try.prog 28 #[.pointer (some ⟨K.D, 0, none⟩), .int .i64 si] w (ImgR w0 w L S K f (imageB b f si)) := by
  have g1 := ne_nil
  have g2 := ne_err
  have HR := Lib.hid (fready_any h)
  have HO := Lib.hid (rdy_ok ho)
  have h9 := ho.sp9
  by_cases hbr : (rdyB b f).broken = true
  · have HB : Hid (imageB b f si = (rdyB b f, [], 20)) := by unfold imageB; rw [Hid, if_pos hbr]
    rw [if_pos hbr, errV_ne (by decide)] at HR
    clear h ho hbr h9
    go_enter Try.func28, Try.ntmps28
    go_wp2_with (fail)
    (with_reducible refine HR.out.mono ?_)
    rintro e w1 ⟨rfl, hK, hX⟩
    have HK := Lib.hid hK
    have HX := Lib.hid hX
    clear hK hX
    go_wp2
    go_ret2
    exact .no HB.out (by decide) (.mk' (.bank HX.out) HK.out)
  have hbf : (rdyB b f).broken = false := by simpa using hbr
  rw [if_neg hbr, errV_zero] at HR
  have HU := Lib.hid (rdy_up hbf)
  have HW := Lib.hid (within62 si 0 1)
  by_cases hsi : 0 ≤ si ∧ si ≤ 1
  case neg =>
    have HB : Hid (imageB b f si = (rdyB b f, [], 10)) := by unfold imageB; rw [Hid, if_neg hbr, if_pos hsi]
    rw [decide_eq_false hsi] at HW
    clear h ho hbr h9 hbf hsi
    go_enter Try.func28, Try.ntmps28
    go_wp2_with (fail)
    (with_reducible refine HR.out.mono ?_)
    rintro e w1 ⟨rfl, hK, hX⟩
    have HK := Lib.hid hK
    have HX := Lib.hid hX
    clear hK hX
    go_wp2_with (fail)
    (with_reducible refine (HW.out _).mono ?_)
    rintro e w2 ⟨rfl, rfl⟩
    go_wp2
    go_ret2
    exact .no HB.out (by decide) (.mk' (.bank HX.out) HK.out)
  rw [decide_eq_true hsi] at HW
  obtain ⟨s, hss⟩ : ∃ s : Nat, si = s := ⟨si.toNat, by omega⟩
  subst hss
  have hs1 : s ≤ 1 := by omega
  obtain ⟨vv, l, cc, hv1, hv2, hv3, hb1, hb2, hb3⟩ := ho.vals hs1
  have HV2 : Hid (savB (rdyB b f) (4 + 3 * s) = (l : Int)) := hv2
  have HV3 : Hid (savB (rdyB b f) (5 + 3 * s) = (cc : Int)) := hv3
  have HS9 : Hid ((rdyB b f).st.spec.length = 9) := h9
  have SV : Hid (∀ w1 : World, BkAt w0 w1 L S K f (rdyB b f) → Calls Try.prog 57 #[.pointer (some ⟨K.D, 0, none⟩), .int .i64 (4 + 3 * (s : Int))] w1 fun e w' => e = .returned (.int .i64 l) ∧ Below w1.heap.size w1 w') := fun w1 hK => by
    have := fsaved_any hK HO.out.ok (4 + 3 * (s : Int)) (4 + 3 * s) (by push_cast; rfl) (by rw [HS9.out]; omega)
    rw [HV2.out] at this
    exact this
  have SV5 : Hid (∀ w1 : World, BkAt w0 w1 L S K f (rdyB b f) → Calls Try.prog 57 #[.pointer (some ⟨K.D, 0, none⟩), .int .i64 (5 + 3 * (s : Int))] w1 fun e w' => e = .returned (.int .i64 cc) ∧ Below w1.heap.size w1 w') := fun w1 hK => by
    have := fsaved_any hK HO.out.ok (5 + 3 * (s : Int)) (5 + 3 * s) (by push_cast; rfl) (by rw [HS9.out]; omega)
    rw [HV3.out] at this
    exact this
  by_cases hl : l = 0
  · have HB : Hid (imageB b f (s : Int) = (rdyB b f, [], 12)) := by unfold imageB; rw [Hid, if_neg hbr, if_neg (by simpa using hsi), if_pos (.inl (by rw [Int.toNat_natCast, hv2, hl]; rfl))]
    subst hl
    clear h ho hbr h9 hbf hsi hv1 hv2 hv3
    go_enter Try.func28, Try.ntmps28
    go_wp2_with (fail)
    (with_reducible refine HR.out.mono ?_)
    rintro e w1 ⟨rfl, hK, hX⟩
    have HK := Lib.hid hK
    have HX := Lib.hid hX
    clear hK hX
    go_wp2_with (fail)
    (with_reducible refine (HW.out _).mono ?_)
    rintro e w2 ⟨rfl, rfl⟩
    go_wp2_with (fail)
    (with_reducible refine (SV.out _ HK.out).mono ?_)
    rintro e w3 ⟨rfl, hB⟩
    have HB3 := Lib.hid hB
    clear hB
    go_wp2
    go_ret2
    exact .no HB.out (by decide) (.mk' ((Aft.bank HX.out).trans (Aft.of_below HB3.out)) (HK.out.later HB3.out))
  have hl1 : ¬ (l : Int) = 0 := by omega
  have hl2 : ((l : Int) == 0) = false := by simpa using hl1
  by_cases hud : b.upload = true ∧ b.dst = s
  · have HB : Hid (imageB b f (s : Int) = (rdyB b f, [], 12)) := by unfold imageB; rw [Hid, if_neg hbr, if_neg (by simpa using hsi), if_pos (.inr ⟨hud.1, by rw [hud.2]⟩)]
    obtain ⟨hu, hdd⟩ := hud
    clear h ho hbr h9 hbf hsi hv1 hv2 hv3
    go_enter Try.func28, Try.ntmps28
    go_wp2_with (fail)
    (with_reducible refine HR.out.mono ?_)
    rintro e w1 ⟨rfl, hK, hX⟩
    have HK := Lib.hid hK
    have HX := Lib.hid hX
    clear hK hX
    go_wp2_with (fail)
    (with_reducible refine (HW.out _).mono ?_)
    rintro e w2 ⟨rfl, rfl⟩
    go_wp2_with (fail)
    (with_reducible refine (SV.out _ HK.out).mono ?_)
    rintro e w3 ⟨rfl, hB⟩
    have HB3 := Lib.hid hB
    have c6 : w3.cell? ⟨K.D, 6, none⟩ = some (.bool b.upload) := (HK.out.later hB).row 6 _ rfl
    have c7 : w3.cell? ⟨K.D, 7, none⟩ = some (.int .i64 b.dst) := (HK.out.later hB).row 7 _ rfl
    rw [hu] at c6
    rw [hdd] at c7
    clear hB
    go_wp2
    go_ret2
    exact .no HB.out (by decide) (.mk' ((Aft.bank HX.out).trans (Aft.of_below HB3.out)) (HK.out.later HB3.out))
  have hcase : b.upload = false ∨ (b.upload = true ∧ ¬ (b.dst : Int) = (s : Int) ∧ ((b.dst : Int) == (s : Int)) = false) := by
    by_cases hu : b.upload = true
    · refine .inr ⟨hu, ?_, ?_⟩
      · intro e; exact hud ⟨hu, by omega⟩
      · have : ¬ (b.dst : Int) = (s : Int) := fun e => hud ⟨hu, by omega⟩
        simpa using this
    · exact .inl (by simpa using hu)
  obtain ⟨img, himg⟩ : ∃ img, imgB f b s l = img := ⟨_, rfl⟩
  obtain ⟨C, hC⟩ : ∃ C, sumZ img = C := ⟨_, rfl⟩
  have hCr : 0 ≤ C ∧ C < 4294967296 := by rw [← hC]; exact sumZ_u32 img
  have HBI : Hid (imageB b f (s : Int) = if C ≠ (cc : Int) then (rdyB b f, [], 19) else (rdyB b f, img, 0)) := by
    unfold imageB
    rw [Hid, if_neg hbr, if_neg (by simpa using hsi), if_neg (by
      rintro (e | e)
      · rw [Int.toNat_natCast, hv2] at e; exact hl1 e
      · exact hud ⟨e.1, by omega⟩), Int.toNat_natCast, hv2, Int.toNat_natCast, himg, hC, hv3]
  have HRD : Hid (∀ w3 : World, BkAt w0 w3 L S K f (rdyB b f) → ∀ X : Nat → Prop, (∀ g, X g → g < w3.heap.size) → Calls Try.prog 80 #[.pointer (some ⟨K.D, 0, none⟩), .int .i64 s, .int .i64 l] w3 fun e w' => ∃ A c, e = .returned (.tuple #[.slice A l c, .nilIface]) ∧ l ≤ c ∧ c ≤ maxLen ∧ RdX X w' A (kcells .u8 img) ∧ img.length = l ∧ Below w3.heap.size w3 w') := fun w3 hK X hX => by
    have := fread_any hK HO.out HU.out.2 s l hs1 (by omega) hb2 X hX
    rw [show imgB f (rdyB b f) s l = img from himg] at this
    exact this
  have HBY : Hid (Bytes img) := by rw [← himg]; unfold imgB; exact bytes_take (bytes_drop h.st.fl.ok.byt _) _
  have HCC := Lib.hid hC
  have hl8 : l ≤ 8192 := Nat.le_trans hb2 (by rw [ho.bk]; exact sizeF_le h.st.fl.ok ho.k8)
  have q3 : IntKind.i64.wrap C = C := IntWalk.i64_in _ (by omega)
  obtain ⟨hC0, hC1⟩ := hCr
  clear h ho hbr h9 hbf hsi hv1 hv2 hv3 himg hC hud
  have hN : (fun g => g < w.heap.size) = (fun g => g < w.heap.size) := rfl
  by_cases hcs : C = (cc : Int)
  all_goals
    rcases hcase with hu | ⟨hu, hd1, hd2⟩
    all_goals
      first
        | (have HB : Hid (imageB b f (s : Int) = (rdyB b f, img, 0)) := by rw [Hid, HBI.out, if_neg (by simpa using hcs)])
        | (have HB : Hid (imageB b f (s : Int) = (rdyB b f, [], 19)) := by rw [Hid, HBI.out, if_pos hcs]
           have hcs2 : (C == (cc : Int)) = false := by simpa using hcs)
      go_enter Try.func28, Try.ntmps28
      go_wp2_with (fail)
      (with_reducible refine HR.out.mono ?_)
      rintro e w1 ⟨rfl, hK, hX⟩
      have HK := Lib.hid hK
      have HX := Lib.hid hX
      clear hK hX
      go_wp2_with (fail)
      (with_reducible refine (HW.out _).mono ?_)
      rintro e w2 ⟨rfl, rfl⟩
      go_wp2_with (fail)
      (with_reducible refine (SV.out _ HK.out).mono ?_)
      rintro e w3 ⟨rfl, hB⟩
      have HK3 := Lib.hid (HK.out.later hB)
      have HA3 : Hid (Aft w w3 L S K L S K) := (Aft.bank HX.out).trans (Aft.of_below hB)
      have c6 : w3.cell? ⟨K.D, 6, none⟩ = some (.bool b.upload) := HK3.out.row 6 _ rfl
      have c7 : w3.cell? ⟨K.D, 7, none⟩ = some (.int .i64 b.dst) := HK3.out.row 7 _ rfl
      rw [hu] at c6
      have HSX : Hid (w.heap.size ≤ w3.heap.size) := Nat.le_trans HX.out.size hB.size
      clear hB
      go_wp2_with (fail)
      (with_reducible refine (HRD.out _ HK3.out (fun g => g < w3.heap.size) (fun g hg => hg)).mono ?_)
      rintro e w4 ⟨A4, c4, rfl, hc1, hc2, hr, hll, hB⟩
      have HK4 := Lib.hid (HK3.out.later hB)
      have HA4 : Hid (Aft w w4 L S K L S K) := HA3.out.trans (Aft.of_below hB)
      have HR4 := Lib.hid hr
      have HL4 := Lib.hid hll
      have HC12 : Hid (l ≤ c4 ∧ c4 ≤ maxLen) := ⟨hc1, hc2⟩
      clear hB hr hll hc1 hc2 c6 c7
      go_wp2_with (fail)
      (with_reducible refine (fsum_any A4 l c4 img w4 HR4.out.rd HL4.out HBY.out (by omega)).mono ?_)
      rintro e w5 ⟨rfl, q, rfl⟩
      rw [HCC.out]
      have HBQ : Hid (Below w4.heap.size w4 (w4.drewN q)) := Below.drewN (Below.refl w4.heap.size w4) q
      have HK5 := Lib.hid (HK4.out.later HBQ.out)
      have HA5 : Hid (Aft w (w4.drewN q) L S K L S K) := HA4.out.trans (Aft.of_below HBQ.out)
      have HR5 := Lib.hid (HR4.out.onlyX (OnlyX.of_below HBQ.out))
      obtain ⟨W5, hW5⟩ : ∃ W, w4.drewN q = W := ⟨_, rfl⟩
      rw [hW5] at HK5 HA5 HR5 ⊢
      clear hW5 HBQ
      go_wp2_with (fail)
      (with_reducible refine (SV5.out _ HK5.out).mono ?_)
      rintro e w6 ⟨rfl, hB⟩
      have HK6 := Lib.hid (HK5.out.later hB)
      have HA6 : Hid (Aft w w6 L S K L S K) := HA5.out.trans (Aft.of_below hB)
      have HR6 := Lib.hid (HR5.out.onlyX (OnlyX.of_below hB))
      clear hB
      go_wp2
      go_ret2
      first
        | exact .no HB.out (by decide) (.mk' HA6.out HK6.out)
        | (rw [HB.out]; exact ⟨A4, l, c4, rfl, HL4.out, HC12.out.1, HC12.out.2, fun X hX => HR6.out.newX (fun g _ hg => Nat.lt_of_lt_of_le (hX g hg) HSX.out), .mk' HA6.out HK6.out⟩)
end
end Go.Proofs.Ytjdknddnanopaaa
