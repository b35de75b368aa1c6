/-
  awake of layer 51.
-/
import Derived.Test.YtfeceamhlphelaaPlainQ
import Derived.Test.YtfeceamhlphelaaW9
namespace Go.Proofs.Ytfeceamhlphelaa
open Go.RowKit
set_option linter.unusedVariables false
set_option pp.deepTerms true

theorem rdx_at {X : Nat → Prop} {w : World} {B b off : Nat} {xs : List Value} (h : Rd w B (some ⟨b, off, none⟩) xs) (hB : B ≤ w.heap.size) (hX : ¬ X b) : RdX X w (some ⟨b, off, none⟩) xs := fun hx => by
  obtain ⟨b', off', e, hlt, hc⟩ := h hx
  obtain ⟨rfl, rfl⟩ : b = b' ∧ off = off' := by simpa using e
  exact ⟨b, off, rfl, Nat.lt_of_lt_of_le hlt hB, hX, hc⟩
theorem open_yesI {w0 w : World} {L : Lc} {f : Fl} (h : FlAt w0 w L f) (fiI blI : Int) (fi bl : Nat) (hfi : fiI = fi) (hbl : blI = bl) (A : Option Addr) (n c : Nat) (sp : List Par) (hA : Rd w w.heap.size A (pcells sp)) (hn : sp.length = n) (hnc : n ≤ c) (hcm : c ≤ maxLen) (hok : ∀ p ∈ sp, p.ok) (he : openE f fi bl sp = 0) :
    Calls Try.prog 56 #[.pointer (some ⟨L.d, 0, none⟩), .int .i64 fiI, .int .i64 blI, .slice A n c] w (OpenR w0 w L f (openF f fi bl sp)) := by
  subst hfi hbl
  exact open_yes h fi bl A n c sp hA hn hnc hcm hok he
theorem neq_some (d : Nat) (w : World) : (binOp .neq 88 (.pointer (some ⟨d, 0, none⟩)) (.pointer none)).run Try.prog w = .ok (.bool true) w := by kernel_rfl

set_option maxRecDepth 100000 in
set_option maxHeartbeats 8000000 in
theorem awake51_any (w : World) : Calls Try.prog 46 #[] w fun e w' => e = .returned (.bool true) ∧ Below w.heap.size w w' := by
  have g1 := ne_nil
  have g2 := ne_err
  have H1 := Lib.hid aq1
  have H2 := Lib.hid aq2
  have H3 := Lib.hid aq3
  have H4 := Lib.hid aq4
  have H5 := Lib.hid aq5
  have H6 := Lib.hid aq6
  have hm1 : 1 ≤ maxLen := by unfold maxLen; omega
  go_enter Try.func46, Try.ntmps46
  go_wp2_with (fail)
  (with_reducible refine (new_okI 2 4 2 4 rfl rfl w (by omega) (by omega) (by omega) (by omega)).mono ?_)
  rintro e w1 ⟨L, rfl, hF⟩
  have HF1 : Hid (FlAt w w1 L awF0) := hF
  clear hF
  go_wp2_with (fail)
  have hRP : Rd (w1.alloc (.cells #[.int .i64 0, .int .i64 9, .int .i64 3] 99)) (w1.heap.size + 1) (some ⟨w1.heap.size, 0, none⟩) (pcells awP) := Rd.new w1 _ _ _ rfl
  have HF2 := Lib.hid (HF1.out.alloc (.cells #[.int .i64 0, .int .i64 9, .int .i64 3] 99))
  obtain ⟨W, hW⟩ : ∃ W, w1.alloc (.cells #[.int .i64 0, .int .i64 9, .int .i64 3] 99) = W := ⟨_, rfl⟩
  have hWs : W.heap.size = w1.heap.size + 1 := by rw [← hW]; exact Array.size_push _
  rw [hW] at hRP HF2 ⊢
  rw [← hWs] at hRP
  have HRP := Lib.hid hRP
  have HWS := Lib.hid hWs
  clear hRP hW hWs
  (with_reducible refine (open_yesI HF2.out 0 2 0 2 rfl rfl _ 1 1 awP HRP.out rfl (Nat.le_refl _) hm1 awP_ok H1.out).mono ?_)
  rintro e w3 ⟨S, rfl, hS, hb, hD, hG⟩
  have HS3 : Hid (StAt w w3 L S awF0 awS0) := hS
  have HX3 : Hid (RdX (Own L S) w3 (some ⟨w1.heap.size, 0, none⟩) (pcells awP)) := by
    refine rdx_at (HRP.out.below hb (Nat.le_refl _)) hb.size ?_
    have l1 := HF1.out.ld
    have l2 := HF1.out.bi.2
    have l3 := HF1.out.bw.2
    have l4 := HWS.out
    rintro (e | e | e | e | e) <;> omega
  have HOK3 : Hid (StOk awF0 awS0) := openF_ok awP_ok H1.out
  clear hS hb hD hG
  have q1 := eqq_some S.D
  go_wp2_with (fail)
  (with_reducible refine (set_any HS3.out HOK3.out 0 5).mono ?_)
  rintro e w4 ⟨he, hs4, ho4⟩
  rw [H2.out, errV_zero] at he
  subst he
  have HS4 : Hid (StAt w w4 L S awF0 awS1) := hs4
  have HX4 := Lib.hid (HX3.out.onlyX ho4)
  have HOK4 : Hid (StOk awF0 awS1) := setF_ok HOK3.out (by unfold I64; omega)
  clear hs4 ho4
  go_wp2_with (fail)
  (with_reducible refine (commit_any HS4.out HOK4.out).mono ?_)
  rintro e w5 ⟨he, ⟨S5, hd5, hg5, hs5⟩, ho5⟩
  have he' : e = .returned .nilIface := by
    rw [he]
    have := H3.out
    unfold awC at this
    rw [this, errV_zero]
  subst he'
  have HF5 : Hid (FlAt w w5 L awC.2.1) := hs5.fl
  have HX5 := Lib.hid (HX4.out.onlyX ho5)
  clear he hs5 ho5 hd5 hg5
  go_wp2_with (fail)
  (with_reducible refine (open_yesI HF5.out 0 2 0 2 rfl rfl _ 1 1 awP HX5.out.rd rfl (Nat.le_refl _) hm1 awP_ok H4.out).mono ?_)
  rintro e w6 ⟨S6, rfl, hS, hb, hD, hG⟩
  have HS6 : Hid (StAt w w6 L S6 awC.2.1 awT) := hS
  have HOK6 : Hid (StOk awC.2.1 awT) := openF_ok awP_ok H4.out
  clear hS hb hD hG
  go_wp2_with (fail)
  (with_reducible refine (read_any HS6.out.fl 0).mono ?_)
  rintro e w7 ⟨v', rfl, ho, hb⟩
  obtain ⟨⟨x, k⟩, hx⟩ : ∃ q, readF awC.2.1 0 = q := ⟨_, rfl⟩
  have hh := H5.out
  rw [hx] at ho hh ⊢
  simp only at ho hh ⊢
  obtain ⟨h1, h2, h3, h4, h5⟩ := hh
  subst h1
  rw [h2] at ho
  obtain ⟨A7, c7, rfl, hc71, hc72, hr7⟩ := own_read ho
  have HS7 := Lib.hid (HS6.out.later hb)
  obtain ⟨b7, o7, rfl, _, d0⟩ := hr7.kint h3
  have d1 : w7.cell? ⟨b7, o7 + 62, none⟩ = some (.int .u8 1) := by
    obtain ⟨b', o', e', _, d⟩ := hr7.kint h4
    obtain ⟨rfl, rfl⟩ : b7 = b' ∧ o7 = o' := by simpa using e'
    exact d
  have d2 : w7.cell? ⟨b7, o7 + 63, none⟩ = some (.int .u8 236) := by
    obtain ⟨b', o', e', _, d⟩ := hr7.kint h5
    obtain ⟨rfl, rfl⟩ : b7 = b' ∧ o7 = o' := by simpa using e'
    exact d
  clear ho hb hr7 hx h2 h3 h4 h5
  simp only [errV_zero]
  go_wp2_with (fail)
  (with_reducible refine (saved_any HS7.out HOK6.out).mono ?_)
  rintro e w8 ⟨v8, rfl, ho, hb⟩
  obtain ⟨t1, t2, t3⟩ := H6.out
  rw [t1, t3] at ho
  obtain ⟨A8, c8, rfl, hc81, hc82, hr8⟩ := own_read ho
  have HS8 := Lib.hid (HS7.out.later hb)
  have HR8 := Lib.hid hr8
  clear ho hb hr8 t1 t3
  have HT2 := Lib.hid t2
  clear t2
  go_wp2_with (fail)
  obtain ⟨V, hV⟩ : ∃ V, w8.alloc (.cells #[.int .i64 5] 3) = V := ⟨_, rfl⟩
  have HBV : Hid (Below w8.heap.size w8 V) := by rw [← hV]; exact (Below.refl _ _).alloc (Nat.le_refl _) _
  have HRV : Hid (Rd V V.heap.size (some ⟨w8.heap.size, 0, none⟩) (icells [5])) := by
    rw [← hV, World.size_alloc]
    exact Rd.new w8 _ _ _ rfl
  rw [hV]
  have HSV := Lib.hid (HS8.out.later HBV.out)
  (with_reducible refine (ints_any A8 (some ⟨w8.heap.size, 0, none⟩) 1 1 c8 1 [5] [5] V ((HR8.out.below HBV.out (Nat.le_refl _)).more HBV.out.size) HRV.out rfl rfl hm1 hm1).mono ?_)
  rintro e w9 ⟨rfl, q9, rfl⟩
  rw [decide_eq_true rfl]
  have HS9 := Lib.hid (HSV.out.later (Below.drewN (Below.refl _ _) q9))
  have HSQ := Lib.hid (sequence_any HS9.out)
  rw [HT2.out] at HSQ
  clear hV
  go_wp2_with (fail)
  (with_reducible refine HSQ.out.mono ?_)
  rintro e w10 ⟨rfl, rfl⟩
  go_wp2
  go_ret
  exact ⟨rfl, HS9.out.fl.below⟩
end Go.Proofs.Ytfeceamhlphelaa
