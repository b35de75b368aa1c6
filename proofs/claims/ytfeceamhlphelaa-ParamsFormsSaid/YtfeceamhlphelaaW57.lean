/-
  ParamsForms.
-/
import Derived.Test.YtfeceamhlphelaaW53
namespace Go.Proofs.Ytfeceamhlphelaa
open Go.RowKit
set_option linter.unusedVariables false
set_option linter.unusedSimpArgs false

theorem get_nil (i : Int) (w : World) : Calls Try.prog 61 #[.pointer none, .int .i64 i] w fun e w' => e = .returned (.tuple #[.int .i64 0, .iface 40 (.int .i64 1)]) ∧ w = w' := by
  have h1 := eqq_none
  go_enter Try.func61, Try.ntmps61
  go_wp2
  go_ret2
  exact ⟨rfl, rfl⟩
set_option maxRecDepth 100000 in
theorem set_nil (i v : Int) (w : World) : Calls Try.prog 57 #[.pointer none, .int .i64 i, .int .i64 v] w fun e w' => e = .returned (.iface 40 (.int .i64 1)) ∧ w = w' := by
  have h1 := eqq_none
  go_enter Try.func57, Try.ntmps57
  go_wp2
  go_ret
  exact ⟨rfl, rfl⟩
theorem begin_nil (w : World) : Calls Try.prog 58 #[.pointer none] w fun e w' => e = .returned (.iface 40 (.int .i64 1)) ∧ w = w' := by
  have h1 := eqq_none
  go_enter Try.func58, Try.ntmps58
  go_wp2
  go_ret
  exact ⟨rfl, rfl⟩
set_option maxRecDepth 100000 in
theorem step_nil (w : World) : Calls Try.prog 59 #[.pointer none] w fun e w' => e = .returned (.tuple #[.bool false, .iface 40 (.int .i64 1)]) ∧ w = w' := by
  have h1 := eqq_none
  go_enter Try.func59, Try.ntmps59
  go_wp2
  go_ret2
  exact ⟨rfl, rfl⟩
set_option maxRecDepth 100000 in
theorem commit_nil (w : World) : Calls Try.prog 60 #[.pointer none] w fun e w' => e = .returned (.iface 40 (.int .i64 1)) ∧ w = w' := by
  have g2 := ne_err
  go_enter Try.func60, Try.ntmps60
  go_wp2_with (fail)
  (with_reducible refine (begin_nil _).mono ?_)
  rintro e w1 ⟨rfl, rfl⟩
  go_wp2
  go_ret
  exact ⟨rfl, rfl⟩
theorem saved_nil (w : World) : Calls Try.prog 62 #[.pointer none] w fun e w' => e = .returned (.slice none 0 0) ∧ w = w' := by
  have h1 := eqq_none
  go_enter Try.func62, Try.ntmps62
  go_wp2
  go_ret
  exact ⟨rfl, rfl⟩
theorem sequence_nil (w : World) : Calls Try.prog 63 #[.pointer none] w fun e w' => e = .returned (.int .i64 0) ∧ w = w' := by
  have h1 := eqq_none
  go_enter Try.func63, Try.ntmps63
  go_wp2
  go_ret
  exact ⟨rfl, rfl⟩
theorem broken_nil (w : World) : Calls Try.prog 64 #[.pointer none] w fun e w' => e = .returned (.bool true) ∧ w = w' := by
  have h1 := eqq_none
  go_enter Try.func64, Try.ntmps64
  go_wp2
  go_ret
  exact ⟨rfl, rfl⟩

def fmP : List Par := [⟨-5, 5, 1⟩, ⟨7, 7, 7⟩]
def fmF : Fl := newF 3 2
def fmS : St := openF fmF 1 2 fmP
def fmS1 : St := beginS fmS fmF
def fmQ : St × Fl × Int := commitS fmS1 fmF
def fmT : St × Fl × Bool × Int := stepS fmQ.1 fmQ.2.1
theorem fq1 : openE fmF ((1 : Nat) : Int) ((2 : Nat) : Int) fmP = 0 := by decide +kernel
theorem fq2 : beginE fmS fmF = 12 := by decide +kernel
theorem fq3 : fmQ.2.2 = 12 := by decide +kernel
theorem fq4 : fmT.2.2 = (false, 12) := by decide +kernel
def fmZ : St := ⟨1, 2, fmP, [1, 7], [1, 7], 0, 0, -1, false, [], [], 0, 0, 0, false, false⟩
theorem fq5 : fmT.1 = fmZ := by kernel_rfl
theorem fmP_ok : ∀ p ∈ fmP, p.ok := by
  intro p hp
  simp only [fmP, List.mem_cons, List.not_mem_nil, or_false] at hp
  rcases hp with rfl | rfl
  · exact ⟨by unfold I64; simp, by unfold I64; simp, by unfold I64; simp⟩
  · exact ⟨by unfold I64; simp, by unfold I64; simp, by unfold I64; simp⟩

set_option maxRecDepth 100000 in
set_option maxHeartbeats 16000000 in
theorem forms_any (i v : Int) (hi : I64 i) (hv : I64 v) (w : World) :
    Calls Try.prog 15 #[.int .i64 i, .int .i64 v] w fun e w' => e = .returned (.bool true) ∧ Below w.heap.size w w' := by
  have g1 := ne_nil
  have g2 := ne_err
  have hm2 : 2 ≤ maxLen := by unfold maxLen; omega
  unfold I64 at hi hv
  obtain ⟨hi1, hi2⟩ := hi
  obtain ⟨hv1, hv2⟩ := hv
  go_enter Try.func15, Try.ntmps15
  go_wp2_with (fail)
  (with_reducible refine (awake51_any w).mono ?_)
  rintro e w1 ⟨rfl, hb⟩
  have HB1 := Lib.hid hb
  clear hb
  go_wp2_with (fail)
  (with_reducible refine (new_okI 3 2 3 2 rfl rfl w1 (by omega) (by omega) (by omega) (by omega)).mono ?_)
  rintro e w2 ⟨L, rfl, hF⟩
  have HF2 : Hid (FlAt w1 w2 L fmF) := hF
  clear hF
  go_wp2_with (fail)
  have hRP : Rd (w2.alloc (.cells #[.int .i64 (-5), .int .i64 5, .int .i64 1, .int .i64 7, .int .i64 7, .int .i64 7] 99)) (w2.heap.size + 1) (some ⟨w2.heap.size, 0, none⟩) (pcells fmP) := Rd.new w2 _ _ _ rfl
  have HF3 := Lib.hid (HF2.out.alloc (.cells #[.int .i64 (-5), .int .i64 5, .int .i64 1, .int .i64 7, .int .i64 7, .int .i64 7] 99))
  obtain ⟨W, hW⟩ : ∃ W, w2.alloc (.cells #[.int .i64 (-5), .int .i64 5, .int .i64 1, .int .i64 7, .int .i64 7, .int .i64 7] 99) = W := ⟨_, rfl⟩
  have hWs : W.heap.size = w2.heap.size + 1 := by rw [← hW]; exact Array.size_push _
  rw [hW] at hRP HF3 ⊢
  rw [← hWs] at hRP
  have HRP := Lib.hid hRP
  have HWS := Lib.hid hWs
  clear hRP hW hWs
  (with_reducible refine (open_yesI HF3.out 1 2 1 2 rfl rfl _ 2 2 fmP HRP.out rfl (Nat.le_refl _) hm2 fmP_ok fq1).mono ?_)
  rintro e w3 ⟨S, rfl, hS, hb, hD, hG⟩
  have HS3 : Hid (StAt w1 w3 L S fmF fmS) := hS
  have HX3 : Hid (RdX (Own L S) w3 (some ⟨w2.heap.size, 0, none⟩) (pcells fmP)) := by
    refine rdx_at (HRP.out.below hb (Nat.le_refl _)) hb.size ?_
    have l1 := HF2.out.ld
    have l2 := HF2.out.bi.2
    have l3 := HF2.out.bw.2
    have l4 := HWS.out
    rintro (e | e | e | e | e) <;> omega
  have HO3 : Hid (StOk fmF fmS) := openF_ok fmP_ok fq1
  clear hS hb hD hG
  go_wp2_with (fail)
  (with_reducible refine (begin_any HS3.out HO3.out).mono ?_)
  rintro e w4 ⟨he, ⟨S4, hd4, hg4, hs4⟩, ho4⟩
  rw [fq2, errV_ne (by decide)] at he
  subst he
  have HS4 : Hid (StAt w1 w4 L S4 fmF fmS1) := hs4
  have HX4 := Lib.hid (HX3.out.onlyX ho4)
  have HO4 : Hid (StOk fmF fmS1) := beginS_ok HO3.out
  have HC := Lib.hid (commit_any HS4.out HO4.out)
  rw [hd4] at HC
  have HD4 := Lib.hid hd4
  have HW4 : Hid (Own L S4 = Own L S) := Own.same hd4 hg4
  clear hs4 ho4 hd4
  go_wp2_with (fail)
  (with_reducible refine (is_err 12 12 _).mono ?_)
  rintro e wt ⟨rfl, rfl⟩
  go_wp2_with (fail)
  (with_reducible refine HC.out.mono ?_)
  rintro e w5 ⟨he, ⟨S5, hd5, hg5, hs5⟩, ho5⟩
  have he' : e = .returned (.iface 40 (.int .i64 12)) := by
    rw [he]
    have := fq3
    unfold fmQ at this
    rw [this, errV_ne (by decide)]
  subst he'
  have HS5 : Hid (StAt w1 w5 L S5 fmQ.2.1 fmQ.1) := hs5
  have HO5 : Hid (StOk fmQ.2.1 fmQ.1) := commitS_ok HO4.out
  rw [HW4.out] at ho5
  have HX5 := Lib.hid (HX4.out.onlyX ho5)
  have HW5 : Hid (Own L S5 = Own L S) := (Own.same hd5 hg5).trans HW4.out
  have HST := Lib.hid (step_any HS5.out HO5.out)
  rw [hd5, HD4.out] at HST
  have HD5 : Hid (S5.D = S.D) := hd5.trans HD4.out
  clear he hs5 ho5 hd5 hg5
  go_wp2_with (fail)
  (with_reducible refine (is_err 12 12 _).mono ?_)
  rintro e wt ⟨rfl, rfl⟩
  go_wp2_with (fail)
  (with_reducible refine HST.out.mono ?_)
  rintro e w6 ⟨he, ⟨S6, hd6, hg6, hs6⟩, ho6⟩
  have he' : e = .returned (.tuple #[.bool false, .iface 40 (.int .i64 12)]) := by
    rw [he]
    have := fq4
    unfold fmT at this
    rw [this, errV_ne (by decide)]
  subst he'
  obtain ⟨f6, hf6⟩ : ∃ f6, fmT.2.1 = f6 := ⟨_, rfl⟩
  have HS6 : Hid (StAt w1 w6 L S6 f6 fmZ) := by
    have h : StAt w1 w6 L S6 fmT.2.1 fmT.1 := hs6
    rw [hf6, fq5] at h
    exact h
  have HO6 : Hid (StOk f6 fmZ) := by
    have h : StOk fmT.2.1 fmT.1 := stepS_ok HO5.out
    rw [hf6, fq5] at h
    exact h
  rw [HW5.out] at ho6
  have HX6 := Lib.hid (HX5.out.onlyX ho6)
  have HD6 : Hid (S6.D = S.D) := hd6.trans HD5.out
  have HW6 : Hid (Own L S6 = Own L S) := (Own.same hd6 hg6).trans HW5.out
  have HG := Lib.hid (get_any HS6.out HO6.out i)
  have HSE := Lib.hid (set_any HS6.out HO6.out i v)
  rw [HD6.out] at HG HSE
  clear he hs6 ho6 hd6 hg6 hf6
  go_wp2_with (fail)
  (with_reducible refine (is_err 12 12 _).mono ?_)
  rintro e wt ⟨rfl, rfl⟩
  by_cases hout : i < 0 ∨ 1 < i
  · have hgf : getF fmZ i = (0, 10) := by
      unfold getF
      rw [if_pos (by show i < 0 ∨ ((2 : Nat) : Int) ≤ i; omega)]
    have hse : setE fmZ i v = 10 := by
      unfold setE
      rw [if_neg (by show ¬ (false = true); decide), if_pos (by show i < 0 ∨ ((2 : Nat) : Int) ≤ i; omega)]
    rw [hgf] at HG
    simp only [errV_zero, errV_ne (show (10 : Int) ≠ 0 by decide)] at HG
    clear hgf
    go_wp2_with (fail)
    (with_reducible refine HG.out.mono ?_)
    rintro e wt ⟨rfl, rfl⟩
    go_wp2_with (fail)
    (with_reducible refine HSE.out.mono ?_)
    rintro e w7 ⟨he, hs7, ho7⟩
    rw [hse] at he
    rw [errV_ne (show (10 : Int) ≠ 0 by decide)] at he
    subst he
    have HS7 := Lib.hid hs7
    have HO7 : Hid (StOk f6 (setF fmZ i v)) := setF_ok HO6.out (by unfold I64; omega)
    have HBZ : Hid (Below w.heap.size w w7) := HB1.out.trans (hs7.fl.below.mono HB1.out.size)
    rw [HW6.out] at ho7
    have hx7 := HX6.out.onlyX ho7
    have key : ∀ j u, (pcells fmP)[j]? = some u → w7.cell? ⟨w2.heap.size, j, none⟩ = some u := by
      intro j u hu
      obtain ⟨b', o', e', _, _, hc⟩ := hx7 (by unfold fmP pcells Par.cells; simp)
      obtain ⟨rfl, rfl⟩ : w2.heap.size = b' ∧ 0 = o' := by simpa using e'
      have := hc j u hu
      rwa [Nat.zero_add] at this
    have d0 := key 0 _ rfl
    have d1 := key 1 _ rfl
    have d2 := key 2 _ rfl
    have d3 := key 3 _ rfl
    have d4 := key 4 _ rfl
    have d5 := key 5 _ rfl
    clear hs7 ho7 hx7 key
    rcases hout with hlo | hhi
    · go_wp2_with (fail)
      (with_reducible refine (is_err 10 10 _).mono ?_)
      rintro e wt ⟨rfl, rfl⟩
      go_wp2_with (fail)
      (with_reducible refine (is_err 10 10 _).mono ?_)
      rintro e wt ⟨rfl, rfl⟩
      go_wp2_with (fail)
      (with_reducible refine (get_nil 0 _).mono ?_)
      rintro e wt ⟨rfl, rfl⟩
      go_wp2_with (fail)
      (with_reducible refine (step_nil _).mono ?_)
      rintro e wt ⟨rfl, rfl⟩
      go_wp2_with (fail)
      (with_reducible refine (is_err 1 1 _).mono ?_)
      rintro e wt ⟨rfl, rfl⟩
      go_wp2_with (fail)
      (with_reducible refine (is_err 1 1 _).mono ?_)
      rintro e wt ⟨rfl, rfl⟩
      go_wp2_with (fail)
      (with_reducible refine (set_nil 0 0 _).mono ?_)
      rintro e wt ⟨rfl, rfl⟩
      go_wp2_with (fail)
      (with_reducible refine (is_err 1 1 _).mono ?_)
      rintro e wt ⟨rfl, rfl⟩
      go_wp2_with (fail)
      (with_reducible refine (begin_nil _).mono ?_)
      rintro e wt ⟨rfl, rfl⟩
      go_wp2_with (fail)
      (with_reducible refine (is_err 1 1 _).mono ?_)
      rintro e wt ⟨rfl, rfl⟩
      go_wp2_with (fail)
      (with_reducible refine (commit_nil _).mono ?_)
      rintro e wt ⟨rfl, rfl⟩
      go_wp2_with (fail)
      (with_reducible refine (is_err 1 1 _).mono ?_)
      rintro e wt ⟨rfl, rfl⟩
      go_wp2_with (fail)
      (with_reducible refine (saved_nil _).mono ?_)
      rintro e wt ⟨rfl, rfl⟩
      go_wp2_with (fail)
      (with_reducible refine (sequence_nil _).mono ?_)
      rintro e wt ⟨rfl, rfl⟩
      go_wp2_with (fail)
      (with_reducible refine (broken_nil _).mono ?_)
      rintro e wt ⟨rfl, rfl⟩
      go_wp2
      go_ret
      exact ⟨rfl, HBZ.out⟩
    · go_wp2_with (fail)
      (with_reducible refine (is_err 10 10 _).mono ?_)
      rintro e wt ⟨rfl, rfl⟩
      go_wp2_with (fail)
      (with_reducible refine (is_err 10 10 _).mono ?_)
      rintro e wt ⟨rfl, rfl⟩
      go_wp2_with (fail)
      (with_reducible refine (get_nil 0 _).mono ?_)
      rintro e wt ⟨rfl, rfl⟩
      go_wp2_with (fail)
      (with_reducible refine (step_nil _).mono ?_)
      rintro e wt ⟨rfl, rfl⟩
      go_wp2_with (fail)
      (with_reducible refine (is_err 1 1 _).mono ?_)
      rintro e wt ⟨rfl, rfl⟩
      go_wp2_with (fail)
      (with_reducible refine (is_err 1 1 _).mono ?_)
      rintro e wt ⟨rfl, rfl⟩
      go_wp2_with (fail)
      (with_reducible refine (set_nil 0 0 _).mono ?_)
      rintro e wt ⟨rfl, rfl⟩
      go_wp2_with (fail)
      (with_reducible refine (is_err 1 1 _).mono ?_)
      rintro e wt ⟨rfl, rfl⟩
      go_wp2_with (fail)
      (with_reducible refine (begin_nil _).mono ?_)
      rintro e wt ⟨rfl, rfl⟩
      go_wp2_with (fail)
      (with_reducible refine (is_err 1 1 _).mono ?_)
      rintro e wt ⟨rfl, rfl⟩
      go_wp2_with (fail)
      (with_reducible refine (commit_nil _).mono ?_)
      rintro e wt ⟨rfl, rfl⟩
      go_wp2_with (fail)
      (with_reducible refine (is_err 1 1 _).mono ?_)
      rintro e wt ⟨rfl, rfl⟩
      go_wp2_with (fail)
      (with_reducible refine (saved_nil _).mono ?_)
      rintro e wt ⟨rfl, rfl⟩
      go_wp2_with (fail)
      (with_reducible refine (sequence_nil _).mono ?_)
      rintro e wt ⟨rfl, rfl⟩
      go_wp2_with (fail)
      (with_reducible refine (broken_nil _).mono ?_)
      rintro e wt ⟨rfl, rfl⟩
      go_wp2
      go_ret
      exact ⟨rfl, HBZ.out⟩
  · have h01 : i = 0 ∨ i = 1 := by omega
    clear hout
    rcases h01 with rfl | rfl
    · by_cases hbad : v < -5 ∨ 5 < v
      · have hgf : getF fmZ 0 = (1, 0) := by decide +kernel
        have hse : setE fmZ 0 v = 3 := by
          unfold setE
          rw [if_neg (by show ¬ (false = true); decide), if_neg (by show ¬ ((0 : Int) < 0 ∨ ((2 : Nat) : Int) ≤ 0); omega), if_pos (by show inPar ⟨-5, 5, 1⟩ v = false; unfold inPar; rw [decide_eq_false_iff_not]; simp only; omega)]
        rw [hgf] at HG
        simp only [errV_zero, errV_ne (show (10 : Int) ≠ 0 by decide)] at HG
        clear hgf
        go_wp2_with (fail)
        (with_reducible refine HG.out.mono ?_)
        rintro e wt ⟨rfl, rfl⟩
        go_wp2_with (fail)
        (with_reducible refine HSE.out.mono ?_)
        rintro e w7 ⟨he, hs7, ho7⟩
        rw [hse] at he
        rw [errV_ne (show (3 : Int) ≠ 0 by decide)] at he
        subst he
        have HS7 := Lib.hid hs7
        have HO7 : Hid (StOk f6 (setF fmZ 0 v)) := setF_ok HO6.out (by unfold I64; omega)
        have HBZ : Hid (Below w.heap.size w w7) := HB1.out.trans (hs7.fl.below.mono HB1.out.size)
        rw [HW6.out] at ho7
        have hx7 := HX6.out.onlyX ho7
        have key : ∀ j u, (pcells fmP)[j]? = some u → w7.cell? ⟨w2.heap.size, j, none⟩ = some u := by
          intro j u hu
          obtain ⟨b', o', e', _, _, hc⟩ := hx7 (by unfold fmP pcells Par.cells; simp)
          obtain ⟨rfl, rfl⟩ : w2.heap.size = b' ∧ 0 = o' := by simpa using e'
          have := hc j u hu
          rwa [Nat.zero_add] at this
        have d0 := key 0 _ rfl
        have d1 := key 1 _ rfl
        have d2 := key 2 _ rfl
        have d3 := key 3 _ rfl
        have d4 := key 4 _ rfl
        have d5 := key 5 _ rfl
        clear hs7 ho7 hx7 key
        rcases hbad with hlo | hhi
        · go_wp2_with (fail)
          (with_reducible refine (is_err 3 3 _).mono ?_)
          rintro e wt ⟨rfl, rfl⟩
          go_wp2_with (fail)
          (with_reducible refine (get_nil 0 _).mono ?_)
          rintro e wt ⟨rfl, rfl⟩
          go_wp2_with (fail)
          (with_reducible refine (step_nil _).mono ?_)
          rintro e wt ⟨rfl, rfl⟩
          go_wp2_with (fail)
          (with_reducible refine (is_err 1 1 _).mono ?_)
          rintro e wt ⟨rfl, rfl⟩
          go_wp2_with (fail)
          (with_reducible refine (is_err 1 1 _).mono ?_)
          rintro e wt ⟨rfl, rfl⟩
          go_wp2_with (fail)
          (with_reducible refine (set_nil 0 0 _).mono ?_)
          rintro e wt ⟨rfl, rfl⟩
          go_wp2_with (fail)
          (with_reducible refine (is_err 1 1 _).mono ?_)
          rintro e wt ⟨rfl, rfl⟩
          go_wp2_with (fail)
          (with_reducible refine (begin_nil _).mono ?_)
          rintro e wt ⟨rfl, rfl⟩
          go_wp2_with (fail)
          (with_reducible refine (is_err 1 1 _).mono ?_)
          rintro e wt ⟨rfl, rfl⟩
          go_wp2_with (fail)
          (with_reducible refine (commit_nil _).mono ?_)
          rintro e wt ⟨rfl, rfl⟩
          go_wp2_with (fail)
          (with_reducible refine (is_err 1 1 _).mono ?_)
          rintro e wt ⟨rfl, rfl⟩
          go_wp2_with (fail)
          (with_reducible refine (saved_nil _).mono ?_)
          rintro e wt ⟨rfl, rfl⟩
          go_wp2_with (fail)
          (with_reducible refine (sequence_nil _).mono ?_)
          rintro e wt ⟨rfl, rfl⟩
          go_wp2_with (fail)
          (with_reducible refine (broken_nil _).mono ?_)
          rintro e wt ⟨rfl, rfl⟩
          go_wp2
          go_ret
          exact ⟨rfl, HBZ.out⟩
        · go_wp2_with (fail)
          (with_reducible refine (is_err 3 3 _).mono ?_)
          rintro e wt ⟨rfl, rfl⟩
          go_wp2_with (fail)
          (with_reducible refine (get_nil 0 _).mono ?_)
          rintro e wt ⟨rfl, rfl⟩
          go_wp2_with (fail)
          (with_reducible refine (step_nil _).mono ?_)
          rintro e wt ⟨rfl, rfl⟩
          go_wp2_with (fail)
          (with_reducible refine (is_err 1 1 _).mono ?_)
          rintro e wt ⟨rfl, rfl⟩
          go_wp2_with (fail)
          (with_reducible refine (is_err 1 1 _).mono ?_)
          rintro e wt ⟨rfl, rfl⟩
          go_wp2_with (fail)
          (with_reducible refine (set_nil 0 0 _).mono ?_)
          rintro e wt ⟨rfl, rfl⟩
          go_wp2_with (fail)
          (with_reducible refine (is_err 1 1 _).mono ?_)
          rintro e wt ⟨rfl, rfl⟩
          go_wp2_with (fail)
          (with_reducible refine (begin_nil _).mono ?_)
          rintro e wt ⟨rfl, rfl⟩
          go_wp2_with (fail)
          (with_reducible refine (is_err 1 1 _).mono ?_)
          rintro e wt ⟨rfl, rfl⟩
          go_wp2_with (fail)
          (with_reducible refine (commit_nil _).mono ?_)
          rintro e wt ⟨rfl, rfl⟩
          go_wp2_with (fail)
          (with_reducible refine (is_err 1 1 _).mono ?_)
          rintro e wt ⟨rfl, rfl⟩
          go_wp2_with (fail)
          (with_reducible refine (saved_nil _).mono ?_)
          rintro e wt ⟨rfl, rfl⟩
          go_wp2_with (fail)
          (with_reducible refine (sequence_nil _).mono ?_)
          rintro e wt ⟨rfl, rfl⟩
          go_wp2_with (fail)
          (with_reducible refine (broken_nil _).mono ?_)
          rintro e wt ⟨rfl, rfl⟩
          go_wp2
          go_ret
          exact ⟨rfl, HBZ.out⟩
      · have hgf : getF fmZ 0 = (1, 0) := by decide +kernel
        have hse : setE fmZ 0 v = 0 := by
          unfold setE
          rw [if_neg (by show ¬ (false = true); decide), if_neg (by show ¬ ((0 : Int) < 0 ∨ ((2 : Nat) : Int) ≤ 0); omega), if_neg (by show ¬ (inPar ⟨-5, 5, 1⟩ v = false); unfold inPar; rw [decide_eq_false_iff_not]; simp only; omega)]
        have hsf : setF fmZ 0 v = { fmZ with staged := [v, 7] } := by unfold setF; rw [if_pos hse]; rfl
        rw [hgf] at HG
        simp only [errV_zero, errV_ne (show (10 : Int) ≠ 0 by decide)] at HG
        clear hgf
        go_wp2_with (fail)
        (with_reducible refine HG.out.mono ?_)
        rintro e wt ⟨rfl, rfl⟩
        go_wp2_with (fail)
        (with_reducible refine HSE.out.mono ?_)
        rintro e w7 ⟨he, hs7, ho7⟩
        rw [hse] at he
        rw [errV_zero] at he
        subst he
        have HS7 := Lib.hid hs7
        have HO7 : Hid (StOk f6 (setF fmZ 0 v)) := setF_ok HO6.out (by unfold I64; omega)
        have HBZ : Hid (Below w.heap.size w w7) := HB1.out.trans (hs7.fl.below.mono HB1.out.size)
        rw [HW6.out] at ho7
        have hx7 := HX6.out.onlyX ho7
        have key : ∀ j u, (pcells fmP)[j]? = some u → w7.cell? ⟨w2.heap.size, j, none⟩ = some u := by
          intro j u hu
          obtain ⟨b', o', e', _, _, hc⟩ := hx7 (by unfold fmP pcells Par.cells; simp)
          obtain ⟨rfl, rfl⟩ : w2.heap.size = b' ∧ 0 = o' := by simpa using e'
          have := hc j u hu
          rwa [Nat.zero_add] at this
        have d0 := key 0 _ rfl
        have d1 := key 1 _ rfl
        have d2 := key 2 _ rfl
        have d3 := key 3 _ rfl
        have d4 := key 4 _ rfl
        have d5 := key 5 _ rfl
        clear hs7 ho7 hx7 key
        rw [hsf] at HS7 HO7
        have HG2 := Lib.hid (get_any HS7.out HO7.out 0)
        rw [HD6.out, show getF { fmZ with staged := [v, 7] } 0 = (v, 0) from rfl] at HG2
        simp only [errV_zero] at HG2
        have HSV : Hid (Calls Try.prog 62 #[.pointer (some ⟨S6.D, 0, none⟩)] w7 fun e w' => ∃ v', e = .returned v' ∧ w'.ownsRow w7.heap.size 3 1 v' 2 (icells [1, 7]) ∧ Below w7.heap.size w7 w') := saved_any HS7.out HO7.out
        rw [HD6.out] at HSV
        clear hsf hse
        go_wp2_with (fail)
        (with_reducible refine HG2.out.mono ?_)
        rintro e wt ⟨rfl, rfl⟩
        clear d0 d1 d2 d3 d4 d5
        go_wp2_with (fail)
        (with_reducible refine HSV.out.mono ?_)
        rintro e w8 ⟨v8, rfl, ho, hb⟩
        obtain ⟨A8, c8, rfl, hc81, hc82, hr8⟩ := own_read ho
        have HB8 : Hid (Below w.heap.size w w8) := HBZ.out.trans (hb.mono HBZ.out.size)
        have HR8 : Hid (Rd w8 w8.heap.size A8 (icells [1, 7])) := hr8
        clear ho hb hr8
        go_wp2_with (fail)
        obtain ⟨V, hV⟩ : ∃ V, w8.alloc (.cells #[.int .i64 1, .int .i64 7] 3) = V := ⟨_, rfl⟩
        have HBV : Hid (Below w8.heap.size w8 V) := by rw [← hV]; exact (Below.refl _ _).alloc (Nat.le_refl _) _
        have HRV : Hid (Rd V V.heap.size (some ⟨w8.heap.size, 0, none⟩) (icells [1, 7])) := by
          rw [← hV, World.size_alloc]
          exact Rd.new w8 _ _ _ rfl
        rw [hV]
        clear hV
        (with_reducible refine (ints_any A8 (some ⟨w8.heap.size, 0, none⟩) 2 2 c8 2 [1, 7] [1, 7] V ((HR8.out.below HBV.out (Nat.le_refl _)).more HBV.out.size) HRV.out rfl rfl hm2 hm2).mono ?_)
        rintro e w9 ⟨rfl, q9, rfl⟩
        rw [decide_eq_true rfl]
        have HBY : Hid (Below w.heap.size w (V.drewN q9)) := HB8.out.trans ((HBV.out.trans (Below.drewN (Below.refl _ _) q9 |>.mono HBV.out.size)).mono HB8.out.size)
        clear HBZ
        have HBZ := HBY
        generalize V.drewN q9 = V9 at *
        go_wp2_with (fail)
        (with_reducible refine (get_nil 0 _).mono ?_)
        rintro e wt ⟨rfl, rfl⟩
        go_wp2_with (fail)
        (with_reducible refine (step_nil _).mono ?_)
        rintro e wt ⟨rfl, rfl⟩
        go_wp2_with (fail)
        (with_reducible refine (is_err 1 1 _).mono ?_)
        rintro e wt ⟨rfl, rfl⟩
        go_wp2_with (fail)
        (with_reducible refine (is_err 1 1 _).mono ?_)
        rintro e wt ⟨rfl, rfl⟩
        go_wp2_with (fail)
        (with_reducible refine (set_nil 0 0 _).mono ?_)
        rintro e wt ⟨rfl, rfl⟩
        go_wp2_with (fail)
        (with_reducible refine (is_err 1 1 _).mono ?_)
        rintro e wt ⟨rfl, rfl⟩
        go_wp2_with (fail)
        (with_reducible refine (begin_nil _).mono ?_)
        rintro e wt ⟨rfl, rfl⟩
        go_wp2_with (fail)
        (with_reducible refine (is_err 1 1 _).mono ?_)
        rintro e wt ⟨rfl, rfl⟩
        go_wp2_with (fail)
        (with_reducible refine (commit_nil _).mono ?_)
        rintro e wt ⟨rfl, rfl⟩
        go_wp2_with (fail)
        (with_reducible refine (is_err 1 1 _).mono ?_)
        rintro e wt ⟨rfl, rfl⟩
        go_wp2_with (fail)
        (with_reducible refine (saved_nil _).mono ?_)
        rintro e wt ⟨rfl, rfl⟩
        go_wp2_with (fail)
        (with_reducible refine (sequence_nil _).mono ?_)
        rintro e wt ⟨rfl, rfl⟩
        go_wp2_with (fail)
        (with_reducible refine (broken_nil _).mono ?_)
        rintro e wt ⟨rfl, rfl⟩
        go_wp2
        go_ret
        exact ⟨rfl, HBZ.out⟩
    · by_cases hbad : v < 7 ∨ 7 < v
      · have hgf : getF fmZ 1 = (7, 0) := by decide +kernel
        have hse : setE fmZ 1 v = 3 := by
          unfold setE
          rw [if_neg (by show ¬ (false = true); decide), if_neg (by show ¬ ((1 : Int) < 0 ∨ ((2 : Nat) : Int) ≤ 1); omega), if_pos (by show inPar ⟨7, 7, 7⟩ v = false; unfold inPar; rw [decide_eq_false_iff_not]; simp only; omega)]
        rw [hgf] at HG
        simp only [errV_zero, errV_ne (show (10 : Int) ≠ 0 by decide)] at HG
        clear hgf
        go_wp2_with (fail)
        (with_reducible refine HG.out.mono ?_)
        rintro e wt ⟨rfl, rfl⟩
        go_wp2_with (fail)
        (with_reducible refine HSE.out.mono ?_)
        rintro e w7 ⟨he, hs7, ho7⟩
        rw [hse] at he
        rw [errV_ne (show (3 : Int) ≠ 0 by decide)] at he
        subst he
        have HS7 := Lib.hid hs7
        have HO7 : Hid (StOk f6 (setF fmZ 1 v)) := setF_ok HO6.out (by unfold I64; omega)
        have HBZ : Hid (Below w.heap.size w w7) := HB1.out.trans (hs7.fl.below.mono HB1.out.size)
        rw [HW6.out] at ho7
        have hx7 := HX6.out.onlyX ho7
        have key : ∀ j u, (pcells fmP)[j]? = some u → w7.cell? ⟨w2.heap.size, j, none⟩ = some u := by
          intro j u hu
          obtain ⟨b', o', e', _, _, hc⟩ := hx7 (by unfold fmP pcells Par.cells; simp)
          obtain ⟨rfl, rfl⟩ : w2.heap.size = b' ∧ 0 = o' := by simpa using e'
          have := hc j u hu
          rwa [Nat.zero_add] at this
        have d0 := key 0 _ rfl
        have d1 := key 1 _ rfl
        have d2 := key 2 _ rfl
        have d3 := key 3 _ rfl
        have d4 := key 4 _ rfl
        have d5 := key 5 _ rfl
        clear hs7 ho7 hx7 key
        rcases hbad with hlo | hhi
        · go_wp2_with (fail)
          (with_reducible refine (is_err 3 3 _).mono ?_)
          rintro e wt ⟨rfl, rfl⟩
          go_wp2_with (fail)
          (with_reducible refine (get_nil 0 _).mono ?_)
          rintro e wt ⟨rfl, rfl⟩
          go_wp2_with (fail)
          (with_reducible refine (step_nil _).mono ?_)
          rintro e wt ⟨rfl, rfl⟩
          go_wp2_with (fail)
          (with_reducible refine (is_err 1 1 _).mono ?_)
          rintro e wt ⟨rfl, rfl⟩
          go_wp2_with (fail)
          (with_reducible refine (is_err 1 1 _).mono ?_)
          rintro e wt ⟨rfl, rfl⟩
          go_wp2_with (fail)
          (with_reducible refine (set_nil 0 0 _).mono ?_)
          rintro e wt ⟨rfl, rfl⟩
          go_wp2_with (fail)
          (with_reducible refine (is_err 1 1 _).mono ?_)
          rintro e wt ⟨rfl, rfl⟩
          go_wp2_with (fail)
          (with_reducible refine (begin_nil _).mono ?_)
          rintro e wt ⟨rfl, rfl⟩
          go_wp2_with (fail)
          (with_reducible refine (is_err 1 1 _).mono ?_)
          rintro e wt ⟨rfl, rfl⟩
          go_wp2_with (fail)
          (with_reducible refine (commit_nil _).mono ?_)
          rintro e wt ⟨rfl, rfl⟩
          go_wp2_with (fail)
          (with_reducible refine (is_err 1 1 _).mono ?_)
          rintro e wt ⟨rfl, rfl⟩
          go_wp2_with (fail)
          (with_reducible refine (saved_nil _).mono ?_)
          rintro e wt ⟨rfl, rfl⟩
          go_wp2_with (fail)
          (with_reducible refine (sequence_nil _).mono ?_)
          rintro e wt ⟨rfl, rfl⟩
          go_wp2_with (fail)
          (with_reducible refine (broken_nil _).mono ?_)
          rintro e wt ⟨rfl, rfl⟩
          go_wp2
          go_ret
          exact ⟨rfl, HBZ.out⟩
        · go_wp2_with (fail)
          (with_reducible refine (is_err 3 3 _).mono ?_)
          rintro e wt ⟨rfl, rfl⟩
          go_wp2_with (fail)
          (with_reducible refine (get_nil 0 _).mono ?_)
          rintro e wt ⟨rfl, rfl⟩
          go_wp2_with (fail)
          (with_reducible refine (step_nil _).mono ?_)
          rintro e wt ⟨rfl, rfl⟩
          go_wp2_with (fail)
          (with_reducible refine (is_err 1 1 _).mono ?_)
          rintro e wt ⟨rfl, rfl⟩
          go_wp2_with (fail)
          (with_reducible refine (is_err 1 1 _).mono ?_)
          rintro e wt ⟨rfl, rfl⟩
          go_wp2_with (fail)
          (with_reducible refine (set_nil 0 0 _).mono ?_)
          rintro e wt ⟨rfl, rfl⟩
          go_wp2_with (fail)
          (with_reducible refine (is_err 1 1 _).mono ?_)
          rintro e wt ⟨rfl, rfl⟩
          go_wp2_with (fail)
          (with_reducible refine (begin_nil _).mono ?_)
          rintro e wt ⟨rfl, rfl⟩
          go_wp2_with (fail)
          (with_reducible refine (is_err 1 1 _).mono ?_)
          rintro e wt ⟨rfl, rfl⟩
          go_wp2_with (fail)
          (with_reducible refine (commit_nil _).mono ?_)
          rintro e wt ⟨rfl, rfl⟩
          go_wp2_with (fail)
          (with_reducible refine (is_err 1 1 _).mono ?_)
          rintro e wt ⟨rfl, rfl⟩
          go_wp2_with (fail)
          (with_reducible refine (saved_nil _).mono ?_)
          rintro e wt ⟨rfl, rfl⟩
          go_wp2_with (fail)
          (with_reducible refine (sequence_nil _).mono ?_)
          rintro e wt ⟨rfl, rfl⟩
          go_wp2_with (fail)
          (with_reducible refine (broken_nil _).mono ?_)
          rintro e wt ⟨rfl, rfl⟩
          go_wp2
          go_ret
          exact ⟨rfl, HBZ.out⟩
      · have hgf : getF fmZ 1 = (7, 0) := by decide +kernel
        have hse : setE fmZ 1 v = 0 := by
          unfold setE
          rw [if_neg (by show ¬ (false = true); decide), if_neg (by show ¬ ((1 : Int) < 0 ∨ ((2 : Nat) : Int) ≤ 1); omega), if_neg (by show ¬ (inPar ⟨7, 7, 7⟩ v = false); unfold inPar; rw [decide_eq_false_iff_not]; simp only; omega)]
        have hsf : setF fmZ 1 v = { fmZ with staged := [1, v] } := by unfold setF; rw [if_pos hse]; rfl
        rw [hgf] at HG
        simp only [errV_zero, errV_ne (show (10 : Int) ≠ 0 by decide)] at HG
        clear hgf
        go_wp2_with (fail)
        (with_reducible refine HG.out.mono ?_)
        rintro e wt ⟨rfl, rfl⟩
        go_wp2_with (fail)
        (with_reducible refine HSE.out.mono ?_)
        rintro e w7 ⟨he, hs7, ho7⟩
        rw [hse] at he
        rw [errV_zero] at he
        subst he
        have HS7 := Lib.hid hs7
        have HO7 : Hid (StOk f6 (setF fmZ 1 v)) := setF_ok HO6.out (by unfold I64; omega)
        have HBZ : Hid (Below w.heap.size w w7) := HB1.out.trans (hs7.fl.below.mono HB1.out.size)
        rw [HW6.out] at ho7
        have hx7 := HX6.out.onlyX ho7
        have key : ∀ j u, (pcells fmP)[j]? = some u → w7.cell? ⟨w2.heap.size, j, none⟩ = some u := by
          intro j u hu
          obtain ⟨b', o', e', _, _, hc⟩ := hx7 (by unfold fmP pcells Par.cells; simp)
          obtain ⟨rfl, rfl⟩ : w2.heap.size = b' ∧ 0 = o' := by simpa using e'
          have := hc j u hu
          rwa [Nat.zero_add] at this
        have d0 := key 0 _ rfl
        have d1 := key 1 _ rfl
        have d2 := key 2 _ rfl
        have d3 := key 3 _ rfl
        have d4 := key 4 _ rfl
        have d5 := key 5 _ rfl
        clear hs7 ho7 hx7 key
        rw [hsf] at HS7 HO7
        have HG2 := Lib.hid (get_any HS7.out HO7.out 1)
        rw [HD6.out, show getF { fmZ with staged := [1, v] } 1 = (v, 0) from rfl] at HG2
        simp only [errV_zero] at HG2
        have HSV : Hid (Calls Try.prog 62 #[.pointer (some ⟨S6.D, 0, none⟩)] w7 fun e w' => ∃ v', e = .returned v' ∧ w'.ownsRow w7.heap.size 3 1 v' 2 (icells [1, 7]) ∧ Below w7.heap.size w7 w') := saved_any HS7.out HO7.out
        rw [HD6.out] at HSV
        clear hsf hse
        go_wp2_with (fail)
        (with_reducible refine HG2.out.mono ?_)
        rintro e wt ⟨rfl, rfl⟩
        clear d0 d1 d2 d3 d4 d5
        go_wp2_with (fail)
        (with_reducible refine HSV.out.mono ?_)
        rintro e w8 ⟨v8, rfl, ho, hb⟩
        obtain ⟨A8, c8, rfl, hc81, hc82, hr8⟩ := own_read ho
        have HB8 : Hid (Below w.heap.size w w8) := HBZ.out.trans (hb.mono HBZ.out.size)
        have HR8 : Hid (Rd w8 w8.heap.size A8 (icells [1, 7])) := hr8
        clear ho hb hr8
        go_wp2_with (fail)
        obtain ⟨V, hV⟩ : ∃ V, w8.alloc (.cells #[.int .i64 1, .int .i64 7] 3) = V := ⟨_, rfl⟩
        have HBV : Hid (Below w8.heap.size w8 V) := by rw [← hV]; exact (Below.refl _ _).alloc (Nat.le_refl _) _
        have HRV : Hid (Rd V V.heap.size (some ⟨w8.heap.size, 0, none⟩) (icells [1, 7])) := by
          rw [← hV, World.size_alloc]
          exact Rd.new w8 _ _ _ rfl
        rw [hV]
        clear hV
        (with_reducible refine (ints_any A8 (some ⟨w8.heap.size, 0, none⟩) 2 2 c8 2 [1, 7] [1, 7] V ((HR8.out.below HBV.out (Nat.le_refl _)).more HBV.out.size) HRV.out rfl rfl hm2 hm2).mono ?_)
        rintro e w9 ⟨rfl, q9, rfl⟩
        rw [decide_eq_true rfl]
        have HBY : Hid (Below w.heap.size w (V.drewN q9)) := HB8.out.trans ((HBV.out.trans (Below.drewN (Below.refl _ _) q9 |>.mono HBV.out.size)).mono HB8.out.size)
        clear HBZ
        have HBZ := HBY
        generalize V.drewN q9 = V9 at *
        go_wp2_with (fail)
        (with_reducible refine (get_nil 0 _).mono ?_)
        rintro e wt ⟨rfl, rfl⟩
        go_wp2_with (fail)
        (with_reducible refine (step_nil _).mono ?_)
        rintro e wt ⟨rfl, rfl⟩
        go_wp2_with (fail)
        (with_reducible refine (is_err 1 1 _).mono ?_)
        rintro e wt ⟨rfl, rfl⟩
        go_wp2_with (fail)
        (with_reducible refine (is_err 1 1 _).mono ?_)
        rintro e wt ⟨rfl, rfl⟩
        go_wp2_with (fail)
        (with_reducible refine (set_nil 0 0 _).mono ?_)
        rintro e wt ⟨rfl, rfl⟩
        go_wp2_with (fail)
        (with_reducible refine (is_err 1 1 _).mono ?_)
        rintro e wt ⟨rfl, rfl⟩
        go_wp2_with (fail)
        (with_reducible refine (begin_nil _).mono ?_)
        rintro e wt ⟨rfl, rfl⟩
        go_wp2_with (fail)
        (with_reducible refine (is_err 1 1 _).mono ?_)
        rintro e wt ⟨rfl, rfl⟩
        go_wp2_with (fail)
        (with_reducible refine (commit_nil _).mono ?_)
        rintro e wt ⟨rfl, rfl⟩
        go_wp2_with (fail)
        (with_reducible refine (is_err 1 1 _).mono ?_)
        rintro e wt ⟨rfl, rfl⟩
        go_wp2_with (fail)
        (with_reducible refine (saved_nil _).mono ?_)
        rintro e wt ⟨rfl, rfl⟩
        go_wp2_with (fail)
        (with_reducible refine (sequence_nil _).mono ?_)
        rintro e wt ⟨rfl, rfl⟩
        go_wp2_with (fail)
        (with_reducible refine (broken_nil _).mono ?_)
        rintro e wt ⟨rfl, rfl⟩
        go_wp2
        go_ret
        exact ⟨rfl, HBZ.out⟩
end Go.Proofs.Ytfeceamhlphelaa
