/-
  Firmware: Abort, Running, Trial, begin, Confirm of a bank; calls on a bank that is not there.
-/
import Derived.Test.YtjdknddnanopaaaF9
namespace Go.Proofs.Ytjdknddnanopaaa
open Go.RowKit
set_option linter.unusedVariables false
set_option linter.unusedSimpArgs false

theorem eq_errs (c d : Int) (w : World) : (binOp .eql 32 (.iface 77 (.int .i64 c)) (.iface 77 (.int .i64 d))).run Try.prog w = .ok (.bool (c == d)) w := by kernel_rfl

section
variable {w0 w w1 w' : World} {L L' : Lc} {S S' : Sc} {K K' : Kc} {f f' : Fl} {b b' : Bk}

def CallR (w0 w : World) (L : Lc) (S : Sc) (K : Kc) (f : Fl) (q : Bk × Int) (e : Ending) (w' : World) : Prop :=
  e = .returned (errV q.2) ∧ BkTo w0 w L S K f q.1 w'

set_option maxHeartbeats 1000000 in
theorem fabort_any (h : BkAt w0 w L S K f b) : Calls Try.prog 38 #[.pointer (some ⟨K.D, 0, none⟩)] w (CallR w0 w L S K f (abortB b f)) := by
  have g1 := ne_nil
  have g2 := ne_err
  have HR := Lib.hid (fready_any h)
  by_cases hbr : (rdyB b f).broken = true
  · have HB : Hid (abortB b f = (rdyB b f, 20)) := by unfold abortB; rw [Hid, if_pos hbr]
    rw [if_pos hbr, errV_ne (by decide)] at HR
    clear h hbr
    go_enter Try.func38, Try.ntmps38
    go_wp2_with (fail)
    (with_reducible refine HR.out.mono ?_)
    rintro e w1 ⟨rfl, hK, hX⟩
    have HK := Lib.hid hK
    have HX := Lib.hid hX
    clear hK hX
    go_wp2
    go_ret
    rw [HB.out]
    exact ⟨rfl, .mk' (.bank HX.out) HK.out⟩
  rw [if_neg hbr, errV_zero] at HR
  by_cases hu : b.upload = false
  · have HB : Hid (abortB b f = (rdyB b f, 12)) := by unfold abortB; rw [Hid, if_neg hbr, if_pos hu]
    clear h hbr
    go_enter Try.func38, Try.ntmps38
    go_wp2_with (fail)
    (with_reducible refine HR.out.mono ?_)
    rintro e w1 ⟨rfl, hK, hX⟩
    have HK := Lib.hid hK
    have HX := Lib.hid hX
    have c6 : w1.cell? ⟨K.D, 6, none⟩ = some (.bool b.upload) := hK.row 6 _ rfl
    rw [hu] at c6
    clear hK hX hu
    go_wp2
    go_ret
    rw [HB.out]
    exact ⟨rfl, .mk' (.bank HX.out) HK.out⟩
  have hu1 : b.upload = true := by simpa using hu
  have HB : Hid (abortB b f = ({ rdyB b f with upload := false, erase := [], data := none }, 0)) := by unfold abortB; rw [Hid, if_neg hbr, if_neg hu]
  clear h hbr hu
  go_enter Try.func38, Try.ntmps38
  go_wp2_with (fail)
  (with_reducible refine HR.out.mono ?_)
  rintro e w1 ⟨rfl, hK, hX⟩
  have HK := Lib.hid hK
  have HX := Lib.hid hX
  have c6 : w1.cell? ⟨K.D, 6, none⟩ = some (.bool b.upload) := hK.row 6 _ rfl
  rw [hu1] at c6
  have HC1 := Lib.hid (HK.out.cell' 6 (.bool false) { rdyB b f with upload := false } rfl rfl rfl rfl)
  have HC2 := Lib.hid (HC1.out.1.cell 11 (.slice none 0 0) { K with v := .slice none 0 0 } { rdyB b f with upload := false, erase := [] } rfl rfl rfl (QS.nil _ _ _) (fun g hg => by cases hg) HC1.out.1.dt)
  have HC3 := Lib.hid (HC2.out.1.cell 13 (.slice none 0 0) { K with v := .slice none 0 0, A := none, n := 0, c := 0 } { rdyB b f with upload := false, erase := [], data := none } rfl rfl rfl (QS.nil _ _ _) (fun g hg => by cases hg) ⟨rfl, rfl, rfl⟩)
  have z6 := hK.fz 6
  have z11 := hK.fz 11
  have z13 := hK.fz 13
  have c11 : w1.cell? ⟨K.D, 11, none⟩ = some K.v := hK.row 11 _ rfl
  have c13 : w1.cell? ⟨K.D, 13, none⟩ = some (.slice K.A K.n K.c) := hK.row 13 _ rfl
  clear hK hX hu1
  go_wp2
  go_ret
  rw [HB.out]
  refine ⟨rfl, L, S, { K with v := .slice none 0 0, A := none, n := 0, c := 0 }, ?_, HC3.out.1⟩
  exact (Aft.bank HX.out).trans ((Aft.bank HC1.out.2).trans ((Aft.of_bank HC2.out.2 (K' := { K with v := .slice none 0 0 }) rfl (fun g _ hg => by cases hg)).trans (Aft.of_bank HC3.out.2 rfl (fun g _ hg => hg))))
theorem fabort_nil (w : World) : Calls Try.prog 38 #[.pointer none] w fun e w' => e = .returned (.iface 77 (.int .i64 1)) ∧ w = w' := by
  have g2 := ne_err
  go_enter Try.func38, Try.ntmps38
  go_wp2_with (fail)
  (with_reducible refine (fready_nil w).mono ?_)
  rintro e w1 ⟨rfl, rfl⟩
  go_wp2
  go_ret
  exact ⟨rfl, rfl⟩
theorem fboot_nil (w : World) : Calls Try.prog 26 #[.pointer none] w fun e w' => e = .returned (.tuple #[.int .i64 0, .iface 77 (.int .i64 1)]) ∧ w = w' := by
  have g2 := ne_err
  go_enter Try.func26, Try.ntmps26
  go_wp2_with (fail)
  (with_reducible refine (fready_nil w).mono ?_)
  rintro e w1 ⟨rfl, rfl⟩
  go_wp2
  go_ret2
  exact ⟨rfl, rfl⟩
theorem fstep_nil (w : World) : Calls Try.prog 35 #[.pointer none] w fun e w' => e = .returned (.tuple #[.bool false, .iface 77 (.int .i64 1)]) ∧ w = w' := by
  have g2 := ne_err
  go_enter Try.func35, Try.ntmps35
  go_wp2_with (fail)
  (with_reducible refine (fready_nil w).mono ?_)
  rintro e w1 ⟨rfl, rfl⟩
  go_wp2
  go_ret2
  exact ⟨rfl, rfl⟩
theorem fimage_nil (i : Int) (w : World) : Calls Try.prog 28 #[.pointer none, .int .i64 i] w fun e w' => e = .returned (.tuple #[.slice none 0 0, .iface 77 (.int .i64 1)]) ∧ w = w' := by
  have g2 := ne_err
  go_enter Try.func28, Try.ntmps28
  go_wp2_with (fail)
  (with_reducible refine (fready_nil w).mono ?_)
  rintro e w1 ⟨rfl, rfl⟩
  go_wp2
  go_ret2
  exact ⟨rfl, rfl⟩
theorem fbegin_nil (i j : Int) (w : World) : Calls Try.prog 34 #[.pointer none, .int .i64 i, .int .i64 j] w fun e w' => e = .returned (.iface 77 (.int .i64 1)) ∧ w = w' := by
  have g2 := ne_err
  go_enter Try.func34, Try.ntmps34
  go_wp2_with (fail)
  (with_reducible refine (fready_nil w).mono ?_)
  rintro e w1 ⟨rfl, rfl⟩
  go_wp2
  go_ret
  exact ⟨rfl, rfl⟩
theorem ffeed_nil (v : Value) (w : World) : Calls Try.prog 36 #[.pointer none, v] w fun e w' => e = .returned (.iface 77 (.int .i64 1)) ∧ w = w' := by
  have g2 := ne_err
  go_enter Try.func36, Try.ntmps36
  go_wp2_with (fail)
  (with_reducible refine (fready_nil w).mono ?_)
  rintro e w1 ⟨rfl, rfl⟩
  go_wp2
  go_ret
  exact ⟨rfl, rfl⟩
theorem ffinish_nil (c : Int) (w : World) : Calls Try.prog 37 #[.pointer none, .int .u32 c] w fun e w' => e = .returned (.iface 77 (.int .i64 1)) ∧ w = w' := by
  have g2 := ne_err
  go_enter Try.func37, Try.ntmps37
  go_wp2_with (fail)
  (with_reducible refine (fready_nil w).mono ?_)
  rintro e w1 ⟨rfl, rfl⟩
  go_wp2
  go_ret
  exact ⟨rfl, rfl⟩
theorem fconfirm_nil (w : World) : Calls Try.prog 30 #[.pointer none] w fun e w' => e = .returned (.iface 77 (.int .i64 1)) ∧ w = w' := by
  have g2 := ne_err
  go_enter Try.func30, Try.ntmps30
  go_wp2_with (fail)
  (with_reducible refine (fready_nil w).mono ?_)
  rintro e w1 ⟨rfl, rfl⟩
  go_wp2
  go_ret
  exact ⟨rfl, rfl⟩
theorem frunning_nil (w : World) : Calls Try.prog 32 #[.pointer none] w fun e w' => e = .returned (.tuple #[.int .i64 0, .int .i64 0]) ∧ w = w' := by
  have e1 := eqb_none
  go_enter Try.func32, Try.ntmps32
  go_wp2
  go_ret2
  exact ⟨rfl, rfl⟩
theorem ftrial_nil (w : World) : Calls Try.prog 29 #[.pointer none] w fun e w' => e = .returned (.tuple #[.int .i64 0, .int .i64 0]) ∧ w = w' := by
  have e1 := eqb_none
  go_enter Try.func29, Try.ntmps29
  go_wp2
  go_ret2
  exact ⟨rfl, rfl⟩

theorem ftrial_any (h : BkAt w0 w L S K f b) (ho : BkOk f b) : Calls Try.prog 29 #[.pointer (some ⟨K.D, 0, none⟩)] w fun e w' => e = .returned (.tuple #[.int .i64 (savB b 1), .int .i64 (savB b 2)]) ∧ Below w.heap.size w w' := by
  have e1 := eqb_some K.D
  have HK := Lib.hid h
  have HO := Lib.hid ho
  have H9 := Lib.hid ho.sp9
  clear h ho
  go_enter Try.func29, Try.ntmps29
  go_wp2_with (fail)
  (with_reducible refine (fsaved_any HK.out HO.out.ok 1 1 rfl (by rw [H9.out]; omega)).mono ?_)
  rintro e w2 ⟨rfl, hB⟩
  have HK2 := Lib.hid (HK.out.later hB)
  have HB2 := Lib.hid hB
  clear hB
  go_wp2_with (fail)
  (with_reducible refine (fsaved_any HK2.out HO.out.ok 2 2 rfl (by rw [H9.out]; omega)).mono ?_)
  rintro e w3 ⟨rfl, hB⟩
  have HB3 : Hid (Below w.heap.size w w3) := HB2.out.trans (hB.mono HB2.out.size)
  clear hB
  go_wp2
  go_ret2
  exact ⟨rfl, HB3.out⟩

/-- The slot that runs, and its version. -/
def runB (b : Bk) : Int × Int := if b.slot = 2 then (2, 0) else ((b.slot : Int), savB b (3 + 3 * b.slot))
theorem frunning_any (h : BkAt w0 w L S K f b) (ho : BkOk f b) : Calls Try.prog 32 #[.pointer (some ⟨K.D, 0, none⟩)] w fun e w' => e = .returned (.tuple #[.int .i64 (runB b).1, .int .i64 (runB b).2]) ∧ Below w.heap.size w w' := by
  have e1 := eqb_some K.D
  have c5 := h.row 5 _ rfl
  have HK := Lib.hid h
  by_cases hs : b.slot = 2
  · have HR : Hid (runB b = (2, 0)) := by unfold runB; rw [Hid, if_pos hs]
    rw [hs] at c5
    clear h ho hs
    go_enter Try.func32, Try.ntmps32
    go_wp2
    go_ret2
    rw [HR.out]
    exact ⟨rfl, Below.refl _ _⟩
  · have HR : Hid (runB b = ((b.slot : Int), savB b (3 + 3 * b.slot))) := by unfold runB; rw [Hid, if_neg hs]
    have hs2 := ho.slot
    have hs3 : b.slot ≤ 1 := by omega
    obtain ⟨s, hss⟩ : ∃ s, b.slot = s := ⟨_, rfl⟩
    have H9 := Lib.hid ho.sp9
    have HO := Lib.hid ho
    rw [hss] at c5 hs3 HR
    have hs4 : ¬ (s : Int) = 2 := by omega
    have hs5 : ((s : Int) == 2) = false := by simpa using hs4
    have q1 : IntKind.i64.wrap (3 * (s : Int)) = 3 * (s : Int) := IntWalk.i64_in _ (by omega)
    have q2 : IntKind.i64.wrap (3 + 3 * (s : Int)) = 3 + 3 * (s : Int) := IntWalk.i64_in _ (by omega)
    have HKS : Hid (∀ W, Below w.heap.size w W → W.cell? ⟨K.D, 5, none⟩ = some (.int .i64 s)) := fun W hB => by have := (HK.out.later hB).row 5 _ rfl; rw [hss] at this; exact this
    have HS : Hid (∀ W, Below w.heap.size w W → Calls Try.prog 57 #[.pointer (some ⟨K.D, 0, none⟩), .int .i64 (3 + 3 * (s : Int))] W fun e w' => e = .returned (.int .i64 (savB b (3 + 3 * s))) ∧ Below w.heap.size w w') := fun W hB => by
      refine (fsaved_any (HK.out.later hB) HO.out.ok (3 + 3 * (s : Int)) (3 + 3 * s) (by push_cast; rfl) (by rw [H9.out]; omega)).mono ?_
      rintro e w' ⟨he, hb⟩
      exact ⟨he, hB.trans (hb.mono hB.size)⟩
    clear h ho hs hss hs2
    go_enter Try.func32, Try.ntmps32
    go_wp2_with (fail)
    go_region_held3 (fun w' => w'.cell? ⟨K.D, 5, none⟩ = some (.int .i64 s)) (first | go_keep | exact HKS.out _ hB9) (first
      | (go_at_call 57; refine (HS.out _ (by repeat (first | exact Below.refl _ _ | refine Below.drew ?_ | refine Below.drewN ?_ _))).mono ?_; rintro e wp ⟨rfl, hB9⟩))
    all_goals
      go_wp2
      go_ret2
      rw [HR.out]
      exact ⟨rfl, hB9⟩

theorem setF_keeps (s : St) (i v : Int) : (setF s i v).broken = s.broken ∧ (setF s i v).busy = s.busy ∧ (setF s i v).seq = s.seq ∧ (setF s i v).saved = s.saved ∧ (setF s i v).spec = s.spec ∧ (setF s i v).staged.length = s.staged.length ∧ (setF s i v).first = s.first ∧ (setF s i v).blocks = s.blocks := by
  unfold setF
  split
  · exact ⟨rfl, rfl, rfl, rfl, rfl, List.length_set .., rfl, rfl⟩
  · exact ⟨rfl, rfl, rfl, rfl, rfl, rfl, rfl, rfl⟩
theorem setN_keeps : ∀ (l : List Int) (s : St) (i : Nat), (setN s i l).broken = s.broken ∧ (setN s i l).busy = s.busy ∧ (setN s i l).seq = s.seq ∧ (setN s i l).saved = s.saved ∧ (setN s i l).spec = s.spec ∧ (setN s i l).staged.length = s.staged.length ∧ (setN s i l).first = s.first ∧ (setN s i l).blocks = s.blocks
  | [], s, i => ⟨rfl, rfl, rfl, rfl, rfl, rfl, rfl, rfl⟩
  | v :: l, s, i => by
    obtain ⟨a1, a2, a3, a4, a5, a6, a7, a8⟩ := setN_keeps l (setF s i v) (i + 1)
    obtain ⟨b1, b2, b3, b4, b5, b6, b7, b8⟩ := setF_keeps s i v
    exact ⟨a1.trans b1, a2.trans b2, a3.trans b3, a4.trans b4, a5.trans b5, a6.trans b6, a7.trans b7, a8.trans b8⟩
theorem beginE_two {s : St} {f : Fl} (h1 : s.broken = false) (h2 : f.down = false) (h3 : s.busy = false) (h4 : 0 ≤ s.seq) (h5 : s.seq ≤ 1000000) (h6 : s.staged.length = 9) : beginE s f = 0 ∨ beginE s f = 12 := by
  unfold beginE
  rw [h1, h2, if_neg (by decide), h3, if_neg (by decide)]
  split
  · exact .inr rfl
  · left
    unfold encE
    rw [if_neg (by omega)]

/-- The store's record is begun. -/
theorem frec_any (h : BkAt w0 w L S K f b) (ho : StOk f b.st) (he : beginE b.st f = 0 ∨ beginE b.st f = 12) : Calls Try.prog 82 #[.pointer (some ⟨K.D, 0, none⟩)] w fun e w' => e = .returned .nilIface ∧ BkTo w0 w L S K f (recB b b.st f) w' := by
  have g1 := ne_nil
  have g2 := ne_err
  have g3 := eq_nil
  have g4 := eq_err
  have g5 := eq_errs 12 12
  have c3 := h.row 3 _ rfl
  have HK := Lib.hid h
  have HB := Lib.hid (begin_any h.st ho)
  unfold BeginR at HB
  rcases he with he | he
  · have HR : Hid (recB b b.st f = { b with st := beginS b.st f, record := true }) := by unfold recB; rw [Hid, if_pos he]
    rw [he, errV_zero] at HB
    clear h ho he
    go_enter Try.func82, Try.ntmps82
    go_wp2_with (fail)
    (with_reducible refine HB.out.mono ?_)
    rintro e w1 ⟨rfl, ⟨S1, hd1, hg1, hs1⟩, ho1⟩
    have HK1 := Lib.hid (HK.out.prog hs1 hd1 hg1 ho1)
    have HA1 : Hid (Aft w w1 L S K L S1 K) := Aft.of_store ho1 hd1 hg1
    have c14 : w1.cell? ⟨K.D, 14, none⟩ = some (.bool b.record) := HK1.out.row 14 _ rfl
    have z14 := HK1.out.fz 14
    have HC := Lib.hid (HK1.out.cell' 14 (.bool true) { b with st := beginS b.st f, record := true } rfl rfl rfl rfl)
    clear hs1 hd1 hg1 ho1 c3
    go_wp2
    go_ret
    rw [HR.out]
    exact ⟨rfl, .mk' (HA1.out.trans (.bank HC.out.2)) HC.out.1⟩
  · have HR : Hid (recB b b.st f = { b with st := beginS b.st f }) := by unfold recB; rw [Hid, if_neg (by rw [he]; decide)]
    rw [he, errV_ne (by decide)] at HB
    clear h ho he
    go_enter Try.func82, Try.ntmps82
    go_wp2_with (fail)
    (with_reducible refine HB.out.mono ?_)
    rintro e w1 ⟨rfl, ⟨S1, hd1, hg1, hs1⟩, ho1⟩
    have HK1 := Lib.hid (HK.out.prog hs1 hd1 hg1 ho1)
    have HA1 : Hid (Aft w w1 L S K L S1 K) := Aft.of_store ho1 hd1 hg1
    clear hs1 hd1 hg1 ho1 c3
    go_wp2
    go_ret
    rw [HR.out]
    exact ⟨rfl, .mk' HA1.out HK1.out⟩

set_option maxRecDepth 100000 in
set_option maxHeartbeats 2000000 in
theorem fconfirm_any (h : BkAt w0 w L S K f b) (ho : BkOk f b) (hrec : b.broken = false → b.record = false → b.st.busy = false) (hsq : b.st.seq ≤ 1000000) : Calls Try.prog 30 #[.pointer (some ⟨K.D, 0, none⟩)] w (CallR w0 w L S K f (confirmB b f)) := by
  have g1 := ne_nil
  have g2 := ne_err
  have HR := Lib.hid (fready_any h)
  have HO := Lib.hid (rdy_ok ho)
  have h9 := ho.sp9
  by_cases hbr : (rdyB b f).broken = true
  · have HB : Hid (confirmB b f = (rdyB b f, 20)) := by unfold confirmB; rw [Hid, if_pos hbr]
    rw [if_pos hbr, errV_ne (by decide)] at HR
    clear h ho hbr hrec hsq h9
    go_enter Try.func30, Try.ntmps30
    go_wp2_with (fail)
    (with_reducible refine HR.out.mono ?_)
    rintro e w1 ⟨rfl, hK, hX⟩
    have HK := Lib.hid hK
    have HX := Lib.hid hX
    clear hK hX
    go_wp2
    go_ret
    rw [HB.out]
    exact ⟨rfl, .mk' (.bank HX.out) HK.out⟩
  have hbf : (rdyB b f).broken = false := by simpa using hbr
  rw [if_neg hbr, errV_zero] at HR
  have HU := Lib.hid (rdy_up hbf)
  have HSB := Lib.hid (ho.st_up HU.out.1)
  by_cases hs : b.slot = 2
  · have HB : Hid (confirmB b f = (rdyB b f, 12)) := by unfold confirmB; rw [Hid, if_neg hbr, if_pos (.inl hs)]
    clear h ho hbr h9 hbf hrec hsq
    go_enter Try.func30, Try.ntmps30
    go_wp2_with (fail)
    (with_reducible refine HR.out.mono ?_)
    rintro e w1 ⟨rfl, hK, hX⟩
    have HK := Lib.hid hK
    have HX := Lib.hid hX
    have c5 : w1.cell? ⟨K.D, 5, none⟩ = some (.int .i64 b.slot) := hK.row 5 _ rfl
    rw [hs] at c5
    clear hK hX hs
    go_wp2_with (fail)
    go_quiet (fail)
    go_wp2
    go_ret
    rw [HB.out]
    exact ⟨rfl, .mk' ((Aft.bank HX.out).trans (Aft.of_below (Below.drewN (Below.refl _ _) _))) (HK.out.later (Below.drewN (Below.refl _ _) _))⟩
  obtain ⟨va, vt, vk, v0, l0, c0, v1, l1, c1, hv, b1, b2, b3, -⟩ := ho.vec
  have hv1 : savB b 1 = (vt : Int) := by unfold savB; rw [hv]; rfl
  have HV1 : Hid (savB (rdyB b f) 1 = (vt : Int)) := hv1
  have HS9 : Hid ((rdyB b f).st.spec.length = 9) := h9
  have HSP := Lib.hid ho.sp
  have hs2 := ho.slot
  obtain ⟨s, hss⟩ : ∃ s, b.slot = s := ⟨_, rfl⟩
  rw [hss] at hs hs2
  have hs3 : s ≤ 1 := by omega
  have hs4 : ¬ (s : Int) = 2 := by omega
  have hs5 : ((s : Int) == 2) = false := by simpa using hs4
  have HSS := Lib.hid hss
  have TK : Hid (∀ w1 : World, BkAt w0 w1 L S K f (rdyB b f) → w1.cell? ⟨K.D, 5, none⟩ = some (.int .i64 s) ∧ (∀ W, Below w1.heap.size w1 W → W.cell? ⟨K.D, 5, none⟩ = some (.int .i64 s)) ∧ ∀ W, Below w1.heap.size w1 W → Calls Try.prog 57 #[.pointer (some ⟨K.D, 0, none⟩), .int .i64 1] W fun e w' => e = .returned (.int .i64 vt) ∧ Below w1.heap.size w1 w') := fun w1 hK => by
    refine ⟨?_, fun W hB => ?_, fun W hB => ?_⟩
    · have := hK.row 5 _ rfl
      rw [show (rdyB b f).slot = s from hss] at this
      exact this
    · have := (hK.later hB).row 5 _ rfl
      rw [show (rdyB b f).slot = s from hss] at this
      exact this
    · refine (fsaved_any (hK.later hB) HO.out.ok 1 1 rfl (by rw [HS9.out]; omega)).mono ?_
      rintro e w' ⟨he, hb⟩
      rw [HV1.out] at he
      exact ⟨he, hB.trans (hb.mono hB.size)⟩
  by_cases hts : vt = s
  · subst hts
    have HNE : Hid (∀ d, (rdyB b f).data = some d → d ≠ []) := ho.ne
    by_cases hw : workB b = true
    · have HWK : Hid (workB (rdyB b f) = true) := hw
      have HB : Hid (confirmB b f = (rdyB b f, 14)) := by unfold confirmB; rw [Hid, if_neg hbr, if_neg (by rw [hv1, hss]; omega), if_pos hw]
      clear h ho hbr h9 hbf hrec hsq hv hv1 hss hs hs2 hw
      go_enter Try.func30, Try.ntmps30
      go_wp2_with (fail)
      (with_reducible refine HR.out.mono ?_)
      rintro e w1 ⟨rfl, hK, hX⟩
      have HK := Lib.hid hK
      have HX := Lib.hid hX
      obtain ⟨c5, hk5, hc57⟩ := TK.out w1 hK
      have HKS := Lib.hid hk5
      have HCS := Lib.hid hc57
      clear hK hX hk5 hc57
      go_wp2_with (fail)
      go_region_held3 (fun w' => w'.cell? ⟨K.D, 5, none⟩ = some (.int .i64 vt)) (first | go_keep | exact HKS.out _ hB9) (first
        | (go_at_call 57; refine (HCS.out _ (by repeat (first | exact Below.refl _ _ | refine Below.drew ?_ | refine Below.drewN ?_ _))).mono ?_; rintro e wp ⟨rfl, hB9⟩))
      all_goals
        have HK2 := Lib.hid (HK.out.later hB9)
        have HA2 : Hid (Aft w wp L S K L S K) := (Aft.bank HX.out).trans (Aft.of_below hB9)
        have d5 : wp.cell? ⟨K.D, 5, none⟩ = some (.int .i64 vt) := HKS.out _ hB9
        clear hB9 c5
        go_wp2_with (fail)
        (with_reducible refine (fwork_any HK2.out HNE.out).mono ?_)
        rintro e w3 ⟨rfl, rfl⟩
        rw [HWK.out]
        go_wp2
        go_ret
        rw [HB.out]
        exact ⟨rfl, .mk' HA2.out HK2.out⟩
    · have hwf : workB b = false := by simpa using hw
      have HWK : Hid (workB (rdyB b f) = false) := hwf
      have HB : Hid (confirmB b f = (recB (rdyB b f) (confS b) f, 0)) := by unfold confirmB; rw [Hid, if_neg hbr, if_neg (by rw [hv1, hss]; omega), if_neg hw]
      have hrc : b.record = false := by unfold workB at hwf; simp only [Bool.or_eq_false_iff] at hwf; exact hwf.2
      have hbu := hrec HU.out.1 hrc
      have hok : setOk b.st 0 [(vt : Int), 2, 0] := by
        obtain ⟨x1, x2⟩ := set_fw HSB.out HSP.out (i := 0) (p := ⟨0, 1, 0⟩) (v := (vt : Int)) rfl ⟨by simp only; omega, by simp only; omega⟩
        obtain ⟨y1, y2⟩ := set_fw (s := setF b.st ((0 : Nat) : Int) (vt : Int)) (by rw [x2]; exact HSB.out) (by rw [x2]; exact HSP.out) (i := 1) (p := ⟨0, 2, 2⟩) (v := 2) rfl ⟨by simp only; omega, by simp only; omega⟩
        obtain ⟨z1, z2⟩ := set_fw (s := setF (setF b.st ((0 : Nat) : Int) (vt : Int)) ((1 : Nat) : Int) 2) (by rw [y2, x2]; exact HSB.out) (by rw [y2, x2]; exact HSP.out) (i := 2) (p := ⟨0, 3, 0⟩) (v := 0) rfl ⟨by simp only; omega, by simp only; omega⟩
        exact ⟨x1, y1, z1, trivial⟩
      have hI : ∀ x ∈ [(vt : Int), 2, 0], I64 x := fun x hx => by
        simp only [List.mem_cons, List.not_mem_nil, or_false] at hx
        rcases hx with rfl | rfl | rfl <;> (unfold I64; omega)
      have hcs : confS b = setN b.st 0 [(vt : Int), 2, 0] := by unfold confS; rw [hss]
      have HSO : Hid (StOk f (confS b)) := by rw [Hid, hcs]; exact setN_ok ho.ok hI
      have FS : Hid (∀ w4 : World, BkAt w0 w4 L S K f (rdyB b f) → Calls Try.prog 78 #[.pointer (some ⟨K.D, 0, none⟩), .int .i64 0, .slice (some ⟨w4.heap.size, 0, none⟩) 3 3] (w4.alloc (.cells #[.int .i64 vt, .int .i64 2, .int .i64 0] 3)) fun e w' => e = .returned .nilIface ∧ BkAt w0 w' L S K f { rdyB b f with st := confS b } ∧ Aft w4 w' L S K L S K) := fun w4 hK => by
        rw [hcs]
        exact fset_lit hK ho.ok 0 0 rfl (by omega) #[.int .i64 vt, .int .i64 2, .int .i64 0] [(vt : Int), 2, 0] rfl 3 rfl (by omega) hok hI
      have FRC : Hid (∀ w5 : World, BkAt w0 w5 L S K f { rdyB b f with st := confS b } → Calls Try.prog 82 #[.pointer (some ⟨K.D, 0, none⟩)] w5 fun e w' => e = .returned .nilIface ∧ BkTo w0 w5 L S K f (recB (rdyB b f) (confS b) f) w') := fun w5 hK => by
        obtain ⟨k1, k2, k3, k4, k5, k6, -, -⟩ := setN_keeps [(vt : Int), 2, 0] b.st 0
        rw [← hcs] at k1 k2 k3 k6
        exact frec_any hK HSO.out (beginE_two (k1.trans HSB.out) HU.out.2 (k2.trans hbu) (by show 0 ≤ (confS b).seq; rw [k3]; exact ho.ok.q1) (by show (confS b).seq ≤ 1000000; rw [k3]; exact hsq) (k6.trans (by rw [ho.ok.tl]; exact h9)))
      clear h ho hbr h9 hbf hrec hsq hv hv1 hss hs hs2 hw hwf hrc hbu hok hI hcs
      go_enter Try.func30, Try.ntmps30
      go_wp2_with (fail)
      (with_reducible refine HR.out.mono ?_)
      rintro e w1 ⟨rfl, hK, hX⟩
      have HK := Lib.hid hK
      have HX := Lib.hid hX
      obtain ⟨c5, hk5, hc57⟩ := TK.out w1 hK
      have HKS := Lib.hid hk5
      have HCS := Lib.hid hc57
      clear hK hX hk5 hc57
      go_wp2_with (fail)
      go_region_held3 (fun w' => w'.cell? ⟨K.D, 5, none⟩ = some (.int .i64 vt)) (first | go_keep | exact HKS.out _ hB9) (first
        | (go_at_call 57; refine (HCS.out _ (by repeat (first | exact Below.refl _ _ | refine Below.drew ?_ | refine Below.drewN ?_ _))).mono ?_; rintro e wp ⟨rfl, hB9⟩))
      all_goals
        have HK2 := Lib.hid (HK.out.later hB9)
        have HA2 : Hid (Aft w wp L S K L S K) := (Aft.bank HX.out).trans (Aft.of_below hB9)
        have d5 : wp.cell? ⟨K.D, 5, none⟩ = some (.int .i64 vt) := HKS.out _ hB9
        clear hB9 c5
        go_wp2_with (fail)
        (with_reducible refine (fwork_any HK2.out HNE.out).mono ?_)
        rintro e w3 ⟨rfl, rfl⟩
        rw [HWK.out]
        go_wp2_with (fail)
        (with_reducible refine (FS.out _ HK2.out).mono ?_)
        rintro e w4 ⟨rfl, hK, hA⟩
        have HA4 : Hid (Aft w w4 L S K L S K) := HA2.out.trans hA
        have HF4 := Lib.hid (FRC.out _ hK)
        clear hK hA d5
        go_wp2_with (fail)
        (with_reducible refine HF4.out.mono ?_)
        rintro e w5 ⟨rfl, hk⟩
        have HK5 := Lib.hid hk
        clear hk
        go_wp2
        go_ret
        rw [HB.out]
        exact ⟨rfl, .then HA4.out HK5.out⟩
  · have HB : Hid (confirmB b f = (rdyB b f, 12)) := by unfold confirmB; rw [Hid, if_neg hbr, if_pos (.inr (by rw [hv1, hss]; omega))]
    have ht1 : ¬ (vt : Int) = (s : Int) := by omega
    have ht2 : ((vt : Int) == (s : Int)) = false := by simpa using ht1
    clear h ho hbr h9 hbf hrec hsq hv hv1 hss hs hs2 hts
    go_enter Try.func30, Try.ntmps30
    go_wp2_with (fail)
    (with_reducible refine HR.out.mono ?_)
    rintro e w1 ⟨rfl, hK, hX⟩
    have HK := Lib.hid hK
    have HX := Lib.hid hX
    obtain ⟨c5, hk5, hc57⟩ := TK.out w1 hK
    have HKS := Lib.hid hk5
    have HCS := Lib.hid hc57
    clear hK hX hk5 hc57
    go_wp2_with (fail)
    go_region_held3 (fun w' => w'.cell? ⟨K.D, 5, none⟩ = some (.int .i64 s)) (first | go_keep | exact HKS.out _ hB9) (first
      | (go_at_call 57; refine (HCS.out _ (by repeat (first | exact Below.refl _ _ | refine Below.drew ?_ | refine Below.drewN ?_ _))).mono ?_; rintro e wp ⟨rfl, hB9⟩))
    all_goals
      go_wp2
      go_ret
      rw [HB.out]
      exact ⟨rfl, .mk' ((Aft.bank HX.out).trans (Aft.of_below hB9)) (HK.out.later hB9)⟩
end
end Go.Proofs.Ytjdknddnanopaaa
