/-
  Firmware: Feed of a bank.
-/
import Derived.Test.YtjdknddnanopaaaF13
namespace Go.Proofs.Ytjdknddnanopaaa
open Go.RowKit
set_option linter.unusedVariables false
set_option linter.unusedSimpArgs false

section
variable {w0 w w1 w' : World} {L L' : Lc} {S S' : Sc} {K K' : Kc} {f f' : Fl} {b b' : Bk} {s : St}
set_option maxRecDepth 100000 in
set_option maxHeartbeats 4000000 in
theorem ffeed_any (h : BkAt w0 w L S K f b) (ho : BkOk f b) (A : Option Addr) (n c : Nat) (x : List Int) (hA : RdX (OwnK L S K) w A (kcells .u8 x)) (hn : x.length = n) (hnc : n ≤ c) (hcm : c ≤ maxLen) : Calls Try.prog 36 #[.pointer (some ⟨K.D, 0, none⟩), .slice A n c] w (CallR w0 w L S K f (feedB b f x)) := by
  have g1 := ne_nil
  have g2 := ne_err
  have HR := Lib.hid (fready_any h)
  have HO := Lib.hid (rdy_ok ho)
  have HNE : Hid (∀ d, (rdyB b f).data = some d → d ≠ []) := ho.ne
  have HA := Lib.hid hA
  unfold maxLen at hcm
  by_cases hbr : (rdyB b f).broken = true
  · have HB : Hid (feedB b f x = (rdyB b f, 20)) := by unfold feedB; rw [Hid, if_pos hbr]
    rw [if_pos hbr, errV_ne (by decide)] at HR
    clear h ho hbr hA hn
    go_enter Try.func36, Try.ntmps36
    go_wp2_with (fail)
    (with_reducible refine HR.out.mono ?_)
    rintro e w1 ⟨rfl, hK, hX⟩
    have HK := Lib.hid hK
    have HX := Lib.hid hX
    have c6 : w1.cell? ⟨K.D, 6, none⟩ = some (.bool b.upload) := hK.row 6 _ rfl
    have c10 : w1.cell? ⟨K.D, 10, none⟩ = some (.int .i64 b.fed) := hK.row 10 _ rfl
    have c9 : w1.cell? ⟨K.D, 9, none⟩ = some (.int .i64 b.length) := hK.row 9 _ rfl
    clear hK hX
    go_wp2
    go_ret
    rw [HB.out]
    exact ⟨rfl, .mk' (.bank HX.out) HK.out⟩
  rw [if_neg hbr, errV_zero] at HR
  by_cases hup : b.upload = false
  · have HB : Hid (feedB b f x = (rdyB b f, 12)) := by unfold feedB; rw [Hid, if_neg hbr, if_pos (.inl hup)]
    clear h ho hbr hA hn
    go_enter Try.func36, Try.ntmps36
    go_wp2_with (fail)
    (with_reducible refine HR.out.mono ?_)
    rintro e w1 ⟨rfl, hK, hX⟩
    have HK := Lib.hid hK
    have HX := Lib.hid hX
    have c6 : w1.cell? ⟨K.D, 6, none⟩ = some (.bool b.upload) := hK.row 6 _ rfl
    have c10 : w1.cell? ⟨K.D, 10, none⟩ = some (.int .i64 b.fed) := hK.row 10 _ rfl
    have c9 : w1.cell? ⟨K.D, 9, none⟩ = some (.int .i64 b.length) := hK.row 9 _ rfl
    clear hK hX
    rw [hup] at c6
    go_wp2_with (fail)
    go_quiet (fail)
    go_wp2
    go_ret
    rw [HB.out]
    exact ⟨rfl, .mk' ((Aft.bank HX.out).trans (Aft.of_below (Below.drewN (Below.refl _ _) _))) (HK.out.later (Below.drewN (Below.refl _ _) _))⟩
  have hupf := hup
  have hup : b.upload = true := by simpa using hup
  by_cases hfl : b.fed = b.length
  · have HB : Hid (feedB b f x = (rdyB b f, 12)) := by unfold feedB; rw [Hid, if_neg hbr, if_pos (.inr hfl)]
    clear h ho hbr hA hn hupf
    go_enter Try.func36, Try.ntmps36
    go_wp2_with (fail)
    (with_reducible refine HR.out.mono ?_)
    rintro e w1 ⟨rfl, hK, hX⟩
    have HK := Lib.hid hK
    have HX := Lib.hid hX
    have c6 : w1.cell? ⟨K.D, 6, none⟩ = some (.bool b.upload) := hK.row 6 _ rfl
    have c10 : w1.cell? ⟨K.D, 10, none⟩ = some (.int .i64 b.fed) := hK.row 10 _ rfl
    have c9 : w1.cell? ⟨K.D, 9, none⟩ = some (.int .i64 b.length) := hK.row 9 _ rfl
    rw [hfl] at c10
    clear hK hX hfl
    rw [hup] at c6
    go_wp2_with (fail)
    go_quiet (fail)
    go_wp2
    go_ret
    rw [HB.out]
    exact ⟨rfl, .mk' ((Aft.bank HX.out).trans (Aft.of_below (Below.drewN (Below.refl _ _) _))) (HK.out.later (Below.drewN (Below.refl _ _) _))⟩
  have hst : ¬ (b.upload = false ∨ b.fed = b.length) := fun e => by rcases e with e | e <;> contradiction
  have hfd := ho.fed
  have hln : b.length ≤ 8192 := Nat.le_trans ho.len (by rw [ho.bk]; exact sizeF_le h.st.fl.ok ho.k8)
  have hf1 : ¬ (b.fed : Int) = (b.length : Int) := by omega
  have hf2 : ((b.fed : Int) == (b.length : Int)) = false := by simpa using hf1
  by_cases hw : workB b = true
  · have HWK : Hid (workB (rdyB b f) = true) := hw
    have HB : Hid (feedB b f x = (rdyB b f, 14)) := by unfold feedB; rw [Hid, if_neg hbr, if_neg hst, if_pos hw]
    clear h ho hbr hA hn hupf hst hw
    go_enter Try.func36, Try.ntmps36
    go_wp2_with (fail)
    (with_reducible refine HR.out.mono ?_)
    rintro e w1 ⟨rfl, hK, hX⟩
    have HK := Lib.hid hK
    have HX := Lib.hid hX
    have c6 : w1.cell? ⟨K.D, 6, none⟩ = some (.bool b.upload) := hK.row 6 _ rfl
    have c10 : w1.cell? ⟨K.D, 10, none⟩ = some (.int .i64 b.fed) := hK.row 10 _ rfl
    have c9 : w1.cell? ⟨K.D, 9, none⟩ = some (.int .i64 b.length) := hK.row 9 _ rfl
    clear hK hX
    rw [hup] at c6
    go_wp2_with (fail)
    go_quiet (fail)
    obtain ⟨W2, hW2⟩ : ∃ W, w1.drewN nq = W := ⟨_, rfl⟩
    have HK2 : Hid (BkAt w0 W2 L S K f (rdyB b f)) := by rw [← hW2]; exact HK.out.later (Below.drewN (Below.refl _ _) _)
    have HA2 : Hid (Aft w W2 L S K L S K) := by rw [← hW2]; exact (Aft.bank HX.out).trans (Aft.of_below (Below.drewN (Below.refl _ _) _))
    rw [hW2]
    clear hW2 c6 c9 c10
    go_wp2_with (fail)
    (with_reducible refine (fwork_any HK2.out HNE.out).mono ?_)
    rintro e w3 ⟨rfl, rfl⟩
    rw [HWK.out]
    have d9 : W2.cell? ⟨K.D, 9, none⟩ = some (.int .i64 b.length) := HK2.out.row 9 _ rfl
    have d10 : W2.cell? ⟨K.D, 10, none⟩ = some (.int .i64 b.fed) := HK2.out.row 10 _ rfl
    go_wp2
    go_ret
    rw [HB.out]
    exact ⟨rfl, .mk' HA2.out HK2.out⟩
  have hwf : workB b = false := by simpa using hw
  have HWK : Hid (workB (rdyB b f) = false) := hwf
  obtain ⟨M, hM⟩ : ∃ M, min 64 (b.length - b.fed) = M := ⟨_, rfl⟩
  have hmin : min (64 : Int) ((b.length : Int) - (b.fed : Int)) = (M : Int) := by omega
  have hsub : IntKind.i64.wrap ((b.length : Int) - (b.fed : Int)) = (b.length : Int) - (b.fed : Int) := IntWalk.i64_in _ (by omega)
  by_cases hxl : n = M
  case neg =>
    have HB : Hid (feedB b f x = (rdyB b f, 11)) := by unfold feedB; rw [Hid, if_neg hbr, if_neg hst, if_neg hw, if_pos (by rw [hM, hn]; exact hxl)]
    have hx1 : ¬ (n : Int) = (M : Int) := by omega
    have hx2 : ((n : Int) == (M : Int)) = false := by simpa using hx1
    clear h ho hbr hA hn hupf hst hw hwf hM hxl
    go_enter Try.func36, Try.ntmps36
    go_wp2_with (fail)
    (with_reducible refine HR.out.mono ?_)
    rintro e w1 ⟨rfl, hK, hX⟩
    have HK := Lib.hid hK
    have HX := Lib.hid hX
    have c6 : w1.cell? ⟨K.D, 6, none⟩ = some (.bool b.upload) := hK.row 6 _ rfl
    have c10 : w1.cell? ⟨K.D, 10, none⟩ = some (.int .i64 b.fed) := hK.row 10 _ rfl
    have c9 : w1.cell? ⟨K.D, 9, none⟩ = some (.int .i64 b.length) := hK.row 9 _ rfl
    clear hK hX
    rw [hup] at c6
    go_wp2_with (fail)
    go_quiet (fail)
    obtain ⟨W2, hW2⟩ : ∃ W, w1.drewN nq = W := ⟨_, rfl⟩
    have HK2 : Hid (BkAt w0 W2 L S K f (rdyB b f)) := by rw [← hW2]; exact HK.out.later (Below.drewN (Below.refl _ _) _)
    have HA2 : Hid (Aft w W2 L S K L S K) := by rw [← hW2]; exact (Aft.bank HX.out).trans (Aft.of_below (Below.drewN (Below.refl _ _) _))
    rw [hW2]
    clear hW2 c6 c9 c10
    go_wp2_with (fail)
    (with_reducible refine (fwork_any HK2.out HNE.out).mono ?_)
    rintro e w3 ⟨rfl, rfl⟩
    rw [HWK.out]
    have d9 : W2.cell? ⟨K.D, 9, none⟩ = some (.int .i64 b.length) := HK2.out.row 9 _ rfl
    have d10 : W2.cell? ⟨K.D, 10, none⟩ = some (.int .i64 b.fed) := HK2.out.row 10 _ rfl
    go_wp2_with (fail)
    go_quiet (fail)
    go_wp2
    go_ret
    rw [HB.out]
    exact ⟨rfl, .mk' (HA2.out.trans (Aft.of_below (Below.drewN (Below.refl _ _) _))) (HK2.out.later (Below.drewN (Below.refl _ _) _))⟩
  subst hxl
  obtain ⟨D, hD⟩ : ∃ D, b.dst = D := ⟨_, rfl⟩
  obtain ⟨B1, hB1⟩ : ∃ B1, blkB b D = B1 := ⟨_, rfl⟩
  obtain ⟨P, hP⟩ : ∃ P, f.pg = P := ⟨_, rfl⟩
  have hD1 : D ≤ 1 := by rw [← hD]; exact ho.dst
  have hfi : b.first ≤ 64 := by have := ho.fw; have := h.st.fl.ok.b2; omega
  have hB82 : B1 ≤ 82 := by
    rw [← hB1]; unfold blkB
    have := Nat.mul_le_mul hD1 ho.k8
    omega
  have hP16 : P ≤ 16 := by rw [← hP]; exact h.st.fl.ok.p2
  have hBP : B1 * P ≤ 82 * 16 := Nat.mul_le_mul hB82 hP16
  obtain ⟨PG, hPG⟩ : ∃ PG, B1 * P + b.fed / 64 = PG := ⟨_, rfl⟩
  obtain ⟨BP, hBPe⟩ : ∃ BP, B1 * P = BP := ⟨_, rfl⟩
  obtain ⟨Q, hQ⟩ : ∃ Q, b.fed / 64 = Q := ⟨_, rfl⟩
  have hpg0 : ((B1 : Int) * (P : Int)) = (BP : Int) := by rw [← hBPe]; push_cast; rfl
  have q0 : IntKind.i64.wrap (BP : Int) = (BP : Int) := IntWalk.i64_in _ (by omega)
  have q2 : ((b.fed : Nat) : Int).tdiv 64 = (Q : Int) := by rw [Int.tdiv_eq_ediv_of_nonneg (by omega)]; omega
  have q2' : ((b.fed : Nat) : Int) / 64 = (Q : Int) := by omega
  have q2w : IntKind.i64.wrap (Q : Int) = (Q : Int) := IntWalk.i64_in _ (by omega)
  have q3 : (BP : Int) + (Q : Int) = (PG : Int) := by omega
  have q4 : IntKind.i64.wrap (PG : Int) = (PG : Int) := IntWalk.i64_in _ (by omega)
  have HB : Hid (feedB b f x = ({ rdyB b f with page := PG, data := some (padB x), fed := b.fed + n }, 0)) := by
    unfold feedB; rw [Hid, if_neg hbr, if_neg hst, if_neg hw, if_neg (by rw [hM, hn]; simp), hn, hD, hB1, hP, hPG]
  have hn64 : n ≤ 64 := by omega
  have hfn : b.fed + n ≤ 8192 := by omega
  have HFI : Hid (b.first ≤ 64) := hfi
  have HBL : Hid (b.blocks = 2 * b.k + 2 ∧ b.k ≤ 8) := ⟨ho.bk, ho.k8⟩
  have HDD := Lib.hid hD
  have HBB := Lib.hid hB1
  have HPP := Lib.hid hP
  have HN := Lib.hid hn
  clear h ho hbr hA hn hupf hst hw hwf hM hD hB1 hP hPG hfi hBP hBPe hQ
  go_enter Try.func36, Try.ntmps36
  go_wp2_with (fail)
  (with_reducible refine HR.out.mono ?_)
  rintro e w1 ⟨rfl, hK, hX⟩
  have HK := Lib.hid hK
  have HX := Lib.hid hX
  have c6 : w1.cell? ⟨K.D, 6, none⟩ = some (.bool b.upload) := hK.row 6 _ rfl
  have c10 : w1.cell? ⟨K.D, 10, none⟩ = some (.int .i64 b.fed) := hK.row 10 _ rfl
  have c9 : w1.cell? ⟨K.D, 9, none⟩ = some (.int .i64 b.length) := hK.row 9 _ rfl
  clear hK hX
  rw [hup] at c6
  go_wp2_with (fail)
  go_quiet (fail)
  obtain ⟨W2, hW2⟩ : ∃ W, w1.drewN nq = W := ⟨_, rfl⟩
  have HK2 : Hid (BkAt w0 W2 L S K f (rdyB b f)) := by rw [← hW2]; exact HK.out.later (Below.drewN (Below.refl _ _) _)
  have HA2 : Hid (Aft w W2 L S K L S K) := by rw [← hW2]; exact (Aft.bank HX.out).trans (Aft.of_below (Below.drewN (Below.refl _ _) _))
  rw [hW2]
  clear hW2 c6 c9 c10
  go_wp2_with (fail)
  (with_reducible refine (fwork_any HK2.out HNE.out).mono ?_)
  rintro e w3 ⟨rfl, rfl⟩
  rw [HWK.out]
  have d9 : W2.cell? ⟨K.D, 9, none⟩ = some (.int .i64 b.length) := HK2.out.row 9 _ rfl
  have d10 : W2.cell? ⟨K.D, 10, none⟩ = some (.int .i64 b.fed) := HK2.out.row 10 _ rfl
  go_wp2_with (fail)
  go_quiet (fail)
  obtain ⟨W3, hW3⟩ : ∃ W, W2.drewN nq = W := ⟨_, rfl⟩
  have HK3 : Hid (BkAt w0 W3 L S K f (rdyB b f)) := by rw [← hW3]; exact HK2.out.later (Below.drewN (Below.refl _ _) _)
  have HA3 : Hid (Aft w W3 L S K L S K) := by rw [← hW3]; exact HA2.out.trans (Aft.of_below (Below.drewN (Below.refl _ _) _))
  rw [hW3]
  clear hW3 d9 d10
  have HKS : Hid (∀ W, Below W3.heap.size W3 W → W.cell? ⟨K.D, 7, none⟩ = some (.int .i64 D) ∧ W.cell? ⟨K.D, 0, none⟩ = some (.pointer (some ⟨L.d, 0, none⟩)) ∧ W.cell? ⟨K.D, 10, none⟩ = some (.int .i64 b.fed)) := fun W hB => by
    have h1 := (HK3.out.later hB).row 7 _ rfl
    rw [show (rdyB b f).dst = D from HDD.out] at h1
    exact ⟨h1, (HK3.out.later hB).row 0 _ rfl, (HK3.out.later hB).row 10 _ rfl⟩
  have HKC : Hid (∀ (q : Nat) (u : Value), ((W3.drewN q).setCell ⟨K.D, 12, none⟩ u).cell? ⟨K.D, 7, none⟩ = some (.int .i64 D) ∧ ((W3.drewN q).setCell ⟨K.D, 12, none⟩ u).cell? ⟨K.D, 0, none⟩ = some (.pointer (some ⟨L.d, 0, none⟩)) ∧ ((W3.drewN q).setCell ⟨K.D, 12, none⟩ u).cell? ⟨K.D, 10, none⟩ = some (.int .i64 b.fed)) := fun q u => by
    obtain ⟨h1, h2, h3⟩ := HKS.out _ (Below.drewN (Below.refl W3.heap.size W3) q)
    exact ⟨(World.cell?_setCell_other _ _ _ _ (by simp)).trans h1, (World.cell?_setCell_other _ _ _ _ (by simp)).trans h2, (World.cell?_setCell_other _ _ _ _ (by simp)).trans h3⟩
  obtain ⟨d7, d0, d10⟩ := HKS.out _ (Below.refl _ _)
  have z12 := HK3.out.fz 12
  have d12 : W3.cell? ⟨K.D, 12, none⟩ = some (.int .i64 b.page) := HK3.out.row 12 _ rfl
  have HBC : Hid (∀ W, Below W3.heap.size W3 W → Calls Try.prog 83 #[.pointer (some ⟨K.D, 0, none⟩), .int .i64 D] W fun e w' => e = .returned (.int .i64 B1) ∧ ∃ q, w' = W.drewN q) := fun W hB => by
    have := fblock_any (HK3.out.later hB) HBL.out.1 HBL.out.2 HFI.out (D : Int) D rfl (by omega)
    rw [show blkB (rdyB b f) D = B1 from HBB.out] at this
    exact this
  have HPC : Hid (∀ W, Below W3.heap.size W3 W → Calls Try.prog 64 #[.pointer (some ⟨L.d, 0, none⟩)] W fun e w' => e = .returned (.int .i64 P) ∧ w' = W) := fun W hB => by
    have := pages_any (HK3.out.later hB).st.fl
    rw [HPP.out] at this
    exact this.mono (fun e w' hh => ⟨hh.1, hh.2.symm⟩)
  have HPAD : Hid (∀ q, Calls Try.prog 66 #[.slice A n c] ((W3.drewN q).setCell ⟨K.D, 12, none⟩ (.int .i64 PG)) fun e w' => ∃ A' c', e = .returned (.slice A' 64 c') ∧ 64 ≤ c' ∧ c' ≤ maxLen ∧ BkAt w0 w' L S K f { rdyB b f with page := PG } ∧ Aft w w' L S K L S K ∧ RdX (Own L S) w' A' (kcells .u8 (padB x))) := fun q => by
    have hbq := Below.drewN (Below.refl W3.heap.size W3) q
    have hkq := HK3.out.later hbq
    obtain ⟨hc1, hc2⟩ := hkq.cell' 12 (.int .i64 PG) { rdyB b f with page := PG } rfl rfl rfl rfl
    have hr1 : RdX (OwnK L S K) ((W3.drewN q).setCell ⟨K.D, 12, none⟩ (.int .i64 PG)) A (kcells .u8 x) := ((HA.out.onlyX HA3.out.only).onlyX (OnlyX.of_below hbq)).onlyX hc2 (fun g hg => .inr (.inl hg))
    refine (pad_any A n c x _ hr1.rd HN.out hn64).mono ?_
    rintro e w' ⟨A', c', he, ho, hb⟩
    obtain ⟨A2, c2, e2, h4, h5, -⟩ := own_form ho
    injection e2 with e21 e22 e23
    subst e21 e23
    refine ⟨A', c', he, h4, h5, hc1.later hb, HA3.out.trans ((Aft.of_below hbq).trans ((Aft.bank hc2).trans (Aft.of_below hb))), rdx_own (by rw [kcells_length]; exact padB_length (by rw [HN.out]; exact hn64)) ho (fun g hg => hc1.st.own_lt g hg)⟩
  go_wp2_with (fail)
  go_region_held3 (fun w9 => w9.cell? ⟨K.D, 7, none⟩ = some (.int .i64 D) ∧ w9.cell? ⟨K.D, 0, none⟩ = some (.pointer (some ⟨L.d, 0, none⟩)) ∧ w9.cell? ⟨K.D, 10, none⟩ = some (.int .i64 b.fed)) (first | exact HKS.out _ (Below.drewN (Below.refl _ _) _) | exact HKC.out _ _ | exact HKS.out _ (Below.drew (Below.drewN (Below.refl _ _) _)) | go_keep) (first
    | (go_at_call 83; refine (HBC.out _ (by first | exact Below.refl _ _ | exact Below.drewN (Below.refl _ _) _ | exact Below.drew (Below.refl _ _))).mono ?_; rintro e wp ⟨rfl, qb, rfl⟩)
    | (go_at_call 64; refine (HPC.out _ (by first | exact Below.refl _ _ | exact Below.drewN (Below.refl _ _) _ | exact Below.drew (Below.refl _ _))).mono ?_; rintro e wp ⟨rfl, rfl⟩))
  all_goals
    clear d7 d0 d10 z12 d12
    go_wp2_with (fail)
    (with_reducible refine (HPAD.out _).mono ?_)
    rintro e w4 ⟨A4, c4, rfl, hc1, hc2, hK, hA, hR⟩
    have HA4 := Lib.hid hA
    have d13 : w4.cell? ⟨K.D, 13, none⟩ = some (.slice K.A K.n K.c) := hK.row 13 _ rfl
    have d10 : w4.cell? ⟨K.D, 10, none⟩ = some (.int .i64 b.fed) := hK.row 10 _ rfl
    have z13 := hK.fz 13
    have z10 := hK.fz 10
    have HC1 := Lib.hid (hK.cell 13 (.slice A4 64 c4) { K with A := A4, n := 64, c := c4 } { rdyB b f with page := PG, data := some (padB x) } rfl rfl rfl hK.er hK.en ⟨hR, padB_length (by rw [HN.out]; exact hn64), hc1, hc2⟩)
    have HC2 := Lib.hid (HC1.out.1.cell' 10 (.int .i64 ((b.fed + n : Nat) : Int)) { rdyB b f with page := PG, data := some (padB x), fed := b.fed + n } rfl rfl rfl rfl)
    have q5 : (b.fed : Int) + (n : Int) = ((b.fed + n : Nat) : Int) := by push_cast; rfl
    have HQ5 := Lib.hid q5
    rw [← q5] at HC2
    clear hK hA hR q5
    go_wp2
    go_ret
    rw [HB.out]
    refine ⟨rfl, L, S, { K with A := A4, n := 64, c := c4 }, ?_, HC2.out.1⟩
    exact HA4.out.trans ((Aft.of_bank HC1.out.2 (K' := { K with A := A4, n := 64, c := c4 }) rfl (fun g _ hg => hg)).trans (Aft.bank HC2.out.2))
end
end Go.Proofs.Ytjdknddnanopaaa
