/-
  Firmware: the bytes of a slot, read.
-/
import Derived.Test.YtjdknddnanopaaaF12
namespace Go.Proofs.Ytjdknddnanopaaa
open Go.RowKit
set_option linter.unusedVariables false
set_option linter.unusedSimpArgs false

theorem take_step (l : List Int) (a j : Nat) : (l.drop (64 * a)).take (64 * (j + 1)) = (l.drop (64 * a)).take (64 * j) ++ (l.drop (64 * (a + j))).take 64 := by
  rw [show 64 * (j + 1) = 64 * j + 64 by omega, List.take_add, List.drop_drop, show 64 * a + 64 * j = 64 * (a + j) by omega]

section
variable {w0 w w1 w' : World} {L L' : Lc} {S S' : Sc} {K K' : Kc} {f f' : Fl} {b b' : Bk} {s : St}
theorem slot_room (ho : BkOk f b) (hw : f.wear.length ≤ 64) (hp : f.pg ≤ 16) {s : Nat} (hs : s ≤ 1) : blkB b s * f.pg + b.k * f.pg ≤ f.wear.length * f.pg ∧ sizeF f b.blocks = b.k * f.pg * 64 := by
  constructor
  · rw [← Nat.add_mul]
    refine Nat.mul_le_mul_right _ ?_
    unfold blkB
    have h1 := ho.fw
    have h2 := ho.bk
    have h3 := Nat.mul_le_mul_right b.k hs
    omega
  · unfold sizeF Bk.k
    rfl

set_option maxRecDepth 100000 in
set_option maxHeartbeats 2000000 in
theorem fread_any (h : BkAt w0 w L S K f b) (ho : BkOk f b) (hd : f.down = false) (s n : Nat) (hs : s ≤ 1) (hn : 1 ≤ n) (hn2 : n ≤ sizeF f b.blocks) (X : Nat → Prop) (hX : ∀ g, X g → g < w.heap.size) :
    Calls Try.prog 80 #[.pointer (some ⟨K.D, 0, none⟩), .int .i64 s, .int .i64 n] w fun e w' => ∃ A c, e = .returned (.tuple #[.slice A n c, .nilIface]) ∧ n ≤ c ∧ c ≤ maxLen ∧ RdX X w' A (kcells .u8 (imgB f b s n)) ∧ (imgB f b s n).length = n ∧ Below w.heap.size w w' := by
  have g1 := ne_nil
  obtain ⟨i5, hi5, hz50, hz51, hz52⟩ := info_parts info5
  have hwl := h.st.fl.ok.b2
  have hpg := h.st.fl.ok.p2
  obtain ⟨hr1, hr2⟩ := slot_room ho hwl hpg hs
  have h1024 : f.wear.length * f.pg ≤ 1024 := pages_1024 h.st.fl.ok
  obtain ⟨B1, hB1⟩ : ∃ B1, blkB b s = B1 := ⟨_, rfl⟩
  obtain ⟨P, hP⟩ : ∃ P, f.pg = P := ⟨_, rfl⟩
  obtain ⟨Q, hQ⟩ : ∃ Q, B1 * P = Q := ⟨_, rfl⟩
  have hQi : (B1 : Int) * (P : Int) = (Q : Int) := by rw [← hQ]; push_cast; rfl
  have hB82 : B1 ≤ 82 := by
    rw [← hB1]; unfold blkB
    have := Nat.mul_le_mul hs ho.k8
    have := ho.fw
    omega
  have hfi : b.first ≤ 64 := by have := ho.fw; omega
  have HFI : Hid (b.first ≤ 64) := hfi
  have HBL : Hid (b.blocks = 2 * b.k + 2 ∧ b.k ≤ 8) := ⟨ho.bk, ho.k8⟩
  obtain ⟨J, hJ⟩ : ∃ J, (n + 63) / 64 = J := ⟨_, rfl⟩
  have hJ1 : n ≤ 64 * J ∧ 64 * J < n + 64 := by omega
  have hJr : Q + J ≤ 1024 := by
    rw [hB1, hP, hQ] at hr1
    rw [hP] at hr2 h1024
    generalize b.k * P = kp at hr1 hr2
    omega
  have hJw : Q + J ≤ f.wear.length * f.pg := by
    rw [hB1, hP, hQ] at hr1
    rw [hP] at hr2
    rw [hP]
    generalize b.k * P = kp at hr1 hr2
    omega
  have hlen : f.img.length = f.wear.length * f.pg * 64 := h.st.fl.ok.len
  have HRP : Hid (∀ j, j < J → readF f ((Q + j : Nat) : Int) = (pageF f (Q + j), 0) ∧ (pageF f (Q + j)).length = 64) := fun j hj =>
    ⟨readF_in hd (by omega), pageF_len h.st.fl.ok (by omega)⟩
  have HIM : Hid (imgB f b s n = ((f.img.drop (64 * Q)).take (64 * J)).take n) := by
    unfold imgB
    rw [Hid, hB1, hP, hQ, List.take_take, Nat.min_eq_left (by omega)]
  have HIL : Hid ((imgB f b s n).length = n) := by
    unfold imgB
    rw [Hid, hB1, hP, hQ, List.length_take, List.length_drop, hlen]
    omega
  have HJL : Hid (((f.img.drop (64 * Q)).take (64 * J)).length = 64 * J) := by
    rw [Hid, List.length_take, List.length_drop, hlen]
    omega
  have HK := Lib.hid h
  have HKS : Hid (∀ W, Below w.heap.size w W → W.cell? ⟨K.D, 0, none⟩ = some (.pointer (some ⟨L.d, 0, none⟩))) := fun W hB => (HK.out.later hB).row 0 _ rfl
  have HBC : Hid (∀ W, Below w.heap.size w W → Calls Try.prog 83 #[.pointer (some ⟨K.D, 0, none⟩), .int .i64 s] W fun e w' => e = .returned (.int .i64 B1) ∧ ∃ q, w' = W.drewN q) := fun W hB => by
    have := fblock_any (HK.out.later hB) HBL.out.1 HBL.out.2 HFI.out (s : Int) s rfl (by omega)
    rw [hB1] at this
    exact this
  have HPC : Hid (∀ W, Below w.heap.size w W → Calls Try.prog 64 #[.pointer (some ⟨L.d, 0, none⟩)] W fun e w' => e = .returned (.int .i64 P) ∧ w' = W) := fun W hB => by
    have := pages_any (HK.out.later hB).st.fl
    rw [hP] at this
    exact this.mono (fun e w' hh => ⟨hh.1, hh.2.symm⟩)
  have HRC : Hid (∀ j, j < J → ∀ W, Below w.heap.size w W → Calls Try.prog 115 #[.pointer (some ⟨L.d, 0, none⟩), .int .i64 ((Q : Int) + (j : Int))] W fun e w' => ∃ A' c', e = .returned (.tuple #[.slice A' 64 c', .nilIface]) ∧ Rd w' w'.heap.size A' (kcells .u8 (pageF f (Q + j))) ∧ Below W.heap.size W w') := fun j hj W hB => by
    have := read_any (HK.out.later hB).st.fl ((Q + j : Nat) : Int)
    obtain ⟨e1, e2⟩ := HRP.out j hj
    rw [e1, errV_zero] at this
    simp only at this
    rw [e2] at this
    rw [show (Q : Int) + (j : Int) = ((Q + j : Nat) : Int) by push_cast; rfl]
    refine this.mono ?_
    rintro e w' ⟨v', he, ho, hb⟩
    obtain ⟨A', c', rfl, _, _, hr⟩ := own_read ho
    exact ⟨A', c', he, hr, hb⟩
  have HX := Lib.hid hX
  clear h ho hd hwl hpg hr1 hr2 h1024 hB1 hP hQ hfi hJ hJw hlen hX hn2
  obtain ⟨hJ2, hJ3⟩ := hJ1
  go_enter Try.func80, Try.ntmps80
  go_wp2_with (fail)
  go_loopw [8, 9] (fun v i wr => ∃ j : Nat, j ≤ J ∧ i = .int .i64 j ∧ wr.ownsRow w.heap.size 5 1 v (64 * j) (kcells .u8 ((f.img.drop (64 * Q)).take (64 * j))) ∧ Below w.heap.size w wr) (fun _ i _ => J - (intOf i).toNat)
  case atStart => exact ⟨0, Nat.zero_le _, rfl, World.ownsRow_nil .., Below.refl _ _⟩
  case round =>
    obtain ⟨j, hj, rfl, hO, hB⟩ := hrel
    obtain ⟨A1, c1, rfl, h1, h2, -⟩ := own_form hO
    have HO := Lib.hid hO
    have HB := Lib.hid hB
    have c0 := HKS.out _ hB
    clear hO hB
    by_cases hlt : j < J
    · have HRJ := Lib.hid (HRC.out j hlt)
      have HKS2 : Hid (∀ W, Below wr.heap.size wr W → W.cell? ⟨K.D, 0, none⟩ = some (.pointer (some ⟨L.d, 0, none⟩))) := fun W hb => HKS.out _ (HB.out.trans (hb.mono HB.out.size))
      have HBC2 : Hid (∀ W, Below wr.heap.size wr W → Calls Try.prog 83 #[.pointer (some ⟨K.D, 0, none⟩), .int .i64 s] W fun e w' => e = .returned (.int .i64 B1) ∧ ∃ q, w' = W.drewN q) := fun W hb => HBC.out _ (HB.out.trans (hb.mono HB.out.size))
      have HPC2 : Hid (∀ W, Below wr.heap.size wr W → Calls Try.prog 64 #[.pointer (some ⟨L.d, 0, none⟩)] W fun e w' => e = .returned (.int .i64 P) ∧ w' = W) := fun W hb => HPC.out _ (HB.out.trans (hb.mono HB.out.size))
      have HRJ2 : Hid (∀ q, Calls Try.prog 115 #[.pointer (some ⟨L.d, 0, none⟩), .int .i64 ((Q : Int) + (j : Int))] (wr.drewN q) fun e w' => ∃ A' c', e = .returned (.tuple #[.slice A' 64 c', .nilIface]) ∧ Rd w' w'.heap.size A' (kcells .u8 (pageF f (Q + j))) ∧ Below wr.heap.size wr w') := fun q => by
        have hb := Below.drewN (Below.refl wr.heap.size wr) q
        refine (HRJ.out _ (HB.out.trans (hb.mono HB.out.size))).mono ?_
        rintro e w' ⟨A', c', he, hr, hb2⟩
        exact ⟨A', c', he, hr, hb.trans (hb2.mono hb.size)⟩
      have q1 : IntKind.i64.wrap (Q : Int) = (Q : Int) := IntWalk.i64_in _ (by omega)
      have q2 : IntKind.i64.wrap ((Q : Int) + (j : Int)) = (Q : Int) + (j : Int) := IntWalk.i64_in _ (by omega)
      go_wp2_with (fail)
      go_region_held3 (fun w9 => w9.cell? ⟨K.D, 0, none⟩ = some (.pointer (some ⟨L.d, 0, none⟩))) (first | exact HKS2.out _ (Below.drewN (Below.refl _ _) _) | exact HKS2.out _ (Below.drew (Below.refl _ _)) | exact HKS2.out _ hB9 | go_keep) (first
        | (go_at_call 83; refine (HBC2.out _ (by first | exact Below.refl _ _ | exact Below.drewN (Below.refl _ _) _ | exact Below.drew (Below.refl _ _))).mono ?_; rintro e wp ⟨rfl, qb, rfl⟩)
        | (go_at_call 64; refine (HPC2.out _ (by first | exact Below.refl _ _ | exact Below.drewN (Below.refl _ _) _ | exact Below.drew (Below.refl _ _))).mono ?_; rintro e wp ⟨rfl, rfl⟩)
        | (go_at_call 115; refine (HRJ2.out _).mono ?_; rintro e wb ⟨A2, c2, rfl, hr9, hB9⟩))
      all_goals
        have HO2 : Hid (wb.ownsRow w.heap.size 5 1 (.slice A1 (64 * j) c1) (64 * j) (kcells .u8 ((f.img.drop (64 * Q)).take (64 * j)))) := own_below HO.out hB9
        have HB2 : Hid (Below w.heap.size w wb) := HB.out.trans (hB9.mono HB.out.size)
        have HR9 := Lib.hid hr9
        have HL9 : Hid ((kcells .u8 (pageF f (Q + j))).length = 64 * 1) := by rw [Hid, kcells_length]; exact (HRP.out j hlt).2
        have HBS : Hid (w.heap.size ≤ wb.heap.size) := HB2.out.size
        have HST : Hid ((f.img.drop (64 * Q)).take (64 * (j + 1)) = (f.img.drop (64 * Q)).take (64 * j) ++ pageF f (Q + j)) := take_step f.img Q j
        clear hB9 hr9 c0
        go_wp2_with (at_builtin; refine wpList_append_rd _ rfl _ _ 22 rfl w.heap.size 5 i5 (.int .u8 0) 1 1 Try.underlying22 hi5 hz50 hz51 hz52 rfl (by omega) _ (64 * j) (kcells .u8 ((f.img.drop (64 * Q)).take (64 * j))) rfl HO2.out wb.heap.size A2 64 c2 (kcells .u8 (pageF f (Q + j))) rfl HR9.out HL9.out (kcells_one _ _) (by unfold maxLen; omega) (by omega) HBS.out ?_)
        intro v' w2 hown hgrow hat
        have HB3 : Hid (Below w.heap.size w w2) := HB2.out.grown hgrow HBS.out (fun k hk => (HO2.out.lt k hk).1)
        rw [← kcells_append, ← HST.out, show 64 * j + 64 = 64 * (j + 1) by omega] at hown
        obtain ⟨A3, c3, rfl, h4, h5, -⟩ := own_form hown
        have HO3 := Lib.hid hown
        clear hown hgrow hat
        go_wp2
        go_roundw
        case rel => exact ⟨j + 1, by omega, by go_num, HO3.out, HB3.out⟩
        case measure => simp [intOf]; omega
    · have hjJ : j = J := by omega
      subst hjJ
      obtain ⟨A2, c2, e2, -, -, hg2⟩ := own_form HO.out
      injection e2 with e21 e22 e23
      obtain ⟨g2, e3, -⟩ := hg2 (by omega)
      rw [e3] at e21
      subst e21
      have HF : Hid (RdX X wr (some ⟨g2, 0, none⟩) (kcells .u8 (imgB f b s n))) := by
        rw [Hid, HIM.out]
        refine (rdx_own (by rw [kcells_length]; exact HJL.out) HO.out HX.out).part ?_
        unfold kcells
        rw [List.map_take]
        exact List.take_prefix _ _
      have hnc : n ≤ c1 := by omega
      have HH2 := Lib.hid h2
      have HNC := Lib.hid hnc
      unfold maxLen at h2
      clear e22 e23 hg2 e3 c0
      go_wp2
      go_ret2
      exact ⟨_, c1, rfl, HNC.out, HH2.out, HF.out, HIL.out, HB.out⟩
end
end Go.Proofs.Ytjdknddnanopaaa
