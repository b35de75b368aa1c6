/-
  The reference of layer 51: Open, one contract; the law's is.
-/
import Derived.Test.YtfeceamhlphelaaW70
namespace Go.Proofs.Ytfeceamhlphelaa
open Go.RowKit
set_option linter.unusedVariables false
set_option linter.unusedSimpArgs false

theorem getF_in {s : St} {i : Nat} (h : i < s.spec.length) (hl : s.staged.length = s.spec.length) {x : Int} (hx : s.staged[i]? = some x) : getF s i = (x, 0) := by
  unfold getF
  rw [if_neg (by omega), Int.toNat_natCast, hx]
  rfl
set_option maxRecDepth 100000 in
set_option maxHeartbeats 8000000 in
/-- A store shows what the reference's store shows. -/
theorem is_yes {w0 w : World} {L : Lc} {S : Sc} {f : Fl} {s : St} (h : StAt w0 w L S f s) (ho : StOk f s) {X : Nat → Prop} {fi bl : Value} {A : Option Addr} {n c : Nat} {Q2 Q3 : Option Addr} {c2 c3 : Nat} {blk slot u8 u9 u10 u11 u12 u13 : Value}
    (h2 : RdX X w Q2 (icells s.staged)) (h21 : s.staged.length ≤ c2) (h22 : c2 ≤ maxLen) (h3 : RdX X w Q3 (icells s.saved)) (h31 : s.saved.length ≤ c3) (h32 : c3 ≤ maxLen) :
    Calls Try.prog 66 #[.pointer (some ⟨S.D, 0, none⟩), .agg #[fi, bl, .slice A n c, .slice Q2 s.staged.length c2, .slice Q3 s.saved.length c3, .int .i64 s.seq, blk, slot, u8, u9, u10, u11, u12, u13, .bool s.broken]] w fun e w' => e = .returned (.bool true) ∧ Below w.heap.size w w' := by
  have g1 := ne_nil
  have H := Lib.hid h
  have HO := Lib.hid ho
  have H2 := Lib.hid h2
  have H3 := Lib.hid h3
  have HTL := Lib.hid ho.tl
  have HSL := Lib.hid ho.sl
  have hn48 := ho.n2
  obtain ⟨N, hN⟩ : ∃ N, s.spec.length = N := ⟨_, rfl⟩
  have HN := Lib.hid hN
  rw [ho.tl, hN] at h21 ⊢
  rw [ho.sl, hN] at h31 ⊢
  rw [hN] at hn48
  have hnm : N ≤ maxLen := Nat.le_trans h21 h22
  unfold maxLen at h22 h32
  have hbb : (s.broken != s.broken) = false := by simp
  have hqq : (s.seq != s.seq) = false := by simp
  clear h ho h2 h3 hN
  go_enter Try.func66, Try.ntmps66
  go_upto_region 1 with (fail)
  obtain ⟨W, hW⟩ : ∃ W, w.alloc (.cells #[fi, bl, .slice A n c, .slice Q2 N c2, .slice Q3 N c3, .int .i64 s.seq, blk, slot, u8, u9, u10, u11, u12, u13, .bool s.broken] 105) = W := ⟨_, rfl⟩
  have HBW : Hid (Below w.heap.size w W) := by rw [← hW]; exact below_one _ _
  have d3 : W.cell? ⟨w.heap.size, 3, none⟩ = some (.slice Q2 N c2) := by rw [← hW]; exact cell_new_at _ _ _ _ _ _ rfl rfl
  have d4 : W.cell? ⟨w.heap.size, 4, none⟩ = some (.slice Q3 N c3) := by rw [← hW]; exact cell_new_at _ _ _ _ _ _ rfl rfl
  have d5 : W.cell? ⟨w.heap.size, 5, none⟩ = some (.int .i64 s.seq) := by rw [← hW]; exact cell_new_at _ _ _ _ _ _ rfl rfl
  have d14 : W.cell? ⟨w.heap.size, 14, none⟩ = some (.bool s.broken) := by rw [← hW]; exact cell_new_at _ _ _ _ _ _ rfl rfl
  have hg : w.heap.size < W.heap.size := World.block_lt_of_cell? W _ d3
  have HKS : Hid (∀ W', Below W.heap.size W W' → W'.cell? ⟨w.heap.size, 3, none⟩ = some (.slice Q2 N c2) ∧ W'.cell? ⟨w.heap.size, 4, none⟩ = some (.slice Q3 N c3) ∧ W'.cell? ⟨w.heap.size, 5, none⟩ = some (.int .i64 s.seq) ∧ W'.cell? ⟨w.heap.size, 14, none⟩ = some (.bool s.broken)) := fun W' hb =>
    ⟨(hb.cell (p := ⟨w.heap.size, 3, none⟩) hg).trans d3, (hb.cell (p := ⟨w.heap.size, 4, none⟩) hg).trans d4, (hb.cell (p := ⟨w.heap.size, 5, none⟩) hg).trans d5, (hb.cell (p := ⟨w.heap.size, 14, none⟩) hg).trans d14⟩
  have HW := Lib.hid (H.out.later HBW.out)
  have H2W := Lib.hid (H2.out.below HBW.out)
  have H3W := Lib.hid (H3.out.below HBW.out)
  have HSQ : Hid (∀ W', Below W.heap.size W W' → Calls Try.prog 63 #[.pointer (some ⟨S.D, 0, none⟩)] W' fun e w' => e = .returned (.int .i64 s.seq) ∧ W' = w') := fun W' hb => sequence_any (HW.out.later hb)
  have HBK : Hid (∀ W', Below W.heap.size W W' → Calls Try.prog 64 #[.pointer (some ⟨S.D, 0, none⟩)] W' fun e w' => e = .returned (.bool s.broken) ∧ W' = w') := fun W' hb => broken_any (HW.out.later hb)
  have HSA : Hid (∀ W', Below W.heap.size W W' → Calls Try.prog 62 #[.pointer (some ⟨S.D, 0, none⟩)] W' fun e w' => ∃ A' c', e = .returned (.slice A' N c') ∧ Rd w' w'.heap.size A' (icells s.saved) ∧ Below W.heap.size W w') := by
    intro W' hb'
    refine (saved_any (HW.out.later hb') HO.out).mono ?_
    rintro e w' ⟨v', rfl, ho, hb⟩
    rw [HN.out] at ho
    obtain ⟨A', c', rfl, _, _, hr⟩ := own_read ho
    exact ⟨A', c', rfl, hr, hb'.trans (hb.mono hb'.size)⟩
  have HIN : Hid (∀ W' A' c', Below W.heap.size W W' → Rd W' W'.heap.size A' (icells s.saved) → Calls Try.prog 51 #[.slice A' N c', .slice Q3 N c3] W' fun e w' => e = .returned (.bool true) ∧ ∃ k, W'.drewN k = w') := by
    intro W' A' c' hb hr
    have h := ints_any A' Q3 N N c' c3 s.saved s.saved W' hr (H3W.out.below hb).rd (by rw [HSL.out]; exact HN.out) (by rw [HSL.out]; exact HN.out) hnm hnm
    rw [decide_eq_true rfl] at h
    exact h
  have k0 := HKS.out W.drew (Below.drew (Below.refl _ _))
  try rw [hW]
  clear hW d3 d4 d5 d14
  go_cut [28] (fun v wx => v = .bool false ∧ Below W.heap.size W wx)
  case first =>
    go_region_held (fun W' => W'.cell? ⟨w.heap.size, 3, none⟩ = some (.slice Q2 N c2) ∧ W'.cell? ⟨w.heap.size, 4, none⟩ = some (.slice Q3 N c3) ∧ W'.cell? ⟨w.heap.size, 5, none⟩ = some (.int .i64 s.seq) ∧ W'.cell? ⟨w.heap.size, 14, none⟩ = some (.bool s.broken)) (first | exact k0 | exact k8 | exact HKS.out _ (Below.drewN hb8 _)) (first
      | (go_at_call 63; with_reducible refine (HSQ.out _ (Below.drew (Below.refl _ _))).mono ?_; rintro e w5 ⟨rfl, rfl⟩)
      | (go_at_call 64; with_reducible refine (HBK.out _ (Below.drew (Below.refl _ _))).mono ?_; rintro e w5 ⟨rfl, rfl⟩)
      | (go_at_call 62; with_reducible refine (HSA.out _ (Below.drew (Below.refl _ _))).mono ?_; rintro e w8 ⟨A8, c8, rfl, hr8, hb8⟩; have k8 := HKS.out w8 hb8)
      | (go_at_call 51; with_reducible refine (HIN.out _ _ _ hb8 hr8).mono ?_; rintro e w9 ⟨rfl, q9, rfl⟩))
    all_goals
      (try go_wp2_with fail)
      go_meet
      exact ⟨rfl, Below.drewN hb8 _⟩
  case rest =>
    obtain ⟨rfl, hb8⟩ := hcut
    have HB8 := Lib.hid hb8
    have k8 := (HKS.out _ hb8).1
    clear k0 hb8
    go_wp2
    go_loopw [32] (fun i wr => ∃ t : Nat, t ≤ N ∧ i = .int .i64 t ∧ Below wc.heap.size wc wr) (fun i _ => N - (intOf i).toNat)
    case atStart => exact ⟨0, Nat.zero_le _, rfl, Below.refl _ _⟩
    case round =>
      obtain ⟨t, ht, rfl, hbt⟩ := hrel
      have HBT : Hid (Below W.heap.size W wr) := HB8.out.trans (hbt.mono HB8.out.size)
      have HBC := Lib.hid hbt
      clear hbt
      by_cases hltt : t < N
      · obtain ⟨x, hx⟩ := getElem?_of_lt (l := s.staged) (k := t) (by rw [HTL.out, HN.out]; exact hltt)
        obtain ⟨b9, o9, rfl, _, c0⟩ := (H2W.out.below HBT.out).rd.int hx
        have HG := Lib.hid (get_any (HW.out.later HBT.out) HO.out t)
        rw [getF_in (by rw [HN.out]; exact hltt) HTL.out hx] at HG
        simp only [errV_zero] at HG
        have hxx : (x != x) = false := by simp
        clear hx
        go_wp2_with (fail)
        (with_reducible refine HG.out.mono ?_)
        rintro e w9 ⟨rfl, rfl⟩
        go_wp2
        go_roundw
        case rel => exact ⟨t + 1, by omega, by go_num, HBC.out⟩
        case measure => simp [intOf]; omega
      · go_wp2
        go_ret
        exact ⟨rfl, HBW.out.trans (HBT.out.mono HBW.out.size)⟩
end Go.Proofs.Ytfeceamhlphelaa
