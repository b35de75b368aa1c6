/-
  Params: place.
-/
import Derived.Test.YtfeceamhlphelaaW41
namespace Go.Proofs.Ytfeceamhlphelaa
open Go.RowKit
set_option linter.unusedVariables false
set_option pp.deepTerms true

theorem free_some {s : St} {f : Fl} {k : Nat} (hk : k < slotsS s f) (h1 : s.slot < k) (h2 : blankN f (pageS s f s.block k) s.k = true) (h3 : ∀ j < k, s.slot < j → blankN f (pageS s f s.block j) s.k = false) : freeS s f = some k := by
  unfold freeS
  rw [List.find?_range_eq_some]
  refine ⟨?_, List.mem_range.2 hk, fun j hj => ?_⟩
  · rw [decide_eq_true h1, h2]; rfl
  · by_cases e : s.slot < j
    · rw [h3 j hj e, Bool.and_false]; rfl
    · rw [decide_eq_false e, Bool.false_and]; rfl
theorem free_none {s : St} {f : Fl} (h3 : ∀ j < slotsS s f, s.slot < j → blankN f (pageS s f s.block j) s.k = false) : freeS s f = none := by
  unfold freeS
  rw [List.find?_range_eq_none]
  intro j hj
  by_cases e : s.slot < j
  · rw [h3 j hj e, Bool.and_false]; rfl
  · rw [decide_eq_false e, Bool.false_and]; rfl

section
variable {w0 w : World} {L : Lc} {S : Sc} {f : Fl} {s : St}

theorem StAt.placed2 (h : StAt w0 w L S f s) (b j : Nat) :
    StAt w0 ((w.setCell ⟨S.D, 12, none⟩ (.int .i64 b)).setCell ⟨S.D, 13, none⟩ (.int .i64 j)) L S f { s with dest := b, toSlot := j } ∧ OnlyX (Own L S) w ((w.setCell ⟨S.D, 12, none⟩ (.int .i64 b)).setCell ⟨S.D, 13, none⟩ (.int .i64 j)) := by
  obtain ⟨a1, a2⟩ := h.cell 12 (.int .i64 b) S { s with dest := b } rfl rfl rfl rfl rfl (h.sl.like _ rfl rfl rfl rfl)
  obtain ⟨b1, b2⟩ := a1.cell 13 (.int .i64 j) S { s with dest := b, toSlot := j } rfl rfl rfl rfl rfl (a1.sl.like _ rfl rfl rfl rfl)
  exact ⟨b1, a2.trans b2⟩
theorem StAt.er (h : StAt w0 w L S f s) (e : Bool) :
    StAt w0 (w.setCell ⟨S.D, 15, none⟩ (.bool e)) L S f { s with erase := e } ∧ OnlyX (Own L S) w (w.setCell ⟨S.D, 15, none⟩ (.bool e)) :=
  h.cell 15 (.bool e) S { s with erase := e } rfl rfl rfl rfl rfl (h.sl.like _ rfl rfl rfl rfl)

/-- What place leaves. -/
def PlaceR (w0 w : World) (L : Lc) (S : Sc) (f : Fl) (s : St) (e : Ending) (w' : World) : Prop :=
  e = .returned (.tuple #[]) ∧ StAt w0 w' L S f (placeS s f) ∧ OnlyX (Own L S) w w'

theorem slots_le (ho : StOk f s) (h : f.ok) : slotsS s f ≤ 16 := by
  unfold slotsS
  exact Nat.le_trans (Nat.div_le_self _ _) h.p2

set_option maxRecDepth 100000 in
set_option maxHeartbeats 8000000 in
theorem place_any (h : StAt w0 w L S f s) (ho : StOk f s) (hd : f.down = false) :
    Calls Try.prog 101 #[.pointer (some ⟨S.D, 0, none⟩)] w (PlaceR w0 w L S f s) := by
  have c3 := h.row 3 _ rfl
  have c8 := h.row 8 _ rfl
  have s1 := ho.s1
  have s2 := ho.s2
  have hT := slots_le ho h.fl.ok
  have H := Lib.hid h
  have HO := Lib.hid ho
  have HD := Lib.hid hd
  have H88 := Lib.hid (fun w => pgs_any s.spec.length (by have := ho.n2; omega) w)
  obtain ⟨k0, hk0⟩ : ∃ k0 : Nat, s.slot + 1 = k0 := ⟨(s.slot + 1).toNat, by omega⟩
  have hk0' : s.slot = (k0 : Int) - 1 := by omega
  have HK0 := Lib.hid hk0'
  rw [hk0'] at c8 s2
  have hk16 : k0 ≤ 16 := by omega
  obtain ⟨T, hTT⟩ : ∃ T, slotsS s f = T := ⟨_, rfl⟩
  have HT := Lib.hid hTT
  rw [hTT] at s2 hT
  have HK : Hid (s.k = pgs s.spec.length) := rfl
  rw [← HK.out] at H88
  have hbl : s.block < s.blocks := ho.bl
  have hb16 := ho.b2
  have hk8 := ho.k8
  obtain ⟨K, hK⟩ : ∃ K, s.k = K := ⟨_, rfl⟩
  have HKK := Lib.hid hK
  rw [hK] at H88 hk8
  generalize hn : s.spec.length = n at *
  have HBL := Lib.hid hbl
  clear h ho hd hk0 hk0' s1 hn hTT hK HK
  go_enter Try.func101, Try.ntmps101
  go_wp2_with (fail)
  (with_reducible refine (H88.out w).mono ?_)
  rintro e w1 ⟨rfl, rfl⟩
  go_wp2
  go_loopw [3] (fun i wr => ∃ k : Nat, k0 ≤ k ∧ k ≤ T ∧ i = .int .i64 k ∧ (∀ j < k, s.slot < j → blankN f (pageS s f s.block j) s.k = false) ∧ Below w.heap.size w wr) (fun i _ => T - (intOf i).toNat)
  case atStart => exact ⟨k0, Nat.le_refl _, by omega, by go_num, fun j hj hs => by have := HK0.out; omega, Below.refl _ _⟩
  case round =>
    obtain ⟨k, hk1, hk, rfl, hf, hb⟩ := hrel
    have HF := Lib.hid hf
    have HB := Lib.hid hb
    have HS := Lib.hid (H.out.later hb)
    have HSL := Lib.hid (slots_any HS.out HO.out)
    rw [HT.out] at HSL
    clear hf hb
    by_cases hlt : k < T
    · go_wp2_with (fail)
      (with_reducible refine HSL.out.mono ?_)
      rintro e w2 ⟨rfl, q, rfl⟩
      have HB2 : Hid (Below w.heap.size w (wr.drewN q)) := HB.out.trans ((Below.drewN (Below.refl _ _) q).mono HB.out.size)
      have HS2 := Lib.hid (H.out.later HB2.out)
      generalize wr.drewN q = w2 at *
      have c7 := HS2.out.row 7 _ rfl
      have HPG := Lib.hid (spage_any HS2.out HO.out (s.block : Int) (k : Int) s.block k rfl rfl (by omega) (by omega))
      go_wp2_with (fail)
      (with_reducible refine HPG.out.mono ?_)
      rintro e w3 ⟨rfl, q2, rfl⟩
      have HB3 : Hid (Below w.heap.size w (w2.drewN q2)) := HB2.out.trans ((Below.drewN (Below.refl _ _) q2).mono HB2.out.size)
      have HS3 := Lib.hid (H.out.later HB3.out)
      clear c7
      generalize w2.drewN q2 = w3 at *
      have hin : pageS s f s.block k + K ≤ f.wear.length * f.pg := by
        rw [← HKK.out]
        exact HO.out.page_in HBL.out (by rw [HT.out]; exact hlt)
      have HBK := Lib.hid (blank_any HS3.out HD.out (pageS s f s.block k : Nat) (K : Int) (pageS s f s.block k) K rfl rfl hin)
      obtain ⟨pn, hpn⟩ : ∃ p, pageS s f s.block k = p := ⟨_, rfl⟩
      have HPN := Lib.hid hpn
      rw [hpn] at HBK
      rw [hpn]
      clear hin hpn
      by_cases hbk : blankN f pn K = true
      · have HR : Hid (placeS s f = { s with dest := s.block, toSlot := k, erase := false }) := by
          have : freeS s f = some k := free_some (by rw [HT.out]; exact hlt) (by have := HK0.out; omega) (by rw [HPN.out, HKK.out]; exact hbk) HF.out
          unfold placeS
          rw [Hid, this]
        rw [hbk] at HBK
        clear hbk
        go_wp2_with (fail)
        (with_reducible refine HBK.out.mono ?_)
        rintro e w4 ⟨rfl, hb4⟩
        have HB4 : Hid (Below w.heap.size w w4) := HB3.out.trans (hb4.mono HB3.out.size)
        have HS4 := Lib.hid (H.out.later HB4.out)
        clear hb4
        have c7 := HS4.out.row 7 _ rfl
        have c12 := HS4.out.row 12 _ rfl
        have c13 := HS4.out.row 13 _ rfl
        have c15 := HS4.out.row 15 _ rfl
        have z12 := HS4.out.fz 12
        have z13 := HS4.out.fz 13
        have z15 := HS4.out.fz 15
        go_wp2
        first
          | go_end0
          | ((try simp only [Exit.inBlock, Exit.then]); refine bodyPost_ret (results_none rfl _ _ _) rfl ?_)
        unfold PlaceR
        rw [HR.out]
        obtain ⟨a1, a2⟩ := HS4.out.placed2 s.block k
        obtain ⟨b1, b2⟩ := a1.er false
        exact ⟨rfl, b1, ((OnlyX.of_below HB4.out).trans a2).trans b2⟩
      · have hbk' : blankN f pn K = false := by simpa using hbk
        have HN : Hid (∀ j < k + 1, s.slot < j → blankN f (pageS s f s.block j) s.k = false) := fun j hj hs => by
          by_cases e : j = k
          · subst e
            rw [HPN.out, HKK.out]
            exact hbk'
          · exact HF.out j (by omega) hs
        rw [hbk'] at HBK
        clear hbk hbk'
        go_wp2_with (fail)
        (with_reducible refine HBK.out.mono ?_)
        rintro e w4 ⟨rfl, hb4⟩
        have HB4 : Hid (Below w.heap.size w w4) := HB3.out.trans (hb4.mono HB3.out.size)
        clear hb4
        go_wp2
        go_roundw
        case rel => exact ⟨k + 1, by omega, by omega, by go_num, HN.out, HB4.out⟩
        case measure => simp [intOf]; omega
    · have hkn : k = T := by omega
      subst hkn
      have HFN : Hid (freeS s f = none) := free_none (by rw [HT.out]; exact HF.out)
      go_wp2_with (fail)
      (with_reducible refine HSL.out.mono ?_)
      rintro e w2 ⟨rfl, q, rfl⟩
      have HB2 : Hid (Below w.heap.size w (wr.drewN q)) := HB.out.trans ((Below.drewN (Below.refl _ _) q).mono HB.out.size)
      have HS2 := Lib.hid (H.out.later HB2.out)
      generalize wr.drewN q = w2 at *
      have c7 := HS2.out.row 7 _ rfl
      have c2 := HS2.out.row 2 _ rfl
      have c12 := HS2.out.row 12 _ rfl
      have c13 := HS2.out.row 13 _ rfl
      have z12 := HS2.out.fz 12
      have z13 := HS2.out.fz 13
      have hb2 := HO.out.b1
      obtain ⟨nb, hnb⟩ : ∃ nb, (s.block + 1) % s.blocks = nb := ⟨_, rfl⟩
      have HNB := Lib.hid hnb
      have HNL : Hid (nb < s.blocks) := by rw [Hid, ← hnb]; exact Nat.mod_lt _ (by omega)
      have hnb16 : nb < 16 := by have := HNL.out; omega
      have t1 : IntKind.i64.wrap ((s.block : Int) + 1) = (s.block : Int) + 1 := IntWalk.i64_in _ (by omega)
      have t2 : ((s.block : Int) + 1).tmod (s.blocks : Int) = (nb : Int) := by
        rw [Int.tmod_eq_emod_of_nonneg (by omega), ← hnb]
        push_cast
        rfl
      have t3 : ((s.block : Int) + 1) % (s.blocks : Int) = (nb : Int) := by
        rw [← hnb]
        push_cast
        rfl
      have t4 : ((s.blocks : Int) == 0) = false := by simp; omega
      clear hnb
      go_wp2
      have t5 : (1 : Int) ≤ (s.blocks : Int) := by omega
      have t6 : (0 : Int) ≤ (s.block : Int) + 1 := by omega
      go_region
      obtain ⟨W, hW⟩ : ∃ W, ((w2.setCell ⟨S.D, 12, none⟩ (.int .i64 nb)).setCell ⟨S.D, 13, none⟩ (.int .i64 0)).drew = W := ⟨_, rfl⟩
      rw [hW]
      have HSW : Hid (StAt w0 W L S f { s with dest := nb, toSlot := 0 } ∧ OnlyX (Own L S) w W) := by
        obtain ⟨a1, a2⟩ := HS2.out.placed2 nb 0
        have hb := Below.drew (Below.refl ((w2.setCell ⟨S.D, 12, none⟩ (.int .i64 nb)).setCell ⟨S.D, 13, none⟩ (.int .i64 (0 : Nat))).heap.size ((w2.setCell ⟨S.D, 12, none⟩ (.int .i64 nb)).setCell ⟨S.D, 13, none⟩ (.int .i64 (0 : Nat))))
        rw [← hW]
        exact ⟨a1.later hb, ((OnlyX.of_below HB2.out).trans a2).trans (OnlyX.of_below hb)⟩
      clear c2 c3 c7 c8 c12 c13 z12 z13 t1 t2 t3 t4 t5 t6 hW
      have HO1 : Hid (StOk f { s with dest := nb, toSlot := 0 }) :=
        ⟨HO.out.n1, HO.out.n2, HO.out.sp, HO.out.b1, HO.out.b2, HO.out.fb, HO.out.kp, HO.out.sl, HO.out.tl, HO.out.vl, HO.out.si, HO.out.ti, HO.out.vi, HO.out.q1, HO.out.q2, HO.out.bl, HO.out.s1, HO.out.s2, HO.out.pl, HO.out.pb, HNL.out, HO.out.sl1, HO.out.dn, HO.out.dk, HO.out.qb⟩
      have c12 := HSW.out.1.row 12 _ rfl
      have c15 := HSW.out.1.row 15 _ rfl
      have c0 := HSW.out.1.row 0 _ rfl
      have z15 := HSW.out.1.fz 15
      have HPG : Hid (∀ W', Below W.heap.size W W' → Calls Try.prog 102 #[.pointer (some ⟨S.D, 0, none⟩), .int .i64 (nb : Int), .int .i64 0] W' fun e w' => e = .returned (.int .i64 (pageS s f nb 0 : Nat)) ∧ ∃ q, w' = W'.drewN q) :=
        fun W' hb => spage_any (HSW.out.1.later hb) HO1.out (nb : Int) 0 nb 0 rfl rfl (by omega) (by omega)
      have HP43 : Hid (∀ W', Below W.heap.size W W' → Calls Try.prog 43 #[.pointer (some ⟨L.d, 0, none⟩)] W' fun e w' => e = .returned (.int .i64 (f.pg : Nat)) ∧ W' = w') :=
        fun W' hb => pages_any (HSW.out.1.fl.later hb)
      have hin : pageS s f nb 0 + f.pg ≤ f.wear.length * f.pg := HO.out.block_in HNL.out
      have HBK : Hid (∀ W', Below W.heap.size W W' → Calls Try.prog 110 #[.pointer (some ⟨S.D, 0, none⟩), .int .i64 (pageS s f nb 0 : Nat), .int .i64 (f.pg : Nat)] W' fun e w' => e = .returned (.bool (blankN f (pageS s f nb 0) f.pg)) ∧ Below W'.heap.size W' w') :=
        fun W' hb => blank_any (HSW.out.1.later hb) HD.out (pageS s f nb 0 : Nat) (f.pg : Nat) (pageS s f nb 0) f.pg rfl rfl hin
      have HR : Hid (placeS s f = { s with dest := nb, toSlot := 0, erase := !blankN f (pageS s f nb 0) f.pg }) := by
        unfold placeS
        rw [Hid, HFN.out, HNB.out]
      clear hin
      generalize pageS s f nb 0 = pn at *
      generalize f.pg = pg at *
      generalize blankN f pn pg = bk at *
      have HKS : Hid (∀ W', Below W.heap.size W W' → W'.cell? ⟨S.D, 12, none⟩ = some (.int .i64 nb) ∧ W'.cell? ⟨S.D, 0, none⟩ = some (.pointer (some ⟨L.d, 0, none⟩))) :=
        fun W' hb => ⟨(HSW.out.1.later hb).row 12 _ rfl, (HSW.out.1.later hb).row 0 _ rfl⟩
      have HKC : Hid (∀ W', Below W.heap.size W W' → W'.cell? ⟨S.D, 15, none⟩ = some (.bool s.erase) ∧ W'.frozen? ⟨S.D, 15, none⟩ = false) :=
        fun W' hb => ⟨(HSW.out.1.later hb).row 15 _ rfl, (HSW.out.1.later hb).fz 15⟩
      have HKT : Hid (∀ W' v, Below W.heap.size W W' → (W'.setCell ⟨S.D, 15, none⟩ v).drew.cell? ⟨S.D, 12, none⟩ = some (.int .i64 nb) ∧ (W'.setCell ⟨S.D, 15, none⟩ v).drew.cell? ⟨S.D, 0, none⟩ = some (.pointer (some ⟨L.d, 0, none⟩))) :=
        fun W' v hb => ⟨(World.cell?_setCell_other _ _ _ _ (by simp)).trans (HKS.out W' hb).1, (World.cell?_setCell_other _ _ _ _ (by simp)).trans (HKS.out W' hb).2⟩
      clear c15 z15
      go_wp2_with (fail)
      go_region_held3 (fun w' => w'.cell? ⟨S.D, 12, none⟩ = some (.int .i64 nb) ∧ w'.cell? ⟨S.D, 0, none⟩ = some (.pointer (some ⟨L.d, 0, none⟩))) (first | go_keep | exact HKS.out _ hB9 | exact HKT.out _ _ hB9) (first
        | (go_at_call 102; refine (HPG.out _ (by repeat (first | exact Below.refl _ _ | refine Below.drew ?_ | refine Below.drewN ?_ _))).mono ?_; rintro e wp ⟨rfl, q1, rfl⟩)
        | (go_at_call 43; refine (HP43.out _ (by repeat (first | exact Below.refl _ _ | refine Below.drew ?_ | refine Below.drewN ?_ _))).mono ?_; rintro e wp ⟨rfl, rfl⟩)
        | (go_at_call 110; refine (HBK.out _ (by repeat (first | exact Below.refl _ _ | refine Below.drew ?_ | refine Below.drewN ?_ _))).mono ?_; rintro e wb ⟨rfl, hb⟩; have hB9 := (Below.drewN (Below.refl W.heap.size W) _).trans hb; obtain ⟨c15b, z15b⟩ := HKC.out _ hB9))
      all_goals
        go_end0
        unfold PlaceR
        rw [HR.out]
        obtain ⟨b1, b2⟩ := (HSW.out.1.later hB9).er (!bk)
        exact ⟨rfl, b1, (HSW.out.2.trans (OnlyX.of_below hB9)).trans b2⟩
end
end Go.Proofs.Ytfeceamhlphelaa
