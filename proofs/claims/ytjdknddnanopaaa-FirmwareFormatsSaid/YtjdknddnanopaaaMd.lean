
/-
  Several texts in one: W42, W43, W44, W45, W46.
-/
import Derived.Test.YtjdknddnanopaaaMc
/-
  Params: place.
-/
namespace Go.Proofs.Ytjdknddnanopaaa
open Go.RowKit
set_option linter.unusedVariables false

theorem free_some {s : St} {f : Fl} {k : Nat} (hk : k < slotsS s f) (h1 : s.slot < k) (h2 : blankN f (pageS s f s.block k) s.k = true) (h3 : ∀ j < k, s.slot < j → blankN f (pageS s f s.block j) s.k = false) : freeS s f = some k := by
  unfold freeS
  rw [List.find?_range_eq_some]
  refine ⟨?_, List.mem_range.2 hk, fun j hj => ?_⟩
  · rw [decide_eq_true h1, h2]; rfl
  · by_cases e : s.slot < j
    · rw [h3 j hj e, Bool.and_false]; rfl
    · rw [decide_eq_false e, Bool.false_and]; rfl
theorem free_none {s : St} {f : Fl} (h3 : ∀ j < slotsS s f, s.slot < j → blankN f (pageS s f s.block j) s.k = false) : freeS s f = none := by
  unfold freeS
  rw [List.find?_range_eq_none]
  intro j hj
  by_cases e : s.slot < j
  · rw [h3 j hj e, Bool.and_false]; rfl
  · rw [decide_eq_false e, Bool.false_and]; rfl

section
variable {w0 w : World} {L : Lc} {S : Sc} {f : Fl} {s : St}

theorem StAt.placed2 (h : StAt w0 w L S f s) (b j : Nat) :
    StAt w0 ((w.setCell ⟨S.D, 12, none⟩ (.int .i64 b)).setCell ⟨S.D, 13, none⟩ (.int .i64 j)) L S f { s with dest := b, toSlot := j } ∧ OnlyX (Own5 L S) w ((w.setCell ⟨S.D, 12, none⟩ (.int .i64 b)).setCell ⟨S.D, 13, none⟩ (.int .i64 j)) := by
  obtain ⟨a1, a2⟩ := h.cell 12 (.int .i64 b) S { s with dest := b } rfl rfl rfl rfl rfl (h.sl.like _ rfl rfl rfl rfl)
  obtain ⟨b1, b2⟩ := a1.cell 13 (.int .i64 j) S { s with dest := b, toSlot := j } rfl rfl rfl rfl rfl (a1.sl.like _ rfl rfl rfl rfl)
  exact ⟨b1, a2.trans b2⟩
theorem StAt.er (h : StAt w0 w L S f s) (e : Bool) :
    StAt w0 (w.setCell ⟨S.D, 15, none⟩ (.bool e)) L S f { s with erase := e } ∧ OnlyX (Own5 L S) w (w.setCell ⟨S.D, 15, none⟩ (.bool e)) :=
  h.cell 15 (.bool e) S { s with erase := e } rfl rfl rfl rfl rfl (h.sl.like _ rfl rfl rfl rfl)

/-- What place leaves. -/
def PlaceR (w0 w : World) (L : Lc) (S : Sc) (f : Fl) (s : St) (e : Ending) (w' : World) : Prop :=
  e = .returned (.tuple #[]) ∧ StAt w0 w' L S f (placeS s f) ∧ OnlyX (Own5 L S) w w'

theorem slots_le (ho : StOk f s) (h : f.ok) : slotsS s f ≤ 16 := by
  unfold slotsS
  exact Nat.le_trans (Nat.div_le_self _ _) h.p2

set_option maxRecDepth 100000 in
set_option maxHeartbeats 8000000 in
theorem place_any (h : StAt w0 w L S f s) (ho : StOk f s) (hd : f.down = false) :
    Calls Try.prog 132 #[.pointer (some ⟨S.D, 0, none⟩)] w (PlaceR w0 w L S f s) := by
  have c3 := h.row 3 _ rfl
  have c8 := h.row 8 _ rfl
  have s1 := ho.s1
  have s2 := ho.s2
  have hT := slots_le ho h.fl.ok
  have H := Lib.hid h
  have HO := Lib.hid ho
  have HD := Lib.hid hd
  have H88 := Lib.hid (fun w => pgs_any s.spec.length (by have := ho.n2; omega) w)
  obtain ⟨k0, hk0⟩ : ∃ k0 : Nat, s.slot + 1 = k0 := ⟨(s.slot + 1).toNat, by omega⟩
  have hk0' : s.slot = (k0 : Int) - 1 := by omega
  have HK0 := Lib.hid hk0'
  rw [hk0'] at c8 s2
  have hk16 : k0 ≤ 16 := by omega
  obtain ⟨T, hTT⟩ : ∃ T, slotsS s f = T := ⟨_, rfl⟩
  have HT := Lib.hid hTT
  rw [hTT] at s2 hT
  have HK : Hid (s.k = pgs s.spec.length) := rfl
  rw [← HK.out] at H88
  have hbl : s.block < s.blocks := ho.bl
  have hb16 := ho.b2
  have hk8 := ho.k8
  obtain ⟨K, hK⟩ : ∃ K, s.k = K := ⟨_, rfl⟩
  have HKK := Lib.hid hK
  rw [hK] at H88 hk8
  generalize hn : s.spec.length = n at *
  have HBL := Lib.hid hbl
  clear h ho hd hk0 hk0' s1 hn hTT hK HK
  go_enter Try.func132, Try.ntmps132
  go_wp2_with (fail)
  (with_reducible refine (H88.out w).mono ?_)
  rintro e w1 ⟨rfl, rfl⟩
  go_wp2
  go_loopw [3] (fun i wr => ∃ k : Nat, k0 ≤ k ∧ k ≤ T ∧ i = .int .i64 k ∧ (∀ j < k, s.slot < j → blankN f (pageS s f s.block j) s.k = false) ∧ Below w.heap.size w wr) (fun i _ => T - (intOf i).toNat)
  case atStart => exact ⟨k0, Nat.le_refl _, by omega, by go_num, fun j hj hs => by have := HK0.out; omega, Below.refl _ _⟩
  case round =>
    obtain ⟨k, hk1, hk, rfl, hf, hb⟩ := hrel
    have HF := Lib.hid hf
    have HB := Lib.hid hb
    have HS := Lib.hid (H.out.later hb)
    have HSL := Lib.hid (slots_any HS.out HO.out)
    rw [HT.out] at HSL
    clear hf hb
    by_cases hlt : k < T
    · go_wp2_with (fail)
      (with_reducible refine HSL.out.mono ?_)
      rintro e w2 ⟨rfl, q, rfl⟩
      have HB2 : Hid (Below w.heap.size w (wr.drewN q)) := HB.out.trans ((Below.drewN (Below.refl _ _) q).mono HB.out.size)
      have HS2 := Lib.hid (H.out.later HB2.out)
      generalize wr.drewN q = w2 at *
      have c7 := HS2.out.row 7 _ rfl
      have HPG := Lib.hid (spage_any HS2.out HO.out (s.block : Int) (k : Int) s.block k rfl rfl (by omega) (by omega))
      go_wp2_with (fail)
      (with_reducible refine HPG.out.mono ?_)
      rintro e w3 ⟨rfl, q2, rfl⟩
      have HB3 : Hid (Below w.heap.size w (w2.drewN q2)) := HB2.out.trans ((Below.drewN (Below.refl _ _) q2).mono HB2.out.size)
      have HS3 := Lib.hid (H.out.later HB3.out)
      clear c7
      generalize w2.drewN q2 = w3 at *
      have hin : pageS s f s.block k + K ≤ f.wear.length * f.pg := by
        rw [← HKK.out]
        exact HO.out.page_in HBL.out (by rw [HT.out]; exact hlt)
      have HBK := Lib.hid (blank_any HS3.out HD.out (pageS s f s.block k : Nat) (K : Int) (pageS s f s.block k) K rfl rfl hin)
      obtain ⟨pn, hpn⟩ : ∃ p, pageS s f s.block k = p := ⟨_, rfl⟩
      have HPN := Lib.hid hpn
      rw [hpn] at HBK
      rw [hpn]
      clear hin hpn
      by_cases hbk : blankN f pn K = true
      · have HR : Hid (placeS s f = { s with dest := s.block, toSlot := k, erase := false }) := by
          have : freeS s f = some k := free_some (by rw [HT.out]; exact hlt) (by have := HK0.out; omega) (by rw [HPN.out, HKK.out]; exact hbk) HF.out
          unfold placeS
          rw [Hid, this]
        rw [hbk] at HBK
        clear hbk
        go_wp2_with (fail)
        (with_reducible refine HBK.out.mono ?_)
        rintro e w4 ⟨rfl, hb4⟩
        have HB4 : Hid (Below w.heap.size w w4) := HB3.out.trans (hb4.mono HB3.out.size)
        have HS4 := Lib.hid (H.out.later HB4.out)
        clear hb4
        have c7 := HS4.out.row 7 _ rfl
        have c12 := HS4.out.row 12 _ rfl
        have c13 := HS4.out.row 13 _ rfl
        have c15 := HS4.out.row 15 _ rfl
        have z12 := HS4.out.fz 12
        have z13 := HS4.out.fz 13
        have z15 := HS4.out.fz 15
        go_wp2
        first
          | go_end0
          | ((try simp only [Exit.inBlock, Exit.then]); refine bodyPost_ret (results_none rfl _ _ _) rfl ?_)
        unfold PlaceR
        rw [HR.out]
        obtain ⟨a1, a2⟩ := HS4.out.placed2 s.block k
        obtain ⟨b1, b2⟩ := a1.er false
        exact ⟨rfl, b1, ((OnlyX.of_below HB4.out).trans a2).trans b2⟩
      · have hbk' : blankN f pn K = false := by simpa using hbk
        have HN : Hid (∀ j < k + 1, s.slot < j → blankN f (pageS s f s.block j) s.k = false) := fun j hj hs => by
          by_cases e : j = k
          · subst e
            rw [HPN.out, HKK.out]
            exact hbk'
          · exact HF.out j (by omega) hs
        rw [hbk'] at HBK
        clear hbk hbk'
        go_wp2_with (fail)
        (with_reducible refine HBK.out.mono ?_)
        rintro e w4 ⟨rfl, hb4⟩
        have HB4 : Hid (Below w.heap.size w w4) := HB3.out.trans (hb4.mono HB3.out.size)
        clear hb4
        go_wp2
        go_roundw
        case rel => exact ⟨k + 1, by omega, by omega, by go_num, HN.out, HB4.out⟩
        case measure => simp [intOf]; omega
    · have hkn : k = T := by omega
      subst hkn
      have HFN : Hid (freeS s f = none) := free_none (by rw [HT.out]; exact HF.out)
      go_wp2_with (fail)
      (with_reducible refine HSL.out.mono ?_)
      rintro e w2 ⟨rfl, q, rfl⟩
      have HB2 : Hid (Below w.heap.size w (wr.drewN q)) := HB.out.trans ((Below.drewN (Below.refl _ _) q).mono HB.out.size)
      have HS2 := Lib.hid (H.out.later HB2.out)
      generalize wr.drewN q = w2 at *
      have c7 := HS2.out.row 7 _ rfl
      have c2 := HS2.out.row 2 _ rfl
      have c12 := HS2.out.row 12 _ rfl
      have c13 := HS2.out.row 13 _ rfl
      have z12 := HS2.out.fz 12
      have z13 := HS2.out.fz 13
      have hb2 := HO.out.b1
      obtain ⟨nb, hnb⟩ : ∃ nb, (s.block + 1) % s.blocks = nb := ⟨_, rfl⟩
      have HNB := Lib.hid hnb
      have HNL : Hid (nb < s.blocks) := by rw [Hid, ← hnb]; exact Nat.mod_lt _ (by omega)
      have hnb16 : nb < 16 := by have := HNL.out; omega
      have t1 : IntKind.i64.wrap ((s.block : Int) + 1) = (s.block : Int) + 1 := IntWalk.i64_in _ (by omega)
      have t2 : ((s.block : Int) + 1).tmod (s.blocks : Int) = (nb : Int) := by
        rw [Int.tmod_eq_emod_of_nonneg (by omega), ← hnb]
        push_cast
        rfl
      have t3 : ((s.block : Int) + 1) % (s.blocks : Int) = (nb : Int) := by
        rw [← hnb]
        push_cast
        rfl
      have t4 : ((s.blocks : Int) == 0) = false := by simp; omega
      clear hnb
      go_wp2
      have t5 : (1 : Int) ≤ (s.blocks : Int) := by omega
      have t6 : (0 : Int) ≤ (s.block : Int) + 1 := by omega
      go_region
      obtain ⟨W, hW⟩ : ∃ W, ((w2.setCell ⟨S.D, 12, none⟩ (.int .i64 nb)).setCell ⟨S.D, 13, none⟩ (.int .i64 0)).drew = W := ⟨_, rfl⟩
      rw [hW]
      have HSW : Hid (StAt w0 W L S f { s with dest := nb, toSlot := 0 } ∧ OnlyX (Own5 L S) w W) := by
        obtain ⟨a1, a2⟩ := HS2.out.placed2 nb 0
        have hb := Below.drew (Below.refl ((w2.setCell ⟨S.D, 12, none⟩ (.int .i64 nb)).setCell ⟨S.D, 13, none⟩ (.int .i64 (0 : Nat))).heap.size ((w2.setCell ⟨S.D, 12, none⟩ (.int .i64 nb)).setCell ⟨S.D, 13, none⟩ (.int .i64 (0 : Nat))))
        rw [← hW]
        exact ⟨a1.later hb, ((OnlyX.of_below HB2.out).trans a2).trans (OnlyX.of_below hb)⟩
      clear c2 c3 c7 c8 c12 c13 z12 z13 t1 t2 t3 t4 t5 t6 hW
      have HO1 : Hid (StOk f { s with dest := nb, toSlot := 0 }) :=
        ⟨HO.out.n1, HO.out.n2, HO.out.sp, HO.out.b1, HO.out.b2, HO.out.fb, HO.out.kp, HO.out.sl, HO.out.tl, HO.out.vl, HO.out.si, HO.out.ti, HO.out.vi, HO.out.q1, HO.out.q2, HO.out.bl, HO.out.s1, HO.out.s2, HO.out.pl, HO.out.pb, HNL.out, HO.out.sl1, HO.out.dn, HO.out.dk, HO.out.qb⟩
      have c12 := HSW.out.1.row 12 _ rfl
      have c15 := HSW.out.1.row 15 _ rfl
      have c0 := HSW.out.1.row 0 _ rfl
      have z15 := HSW.out.1.fz 15
      have HPG : Hid (∀ W', Below W.heap.size W W' → Calls Try.prog 116 #[.pointer (some ⟨S.D, 0, none⟩), .int .i64 (nb : Int), .int .i64 0] W' fun e w' => e = .returned (.int .i64 (pageS s f nb 0 : Nat)) ∧ ∃ q, w' = W'.drewN q) :=
        fun W' hb => spage_any (HSW.out.1.later hb) HO1.out (nb : Int) 0 nb 0 rfl rfl (by omega) (by omega)
      have HP43 : Hid (∀ W', Below W.heap.size W W' → Calls Try.prog 64 #[.pointer (some ⟨L.d, 0, none⟩)] W' fun e w' => e = .returned (.int .i64 (f.pg : Nat)) ∧ W' = w') :=
        fun W' hb => pages_any (HSW.out.1.fl.later hb)
      have hin : pageS s f nb 0 + f.pg ≤ f.wear.length * f.pg := HO.out.block_in HNL.out
      have HBK : Hid (∀ W', Below W.heap.size W W' → Calls Try.prog 138 #[.pointer (some ⟨S.D, 0, none⟩), .int .i64 (pageS s f nb 0 : Nat), .int .i64 (f.pg : Nat)] W' fun e w' => e = .returned (.bool (blankN f (pageS s f nb 0) f.pg)) ∧ Below W'.heap.size W' w') :=
        fun W' hb => blank_any (HSW.out.1.later hb) HD.out (pageS s f nb 0 : Nat) (f.pg : Nat) (pageS s f nb 0) f.pg rfl rfl hin
      have HR : Hid (placeS s f = { s with dest := nb, toSlot := 0, erase := !blankN f (pageS s f nb 0) f.pg }) := by
        unfold placeS
        rw [Hid, HFN.out, HNB.out]
      clear hin
      generalize pageS s f nb 0 = pn at *
      generalize f.pg = pg at *
      generalize blankN f pn pg = bk at *
      have HKS : Hid (∀ W', Below W.heap.size W W' → W'.cell? ⟨S.D, 12, none⟩ = some (.int .i64 nb) ∧ W'.cell? ⟨S.D, 0, none⟩ = some (.pointer (some ⟨L.d, 0, none⟩))) :=
        fun W' hb => ⟨(HSW.out.1.later hb).row 12 _ rfl, (HSW.out.1.later hb).row 0 _ rfl⟩
      have HKC : Hid (∀ W', Below W.heap.size W W' → W'.cell? ⟨S.D, 15, none⟩ = some (.bool s.erase) ∧ W'.frozen? ⟨S.D, 15, none⟩ = false) :=
        fun W' hb => ⟨(HSW.out.1.later hb).row 15 _ rfl, (HSW.out.1.later hb).fz 15⟩
      have HKT : Hid (∀ W' v, Below W.heap.size W W' → (W'.setCell ⟨S.D, 15, none⟩ v).drew.cell? ⟨S.D, 12, none⟩ = some (.int .i64 nb) ∧ (W'.setCell ⟨S.D, 15, none⟩ v).drew.cell? ⟨S.D, 0, none⟩ = some (.pointer (some ⟨L.d, 0, none⟩))) :=
        fun W' v hb => ⟨(World.cell?_setCell_other _ _ _ _ (by simp)).trans (HKS.out W' hb).1, (World.cell?_setCell_other _ _ _ _ (by simp)).trans (HKS.out W' hb).2⟩
      clear c15 z15
      go_wp2_with (fail)
      go_region_held3 (fun w' => w'.cell? ⟨S.D, 12, none⟩ = some (.int .i64 nb) ∧ w'.cell? ⟨S.D, 0, none⟩ = some (.pointer (some ⟨L.d, 0, none⟩))) (first | go_keep | exact HKS.out _ hB9 | exact HKT.out _ _ hB9) (first
        | (go_at_call 116; refine (HPG.out _ (by repeat (first | exact Below.refl _ _ | refine Below.drew ?_ | refine Below.drewN ?_ _))).mono ?_; rintro e wp ⟨rfl, q1, rfl⟩)
        | (go_at_call 64; refine (HP43.out _ (by repeat (first | exact Below.refl _ _ | refine Below.drew ?_ | refine Below.drewN ?_ _))).mono ?_; rintro e wp ⟨rfl, rfl⟩)
        | (go_at_call 138; refine (HBK.out _ (by repeat (first | exact Below.refl _ _ | refine Below.drew ?_ | refine Below.drewN ?_ _))).mono ?_; rintro e wb ⟨rfl, hb⟩; have hB9 := (Below.drewN (Below.refl W.heap.size W) _).trans hb; obtain ⟨c15b, z15b⟩ := HKC.out _ hB9))
      all_goals
        go_end0
        unfold PlaceR
        rw [HR.out]
        obtain ⟨b1, b2⟩ := (HSW.out.1.later hB9).er (!bk)
        exact ⟨rfl, b1, (HSW.out.2.trans (OnlyX.of_below hB9)).trans b2⟩
end
end Go.Proofs.Ytjdknddnanopaaa

/-
  Params: Begin.
-/
namespace Go.Proofs.Ytjdknddnanopaaa
open Go.RowKit
set_option linter.unusedVariables false

section
variable {w0 w : World} {L : Lc} {S : Sc} {f : Fl} {s : St}

theorem StAt.own_lt (h : StAt w0 w L S f s) : ∀ b, Own L S b → b < w.heap.size := by
  intro b hb
  have h1 := h.fl.ld
  have h2 := h.fl.bi.2
  have h3 := h.fl.bw.2
  have h4 := h.dl
  have h5 := h.gl.2
  have h6 := h.fl.eb b
  rcases hb with (e | e | e | e | e) | e
  · omega
  · omega
  · omega
  · omega
  · omega
  · exact h6 e
theorem Own5.same {S' : Sc} (h1 : S'.D = S.D) (h2 : S'.G = S.G) : Own5 L S' = Own5 L S := by
  funext b
  unfold Own5
  rw [h1, h2]
theorem Own.same {S' : Sc} (h1 : S'.D = S.D) (h2 : S'.G = S.G) : Own L S' = Own L S := by
  funext b
  unfold Own
  rw [Own5.same h1 h2]

theorem placeS_staged (s : St) (f : Fl) : (placeS s f).staged = s.staged := by unfold placeS; split <;> rfl
/-- What Begin leaves. -/
def BeginR (w0 w : World) (L : Lc) (S : Sc) (f : Fl) (s : St) (e : Ending) (w' : World) : Prop :=
  e = .returned (errV (beginE s f)) ∧ (∃ S', S'.D = S.D ∧ S'.G = S.G ∧ StAt w0 w' L S' f (beginS s f)) ∧ OnlyX (Own5 L S) w w'

theorem StAt.br (h : StAt w0 w L S f s) (b : Bool) :
    StAt w0 (w.setCell ⟨S.D, 9, none⟩ (.bool b)) L S f { s with broken := b } ∧ OnlyX (Own5 L S) w (w.setCell ⟨S.D, 9, none⟩ (.bool b)) :=
  h.cell 9 (.bool b) S { s with broken := b } rfl rfl rfl rfl rfl (h.sl.like _ rfl rfl rfl rfl)

/-- The record to be written is laid. -/
theorem StAt.laid (h : StAt w0 w L S f s) (A : Option Addr) (c : Nat) (ps : List (List Int)) (B : Option Addr) (d : Nat) (vs : List Int) (hA : RdP (Own L S) w A ps) (hc : ps.length ≤ c) (hcm : c ≤ maxLen) (hB : RdX (Own L S) w B (icells vs)) (hd : vs.length ≤ d) (hdm : d ≤ maxLen) :
    StAt w0 ((((w.setCell ⟨S.D, 10, none⟩ (.slice A ps.length c)).setCell ⟨S.D, 11, none⟩ (.slice B vs.length d)).setCell ⟨S.D, 14, none⟩ (.int .i64 0)).setCell ⟨S.D, 16, none⟩ (.bool true)) L { S with Ap := A, cp := c, Au := B, cu := d } f { s with pages := ps, values := vs, done := 0, busy := true } ∧
    OnlyX (Own5 L S) w ((((w.setCell ⟨S.D, 10, none⟩ (.slice A ps.length c)).setCell ⟨S.D, 11, none⟩ (.slice B vs.length d)).setCell ⟨S.D, 14, none⟩ (.int .i64 0)).setCell ⟨S.D, 16, none⟩ (.bool true)) := by
  obtain ⟨a1, a2⟩ := h.cell 10 (.slice A ps.length c) { S with Ap := A, cp := c } { s with pages := ps } rfl rfl rfl rfl rfl
    ⟨h.sl.sp, h.sl.sp1, h.sl.sp2, h.sl.sv, h.sl.sv1, h.sl.sv2, hA, hc, hcm, h.sl.vv, h.sl.vv1, h.sl.vv2⟩
  obtain ⟨b1, b2⟩ := a1.cell 11 (.slice B vs.length d) { S with Ap := A, cp := c, Au := B, cu := d } { s with pages := ps, values := vs } rfl rfl rfl rfl rfl
    ⟨a1.sl.sp, a1.sl.sp1, a1.sl.sp2, a1.sl.sv, a1.sl.sv1, a1.sl.sv2, a1.sl.pp, a1.sl.pp1, a1.sl.pp2, hB.onlyX a2, hd, hdm⟩
  obtain ⟨c1, c2⟩ := b1.cell 14 (.int .i64 0) { S with Ap := A, cp := c, Au := B, cu := d } { s with pages := ps, values := vs, done := 0 } rfl rfl rfl rfl rfl (b1.sl.like _ rfl rfl rfl rfl)
  obtain ⟨d1, d2⟩ := c1.cell 16 (.bool true) { S with Ap := A, cp := c, Au := B, cu := d } { s with pages := ps, values := vs, done := 0, busy := true } rfl rfl rfl rfl rfl (c1.sl.like _ rfl rfl rfl rfl)
  exact ⟨d1, ((a2.trans b2).trans c2).trans d2⟩

theorem begin_no {w' : World} {k : Int} (hE : beginE s f = k) (hk : k ≠ 0) (hs : StAt w0 w' L S f (brkS s f)) (ho : OnlyX (Own5 L S) w w') : BeginR w0 w L S f s (.returned (.iface 77 (.int .i64 k))) w' := by
  unfold BeginR beginS
  rw [hE, if_neg hk, errV_ne hk]
  exact ⟨rfl, ⟨S, rfl, rfl, hs⟩, ho⟩

set_option maxRecDepth 100000 in
set_option maxHeartbeats 8000000 in
theorem begin_any (h : StAt w0 w L S f s) (ho : StOk f s) :
    Calls Try.prog 110 #[.pointer (some ⟨S.D, 0, none⟩)] w (BeginR w0 w L S f s) := by
  have h1 := eqq_some S.D
  have g1 := ne_nil
  have g2 := ne_err
  have c0 := h.row 0 _ rfl
  have c9 := h.row 9 _ rfl
  have z9 := h.fz 9
  have H := Lib.hid h
  have HO := Lib.hid ho
  have HDN := Lib.hid (fun (w' : World) (hb : Below w.heap.size w w') => down_any (h.fl.later hb))
  have HDN0 := Lib.hid (down_any h.fl)
  by_cases hbr : (s.broken || f.down) = true
  · have HE : Hid (beginE s f = 20) := by unfold beginE; rw [Hid, if_pos hbr]
    have HST := Lib.hid (h.br true)
    have HBK : Hid (brkS s f = { s with broken := true }) := by unfold brkS; rw [Hid, hbr]
    by_cases hb : s.broken = true
    · rw [hb] at c9
      clear h ho hbr hb
      go_enter Try.func110, Try.ntmps110
      go_wp2
      go_ret
      exact begin_no HE.out (by omega) (by rw [HBK.out]; exact HST.out.1) HST.out.2
    · have hb' : s.broken = false := by simpa using hb
      have hd : f.down = true := by rw [hb'] at hbr; simpa using hbr
      rw [hb'] at c9
      rw [hd] at HDN0
      clear h ho hbr hb hb' hd
      go_enter Try.func110, Try.ntmps110
      go_wp2_with (fail)
      (with_reducible refine HDN0.out.mono ?_)
      rintro e w1 ⟨rfl, rfl⟩
      go_wp2
      go_ret
      exact begin_no HE.out (by omega) (by rw [HBK.out]; exact HST.out.1) HST.out.2
  have hbr2 : s.broken = false ∧ f.down = false := by simpa using hbr
  obtain ⟨hb, hd⟩ := hbr2
  rw [hb] at c9
  rw [hd] at HDN0
  have HBK : Hid (brkS s f = { s with broken := false }) := by unfold brkS; rw [Hid, hb, hd]; rfl
  obtain ⟨W, hW⟩ : ∃ W, w.setCell ⟨S.D, 9, none⟩ (.bool false) = W := ⟨_, rfl⟩
  have HST : Hid (StAt w0 W L S f (brkS s f) ∧ OnlyX (Own5 L S) w W) := by
    rw [HBK.out, ← hW]
    exact h.br false
  have HOB := Lib.hid (brkS_ok (f := f) ho)
  have HD := Lib.hid hd
  have HB := Lib.hid hb
  have d9 : W.cell? ⟨S.D, 9, none⟩ = some (.bool false) := by have := HST.out.1.row 9 _ rfl; rw [HBK.out] at this; exact this
  have d16 : W.cell? ⟨S.D, 16, none⟩ = some (.bool s.busy) := HST.out.1.row 16 _ rfl
  clear ho hbr hb hd
  by_cases hbu : s.busy = true
  · have HE : Hid (beginE s f = 14) := by unfold beginE; rw [Hid, HB.out, HD.out, if_neg (by decide), if_pos hbu]
    rw [hbu] at d16
    clear h hbu
    go_enter Try.func110, Try.ntmps110
    go_wp2_with (fail)
    (with_reducible refine HDN0.out.mono ?_)
    rintro e w1 ⟨rfl, rfl⟩
    go_wp2
    go_ret
    exact begin_no HE.out (by omega) HST.out.1 HST.out.2
  have hbu' : s.busy = false := by simpa using hbu
  have HBU := Lib.hid hbu'
  rw [hbu'] at d16
  have d5 : W.cell? ⟨S.D, 5, none⟩ = some (.slice (some ⟨S.G, 0, none⟩) s.staged.length S.cg) := HST.out.1.row 5 _ rfl
  have d4 : W.cell? ⟨S.D, 4, none⟩ = some (.slice S.Av s.saved.length S.cv) := HST.out.1.row 4 _ rfl
  have d6 : W.cell? ⟨S.D, 6, none⟩ = some (.int .i64 s.seq) := HST.out.1.row 6 _ rfl
  have hn2 := HO.out.n2
  have hn1 := HO.out.n1
  have H100 : Hid (∀ q, Calls Try.prog 131 #[.slice (some ⟨S.G, 0, none⟩) s.staged.length S.cg, .slice S.Av s.saved.length S.cv] (W.drewN q) fun e w' => e = .returned (.bool (decide (s.staged = s.saved))) ∧ ∃ k, w' = (W.drewN q).drewN k) := by
    intro q
    have hb := Below.drewN (Below.refl W.heap.size W) q
    have hs := HST.out.1.later hb
    exact equal3_any _ _ _ _ _ _ s.staged s.saved (W.drewN q) (own_rd hs.sg) hs.sl.sv.rd rfl rfl (by unfold maxLen; rw [HO.out.tl]; omega) (by unfold maxLen; rw [HO.out.sl]; omega)
  have htl := HO.out.tl
  have hsl := HO.out.sl
  rw [htl] at d5 H100
  rw [hsl] at d4 H100
  generalize hn : s.spec.length = n at *
  have HTL := Lib.hid htl
  clear h hbu hbu' htl hsl hn
  by_cases heq : s.staged = s.saved
  · have HE : Hid (beginE s f = 12) := by unfold beginE; rw [Hid, HB.out, HD.out, if_neg (by decide), HBU.out, if_neg (by decide), if_pos heq]
    rw [decide_eq_true heq] at H100
    clear heq
    go_enter Try.func110, Try.ntmps110
    go_wp2_with (fail)
    (with_reducible refine HDN0.out.mono ?_)
    rintro e w1 ⟨rfl, rfl⟩
    go_wp2
    go_quiet ((go_at_call 131; with_reducible exact Calls.quiet_of (H100.out _)))
    go_wp2
    go_ret
    exact begin_no HE.out (by omega) (HST.out.1.later (Below.drewN (Below.refl _ _) _)) (HST.out.2.trans (OnlyX.of_below (Below.drewN (Below.refl _ _) _)))
  rw [decide_eq_false heq] at H100
  have hE : beginE s f = encE (s.seq + 1) n := by unfold beginE; rw [HB.out, HD.out, if_neg (by decide), HBU.out, if_neg (by decide), if_neg heq, HTL.out]
  have hq1 := HO.out.q1
  have hq2 := HO.out.q2
  have tq : IntKind.i64.wrap (s.seq + 1) = s.seq + 1 := IntWalk.i64_in _ (by omega)
  have HLT : Hid (∀ b, Own L S b → b < W.heap.size) := HST.out.1.own_lt
  by_cases he : encE (s.seq + 1) n = 0
  · have HE : Hid (beginE s f = 0) := by rw [Hid, hE]; exact he
    have H52 : Hid (∀ W', Below W.heap.size W W' → Calls Try.prog 125 #[.int .i64 (s.seq + 1), .slice (some ⟨S.G, 0, none⟩) n S.cg] W' fun e w' => ∃ A' c', e = .returned (.tuple #[.slice A' (pgs n) c', .nilIface]) ∧ pgs n ≤ c' ∧ c' ≤ maxLen ∧ RdP (Own L S) w' A' (encP (s.seq + 1) s.staged) ∧ Below W'.heap.size W' w') := by
      intro W' hb
      have hs := HST.out.1.later hb
      have hg := hs.cg
      rw [show (brkS s f).staged = s.staged from rfl, HTL.out] at hg
      exact enc_yes (Own L S) (s.seq + 1) _ n S.cg s.staged W' hs.own_lt (own_rd hs.sg) HTL.out hg.1 hg.2 HO.out.ti he
    clear heq hE he
    go_enter Try.func110, Try.ntmps110
    go_wp2_with (fail)
    (with_reducible refine HDN0.out.mono ?_)
    rintro e w1 ⟨rfl, rfl⟩
    go_wp2
    go_quiet ((go_at_call 131; with_reducible exact Calls.quiet_of (H100.out _)))
    have HKS : Hid (∀ W', Below W.heap.size W W' → W'.cell? ⟨S.D, 6, none⟩ = some (.int .i64 s.seq) ∧ W'.cell? ⟨S.D, 5, none⟩ = some (.slice (some ⟨S.G, 0, none⟩) n S.cg)) :=
      fun W' hb => ⟨(HST.out.1.later hb).row 6 _ rfl, by have := (HST.out.1.later hb).row 5 _ rfl; rw [show (brkS s f).staged = s.staged from rfl, HTL.out] at this; exact this⟩
    have HPL : Hid (∀ W', Below W.heap.size W W' → Calls Try.prog 132 #[.pointer (some ⟨S.D, 0, none⟩)] W' (PlaceR w0 W' L S f (brkS s f))) :=
      fun W' hb => place_any (HST.out.1.later hb) HOB.out HD.out
    go_wp2_with (fail)
    go_region_held3 (fun w' => w'.cell? ⟨S.D, 6, none⟩ = some (.int .i64 s.seq) ∧ w'.cell? ⟨S.D, 5, none⟩ = some (.slice (some ⟨S.G, 0, none⟩) n S.cg)) (first | go_keep | exact HKS.out _ hB9) (first
      | (go_at_call 125; refine (H52.out _ (by repeat (first | exact Below.refl _ _ | refine Below.drew ?_ | refine Below.drewN ?_ _))).mono ?_; rintro e wb ⟨A', c', rfl, hpc, hcm, hrp, hb⟩; have hB9 := (Below.drewN (Below.refl W.heap.size W) _).trans hb))
    have HPC := Lib.hid hpc
    have HCM := Lib.hid hcm
    have HRP := Lib.hid hrp
    have HB9 := Lib.hid hB9
    clear hpc hcm hrp hb hB9 tq
    go_wp2_with (fail)
    (with_reducible refine (HPL.out _ (by repeat (first | exact HB9.out | refine Below.drew ?_ | refine Below.drewN ?_ _))).mono ?_)
    rintro e w6 ⟨rfl, hs6, ho6⟩
    have HS6 := Lib.hid hs6
    have HO6 : Hid (OnlyX (Own5 L S) w w6) := (HST.out.2.trans (OnlyX.of_below (by repeat (first | exact HB9.out | refine Below.drew ?_ | refine Below.drewN ?_ _)))).trans ho6
    have HR6 : Hid (RdP (Own L S) w6 A' (encP (s.seq + 1) s.staged)) :=
      HRP.out.onlyX ((OnlyX.of_below (by repeat (first | exact Below.refl _ _ | refine Below.drew ?_ | refine Below.drewN ?_ _))).trans ho6)
    have hst : (placeS (brkS s f) f).staged = s.staged := by rw [placeS_staged]; rfl
    have d5' := HS6.out.row 5 _ rfl
    rw [hst, HTL.out] at d5'
    have HCL : Hid (Calls Try.prog 76 #[.slice (some ⟨S.G, 0, none⟩) n S.cg] w6 fun e w' => ∃ v', e = .returned v' ∧ w'.ownsRow w6.heap.size 3 1 v' n (icells s.staged) ∧ Below w6.heap.size w6 w') := by
      have hg := HS6.out.sg
      rw [hst, HTL.out] at hg
      exact clone3_any _ n S.cg w6.heap.size s.staged w6 (own_rd hg) (Nat.le_refl _) HTL.out (by omega)
    clear hs6 ho6 hst HRP d4 d5 d6 d9 d16
    go_wp2_with (fail)
    (with_reducible refine HCL.out.mono ?_)
    rintro e w7 ⟨v', rfl, ho7, hb7⟩
    obtain ⟨B, d, rfl, h71, h72, hr7⟩ := own_read ho7
    have HS7 := Lib.hid (HS6.out.later hb7)
    have HRV : Hid (RdX (Own L S) w7 B (icells s.staged)) := RdX.new HS6.out.own_lt (Nat.le_refl _) (by rw [icells_length, HTL.out]) ho7
    have HLAID := Lib.hid (HS7.out.laid A' c' (encP (s.seq + 1) s.staged) B d s.staged (HR6.out.onlyX (OnlyX.of_below hb7)) (by rw [encP_length, HTL.out]; exact HPC.out) HCM.out HRV.out (by rw [HTL.out]; exact h71) h72)
    rw [encP_length, HTL.out] at HLAID
    have HO7 : Hid (OnlyX (Own5 L S) w w7) := HO6.out.trans (OnlyX.of_below hb7)
    have e10 := HS7.out.row 10 _ rfl
    have e11 := HS7.out.row 11 _ rfl
    have e14 := HS7.out.row 14 _ rfl
    have e16 := HS7.out.row 16 _ rfl
    have z10 := HS7.out.fz 10
    have z11 := HS7.out.fz 11
    have z14 := HS7.out.fz 14
    have z16 := HS7.out.fz 16
    clear ho7 hb7 hr7 h71 h72 d5'
    go_wp2
    go_ret
    unfold BeginR beginS
    rw [HE.out, if_pos rfl]
    exact ⟨rfl, ⟨{ S with Ap := A', cp := c', Au := B, cu := d }, rfl, rfl, HLAID.out.1⟩, HO7.out.trans HLAID.out.2⟩
  · have HE : Hid (beginE s f = 3) := by
      rw [Hid, hE]
      unfold encE at he ⊢
      split
      · rfl
      · rename_i h; rw [if_neg h] at he; exact absurd rfl he
    have H52 : Hid (∀ W', Calls Try.prog 125 #[.int .i64 (s.seq + 1), .slice (some ⟨S.G, 0, none⟩) n S.cg] W' fun e w' => e = .returned (.tuple #[.slice none 0 0, .iface 77 (.int .i64 3)]) ∧ W' = w') :=
      fun W' => enc_no (s.seq + 1) _ n S.cg W' (by omega) he
    clear heq hE he
    go_enter Try.func110, Try.ntmps110
    go_wp2_with (fail)
    (with_reducible refine HDN0.out.mono ?_)
    rintro e w1 ⟨rfl, rfl⟩
    go_wp2
    go_quiet ((go_at_call 131; with_reducible exact Calls.quiet_of (H100.out _)))
    go_wp2_with (fail)
    go_region_held3 (fun w' => w'.cell? ⟨S.D, 6, none⟩ = some (.int .i64 s.seq) ∧ w'.cell? ⟨S.D, 5, none⟩ = some (.slice (some ⟨S.G, 0, none⟩) n S.cg)) (go_keep) (first
      | (go_at_call 125; refine (H52.out _).mono ?_; rintro e wb ⟨rfl, rfl⟩))
    go_wp2
    go_ret
    exact begin_no HE.out (by omega) (HST.out.1.later (by repeat (first | exact Below.refl _ _ | refine Below.drew ?_ | refine Below.drewN ?_ _))) (HST.out.2.trans (OnlyX.of_below (by repeat (first | exact Below.refl _ _ | refine Below.drew ?_ | refine Below.drewN ?_ _))))
end
end Go.Proofs.Ytjdknddnanopaaa

/-
  Params: Step.
-/
namespace Go.Proofs.Ytjdknddnanopaaa
open Go.RowKit
set_option linter.unusedVariables false

theorem eraseF_picks (f : Fl) (b : Int) : (eraseF f b).1.picks = f.picks := by
  unfold eraseF
  split
  · rfl
  split
  · rfl
  split
  · exact (cutF_same f).2.2.2
  · exact (cutF_same f).2.2.2
theorem progF_picks (f : Fl) (p : Int) (b : List Int) : (progF f p b).1.picks = f.picks := by
  unfold progF
  split
  · rfl
  split
  · rfl
  split
  · rfl
  split
  · exact (cutF_same f).2.2.2
  · exact (cutF_same f).2.2.2
theorem opS_picks (s : St) (f : Fl) : (opS s f).1.picks = f.picks := by
  unfold opS
  split
  · exact eraseF_picks _ _
  · exact progF_picks _ _ _

section
variable {w0 w : World} {L : Lc} {S : Sc} {f : Fl} {s : St}

/-- What Step leaves. -/
def StepR (w0 w : World) (L : Lc) (S : Sc) (q : St × Fl × Bool × Int) (e : Ending) (w' : World) : Prop :=
  e = .returned (.tuple #[.bool q.2.2.1, errV q.2.2.2]) ∧ (∃ S', S'.D = S.D ∧ S'.G = S.G ∧ StAt w0 w' L S' q.2.1 q.1) ∧ OnlyX (Own5 L S) w w'

theorem stepS_fail {k : Int} (hb : s.broken = false) (hu : s.busy = true) (h : (opS s f).2 ≠ 0) : stepS s f = ({ tickS s with broken := true }, (opS s f).1, false, 20) := by
  unfold stepS
  rw [if_neg (by rw [hb]; decide), if_neg (by rw [hu]; decide), if_pos h]
theorem stepS_more (hb : s.broken = false) (hu : s.busy = true) (h : (opS s f).2 = 0) (hl : (tickS s).done < (tickS s).pages.length) : stepS s f = (tickS s, (opS s f).1, false, 0) := by
  unfold stepS
  rw [if_neg (by rw [hb]; decide), if_neg (by rw [hu]; decide), if_neg (by rw [h]; decide), if_pos hl]
theorem stepS_last (hb : s.broken = false) (hu : s.busy = true) (h : (opS s f).2 = 0) (hl : ¬ (tickS s).done < (tickS s).pages.length) : stepS s f = (endS (tickS s), (opS s f).1, true, 0) := by
  unfold stepS
  rw [if_neg (by rw [hb]; decide), if_neg (by rw [hu]; decide), if_neg (by rw [h]; decide), if_neg hl]

set_option maxRecDepth 100000 in
set_option maxHeartbeats 8000000 in
theorem step_erase (h : StAt w0 w L S f s) (ho : StOk f s) (hb : s.broken = false) (hu : s.busy = true) (he : s.erase = true) :
    Calls Try.prog 84 #[.pointer (some ⟨S.D, 0, none⟩)] w (StepR w0 w L S (stepS s f)) := by
  have h1 := eqq_some S.D
  have g1 := ne_nil
  have g2 := ne_err
  have c0 := h.row 0 _ rfl
  have c1 := h.row 1 _ rfl
  have c9 := h.row 9 _ rfl
  have c12 := h.row 12 _ rfl
  have c15 := h.row 15 _ rfl
  have c16 := h.row 16 _ rfl
  rw [hb] at c9
  rw [hu] at c16
  rw [he] at c15
  have hw := h.fl.ok.b2
  have hfb := ho.fb
  have htb := ho.tb
  have hb16 := ho.b2
  have t0 : IntKind.i64.wrap ((s.first : Int) + (s.dest : Int)) = (s.first : Int) + (s.dest : Int) := IntWalk.i64_in _ (by omega)
  have HOP : Hid (opS s f = eraseF f ((s.first : Int) + (s.dest : Int))) := by unfold opS; rw [Hid, if_pos he]
  have HER : Hid (∀ W', Below w.heap.size w W' → Calls Try.prog 63 #[.pointer (some ⟨L.d, 0, none⟩), .int .i64 ((s.first : Int) + (s.dest : Int))] W' fun e w' => e = .returned (errV (opS s f).2) ∧ StAt w0 w' L S (opS s f).1 s ∧ OnlyX (Own5 L S) W' w') := by
    intro W' hbl
    rw [HOP.out]
    refine (erase_any (h.later hbl).fl ((s.first : Int) + (s.dest : Int))).mono ?_
    rintro e w' ⟨a, b, c⟩
    exact ⟨a, (h.later hbl).flash' b c (eraseF_picks _ _), .of_only c (Own5.fl L S)⟩
  have HTK : Hid (tickS s = { s with erase := false }) := by unfold tickS; rw [Hid, if_pos he]
  have hdn := ho.dn hu hb
  have hpl := ho.pl hu
  have HKS : Hid (∀ W', StAt w0 W' L S (opS s f).1 s → W'.cell? ⟨S.D, 0, none⟩ = some (.pointer (some ⟨L.d, 0, none⟩)) ∧ W'.cell? ⟨S.D, 1, none⟩ = some (.int .i64 s.first) ∧ W'.cell? ⟨S.D, 12, none⟩ = some (.int .i64 s.dest)) :=
    fun W' hs => ⟨hs.row 0 _ rfl, hs.row 1 _ rfl, hs.row 12 _ rfl⟩
  by_cases hc : (opS s f).2 = 0
  · have HR := Lib.hid (stepS_more hb hu hc (by rw [HTK.out]; simp only; omega))
    rw [hc, errV_zero] at HER
    obtain ⟨f', hf'⟩ : ∃ f', (opS s f).1 = f' := ⟨_, rfl⟩
    have HF' := Lib.hid hf'
    rw [hf'] at HER HKS HR
    clear h ho hb hu he hfb hw hc hf'
    go_enter Try.func84, Try.ntmps84
    go_wp2_with (fail)
    go_region_held3 (fun w' => w'.cell? ⟨S.D, 0, none⟩ = some (.pointer (some ⟨L.d, 0, none⟩)) ∧ w'.cell? ⟨S.D, 1, none⟩ = some (.int .i64 s.first) ∧ w'.cell? ⟨S.D, 12, none⟩ = some (.int .i64 s.dest)) (first | go_keep | exact HKS.out _ hs9) (first
      | (go_at_call 63; refine (HER.out _ (by repeat (first | exact Below.refl _ _ | refine Below.drew ?_ | refine Below.drewN ?_ _))).mono ?_; rintro e we ⟨rfl, hs9, ho9⟩))
    have HS9 := Lib.hid hs9
    have HO9 : Hid (OnlyX (Own5 L S) w we) := (OnlyX.of_below (by repeat (first | exact Below.refl _ _ | refine Below.drew ?_ | refine Below.drewN ?_ _))).trans ho9
    clear hs9 ho9
    have e15 := HS9.out.row 15 _ rfl
    have e14 := HS9.out.row 14 _ rfl
    have e10 := HS9.out.row 10 _ rfl
    have z15 := HS9.out.fz 15
    rw [hpl] at e10
    have HER2 := Lib.hid (HS9.out.er false)
    rw [← HTK.out] at HER2
    go_wp2
    go_quiet (fail)
    go_wp2
    go_ret2
    unfold StepR
    rw [HR.out]
    exact ⟨rfl, ⟨S, rfl, rfl, HER2.out.1.later (Below.drewN (Below.refl _ _) _)⟩, (HO9.out.trans HER2.out.2).trans (OnlyX.of_below (Below.drewN (Below.refl _ _) _))⟩
  · have HR := Lib.hid (stepS_fail (k := 0) hb hu hc)
    have HE := Lib.hid (errV_ne hc)
    rw [HE.out] at HER
    obtain ⟨f', hf'⟩ : ∃ f', (opS s f).1 = f' := ⟨_, rfl⟩
    have HF' := Lib.hid hf'
    rw [hf'] at HER HKS HR
    generalize (opS s f).2 = kk at *
    clear h ho hb hu he hfb hw hc hf'
    go_enter Try.func84, Try.ntmps84
    go_wp2_with (fail)
    go_region_held3 (fun w' => w'.cell? ⟨S.D, 0, none⟩ = some (.pointer (some ⟨L.d, 0, none⟩)) ∧ w'.cell? ⟨S.D, 1, none⟩ = some (.int .i64 s.first) ∧ w'.cell? ⟨S.D, 12, none⟩ = some (.int .i64 s.dest)) (first | go_keep | exact HKS.out _ hs9) (first
      | (go_at_call 63; refine (HER.out _ (by repeat (first | exact Below.refl _ _ | refine Below.drew ?_ | refine Below.drewN ?_ _))).mono ?_; rintro e we ⟨rfl, hs9, ho9⟩))
    have HS9 := Lib.hid hs9
    have HO9 : Hid (OnlyX (Own5 L S) w we) := (OnlyX.of_below (by repeat (first | exact Below.refl _ _ | refine Below.drew ?_ | refine Below.drewN ?_ _))).trans ho9
    clear hs9 ho9
    have e15 := HS9.out.row 15 _ rfl
    have e9 := HS9.out.row 9 _ rfl
    have z15 := HS9.out.fz 15
    have z9 := HS9.out.fz 9
    have HER2 := Lib.hid (HS9.out.er false)
    have HBR2 := Lib.hid (HER2.out.1.br true)
    go_wp2
    go_ret2
    unfold StepR
    rw [HR.out, HTK.out]
    exact ⟨rfl, ⟨S, rfl, rfl, HBR2.out.1⟩, (HO9.out.trans HER2.out.2).trans HBR2.out.2⟩
end
end Go.Proofs.Ytjdknddnanopaaa

/-
  Params: Step that programs a page; Step.
-/
namespace Go.Proofs.Ytjdknddnanopaaa
open Go.RowKit
set_option linter.unusedVariables false

section
variable {w0 w : World} {L : Lc} {S : Sc} {f : Fl} {s : St}

theorem StAt.dn (h : StAt w0 w L S f s) (k : Nat) :
    StAt w0 (w.setCell ⟨S.D, 14, none⟩ (.int .i64 k)) L S f { s with done := k } ∧ OnlyX (Own5 L S) w (w.setCell ⟨S.D, 14, none⟩ (.int .i64 k)) :=
  h.cell 14 (.int .i64 k) S { s with done := k } rfl rfl rfl rfl rfl (h.sl.like _ rfl rfl rfl rfl)
theorem StAt.sq (h : StAt w0 w L S f s) (k : Int) :
    StAt w0 (w.setCell ⟨S.D, 6, none⟩ (.int .i64 k)) L S f { s with seq := k } ∧ OnlyX (Own5 L S) w (w.setCell ⟨S.D, 6, none⟩ (.int .i64 k)) :=
  h.cell 6 (.int .i64 k) S { s with seq := k } rfl rfl rfl rfl rfl (h.sl.like _ rfl rfl rfl rfl)
theorem StAt.bs (h : StAt w0 w L S f s) (b : Nat) (j : Int) :
    StAt w0 ((w.setCell ⟨S.D, 7, none⟩ (.int .i64 b)).setCell ⟨S.D, 8, none⟩ (.int .i64 j)) L S f { s with block := b, slot := j } ∧ OnlyX (Own5 L S) w ((w.setCell ⟨S.D, 7, none⟩ (.int .i64 b)).setCell ⟨S.D, 8, none⟩ (.int .i64 j)) := by
  obtain ⟨a1, a2⟩ := h.cell 7 (.int .i64 b) S { s with block := b } rfl rfl rfl rfl rfl (h.sl.like _ rfl rfl rfl rfl)
  obtain ⟨b1, b2⟩ := a1.cell 8 (.int .i64 j) S { s with block := b, slot := j } rfl rfl rfl rfl rfl (a1.sl.like _ rfl rfl rfl rfl)
  exact ⟨b1, a2.trans b2⟩
theorem StAt.sv (h : StAt w0 w L S f s) :
    StAt w0 ((w.setCell ⟨S.D, 4, none⟩ (.slice S.Au s.values.length S.cu)).setCell ⟨S.D, 16, none⟩ (.bool false)) L { S with Av := S.Au, cv := S.cu } f { s with saved := s.values, busy := false } ∧
    OnlyX (Own5 L S) w ((w.setCell ⟨S.D, 4, none⟩ (.slice S.Au s.values.length S.cu)).setCell ⟨S.D, 16, none⟩ (.bool false)) := by
  obtain ⟨a1, a2⟩ := h.cell 4 (.slice S.Au s.values.length S.cu) { S with Av := S.Au, cv := S.cu } { s with saved := s.values } rfl rfl rfl rfl rfl
    ⟨h.sl.sp, h.sl.sp1, h.sl.sp2, h.sl.vv, h.sl.vv1, h.sl.vv2, h.sl.pp, h.sl.pp1, h.sl.pp2, h.sl.vv, h.sl.vv1, h.sl.vv2⟩
  obtain ⟨b1, b2⟩ := a1.cell 16 (.bool false) { S with Av := S.Au, cv := S.cu } { s with saved := s.values, busy := false } rfl rfl rfl rfl rfl (a1.sl.like _ rfl rfl rfl rfl)
  exact ⟨b1, a2.trans b2⟩

/-- What a page's programming needs. -/
theorem prog_ready (h : StAt w0 w L S f s) (ho : StOk f s) (hb : s.broken = false) (hu : s.busy = true) (he : s.erase = false) :
    ∃ b off Q c p, S.Ap = some ⟨b, off, none⟩ ∧ w.cell? ⟨b, off + s.done, none⟩ = some (.slice Q 64 c) ∧ (∀ W', StAt w0 W' L S (opS s f).1 s → OnlyX (Own5 L S) w W' → W'.cell? ⟨b, off + s.done, none⟩ = some (.slice Q 64 c)) ∧
    (opS s f = progF f ((pageS s f s.dest s.toSlot + s.done : Nat) : Int) p) ∧
    ∀ W', Below w.heap.size w W' → Calls Try.prog 65 #[.pointer (some ⟨L.d, 0, none⟩), .int .i64 ((pageS s f s.dest s.toSlot + s.done : Nat) : Int), .slice Q 64 c] W' fun e w' => e = .returned (errV (opS s f).2) ∧ StAt w0 w' L S (opS s f).1 s ∧ OnlyX (Own5 L S) W' w' := by
  have hd := ho.dn hu hb
  have hpl := ho.pl hu
  obtain ⟨p, hp⟩ := getElem?_of_lt (l := s.pages) (k := s.done) (by omega)
  obtain ⟨hl, hby⟩ := ho.pb p (List.mem_of_getElem? hp)
  obtain ⟨vs, e1, e2, e3⟩ := h.sl.pp
  obtain ⟨Q, m, c, d1, d2, d3, d4, d5⟩ := e3 s.done p hp
  rw [hl] at d2
  subst d2
  obtain ⟨b, off, ha, hlt, hX, hc⟩ := e1 (by intro e; rw [e] at d1; simp at d1)
  have hop : opS s f = progF f ((pageS s f s.dest s.toSlot + s.done : Nat) : Int) p := by
    unfold opS
    rw [if_neg (by rw [he]; decide), hp]
    rfl
  refine ⟨b, off, Q, c, p, ha, hc _ _ d1, fun W' hs hx => (cell_of_block (hx.block b hlt (fun h5 => hX (.inl h5)))).trans (hc _ _ d1), hop, fun W' hbl => ?_⟩
  have hs := h.later hbl
  rw [hop]
  refine (program_any hs.fl _ Q 64 c p ((d5.onlyX (.of_below hbl)).apart (Own.fl L S)) hl d3 d4 hby).mono ?_
  rintro e w' ⟨a, bb, cc⟩
  exact ⟨a, hs.flash' bb cc (progF_picks _ _ _), .of_only cc (Own5.fl L S)⟩

set_option maxRecDepth 100000 in
set_option maxHeartbeats 16000000 in
theorem step_prog (h : StAt w0 w L S f s) (ho : StOk f s) (hb : s.broken = false) (hu : s.busy = true) (he : s.erase = false) :
    Calls Try.prog 84 #[.pointer (some ⟨S.D, 0, none⟩)] w (StepR w0 w L S (stepS s f)) := by
  have h1 := eqq_some S.D
  have g1 := ne_nil
  have g2 := ne_err
  have c0 := h.row 0 _ rfl
  have c9 := h.row 9 _ rfl
  have c10 := h.row 10 _ rfl
  have c12 := h.row 12 _ rfl
  have c13 := h.row 13 _ rfl
  have c14 := h.row 14 _ rfl
  have c15 := h.row 15 _ rfl
  have c16 := h.row 16 _ rfl
  rw [hb] at c9
  rw [hu] at c16
  rw [he] at c15
  have hw := h.fl.ok.b2
  have hfb := ho.fb
  have htb := ho.tb
  have hb16 := ho.b2
  have hts := ho.ts
  have hsl := slots_le ho h.fl.ok
  have hdn := ho.dn hu hb
  have hk8 := ho.k8
  have hpl := ho.pl hu
  have hin := ho.page_in htb hts
  have hin2 := pages_1024 h.fl.ok
  obtain ⟨b, off, Q, c, p, hA, hcell, hkeep, hop, hcall⟩ := prog_ready h ho hb hu he
  rw [hA] at c10
  rw [hpl] at c10
  have HPG : Hid (∀ W', Below w.heap.size w W' → Calls Try.prog 116 #[.pointer (some ⟨S.D, 0, none⟩), .int .i64 (s.dest : Int), .int .i64 (s.toSlot : Int)] W' fun e w' => e = .returned (.int .i64 (pageS s f s.dest s.toSlot : Nat)) ∧ ∃ q, w' = W'.drewN q) :=
    fun W' hbl => spage_any (h.later hbl) ho (s.dest : Int) (s.toSlot : Int) s.dest s.toSlot rfl rfl (by omega) (by omega)
  have HPR := Lib.hid hcall
  have HKC := Lib.hid hkeep
  have HTK : Hid (tickS s = { s with done := s.done + 1 }) := by unfold tickS; rw [Hid, if_neg (by rw [he]; decide)]
  have hq1 := ho.q1
  have hq2 := ho.q2
  obtain ⟨pn, hpn⟩ : ∃ pn, pageS s f s.dest s.toSlot = pn := ⟨_, rfl⟩
  rw [hpn] at HPG HPR hin
  obtain ⟨d, hd⟩ : ∃ d, s.done = d := ⟨_, rfl⟩
  have HDD := Lib.hid hd
  rw [hd] at HPR HTK hdn c14 hcell HKC
  obtain ⟨K, hK⟩ : ∃ K, s.k = K := ⟨_, rfl⟩
  rw [hK] at hdn hk8 hpl hin c10
  have t0 : IntKind.i64.wrap ((pn : Int) + (d : Int)) = ((pn + d : Nat) : Int) := by
    rw [IntWalk.i64_in _ (by omega)]
    push_cast
    rfl
  have HHK := Lib.hid (show ∀ W', Below w.heap.size w W' → W'.cell? ⟨S.D, 0, none⟩ = some (.pointer (some ⟨L.d, 0, none⟩)) ∧ W'.cell? ⟨S.D, 12, none⟩ = some (.int .i64 s.dest) ∧ W'.cell? ⟨S.D, 13, none⟩ = some (.int .i64 s.toSlot) ∧ W'.cell? ⟨S.D, 14, none⟩ = some (.int .i64 d) ∧ W'.cell? ⟨S.D, 10, none⟩ = some (.slice (some ⟨b, off, none⟩) K S.cp) ∧ W'.cell? ⟨b, off + d, none⟩ = some (.slice Q 64 c) from
    fun W' hbl => by
      have hs := h.later hbl
      have e10 := hs.row 10 _ rfl
      have e14 := hs.row 14 _ rfl
      rw [hA, hpl] at e10
      rw [hd] at e14
      exact ⟨hs.row 0 _ rfl, hs.row 12 _ rfl, hs.row 13 _ rfl, e14, e10, (hbl.cell (p := ⟨b, off + d, none⟩) (World.block_lt_of_cell? w _ hcell)).trans hcell⟩)
  have HKS := Lib.hid (show ∀ W', StAt w0 W' L S (opS s f).1 s → OnlyX (Own5 L S) w W' → W'.cell? ⟨S.D, 0, none⟩ = some (.pointer (some ⟨L.d, 0, none⟩)) ∧ W'.cell? ⟨S.D, 12, none⟩ = some (.int .i64 s.dest) ∧ W'.cell? ⟨S.D, 13, none⟩ = some (.int .i64 s.toSlot) ∧ W'.cell? ⟨S.D, 14, none⟩ = some (.int .i64 d) ∧ W'.cell? ⟨S.D, 10, none⟩ = some (.slice (some ⟨b, off, none⟩) K S.cp) ∧ W'.cell? ⟨b, off + d, none⟩ = some (.slice Q 64 c) from
    fun W' hs hx => by
      have e10 := hs.row 10 _ rfl
      have e14 := hs.row 14 _ rfl
      rw [hA, hpl] at e10
      rw [hd] at e14
      exact ⟨hs.row 0 _ rfl, hs.row 12 _ rfl, hs.row 13 _ rfl, e14, e10, HKC.out W' hs hx⟩)
  have tk : (d : Int) < (K : Int) := by omega
  have tk0 : (0 : Int) ≤ (d : Int) := by omega
  have HAA := Lib.hid hA
  have HPL := Lib.hid hpl
  have HFAIL := Lib.hid (fun hc => stepS_fail (f := f) (s := s) (k := 0) hb hu hc)
  have HMORE := Lib.hid (stepS_more (f := f) (s := s) hb hu)
  have HLAST := Lib.hid (stepS_last (f := f) (s := s) hb hu)
  have HBEL : Hid (∀ W', Below w.heap.size w W' → OnlyX (Own5 L S) w W') := fun W' hbl => .of_below hbl
  clear h ho hb hu he hfb hw hop hcall hkeep hA hpl hpn hd hK hin2 hts hsl
  by_cases hc : (opS s f).2 = 0
  · rw [hc, errV_zero] at HPR
    by_cases hlast : d + 1 < K
    · have HR := Lib.hid (HMORE.out hc (by rw [HTK.out]; simp only; rw [HPL.out]; exact hlast))
      obtain ⟨f', hf'⟩ : ∃ f', (opS s f).1 = f' := ⟨_, rfl⟩
      rw [hf'] at HPR HKS HR
      clear hc hf' HMORE HLAST HFAIL
      go_enter Try.func84, Try.ntmps84
      go_wp2_with (fail)
      go_region_held3 (fun w' => w'.cell? ⟨S.D, 0, none⟩ = some (.pointer (some ⟨L.d, 0, none⟩)) ∧ w'.cell? ⟨S.D, 12, none⟩ = some (.int .i64 s.dest) ∧ w'.cell? ⟨S.D, 13, none⟩ = some (.int .i64 s.toSlot) ∧ w'.cell? ⟨S.D, 14, none⟩ = some (.int .i64 d) ∧ w'.cell? ⟨S.D, 10, none⟩ = some (.slice (some ⟨b, off, none⟩) K S.cp) ∧ w'.cell? ⟨b, off + d, none⟩ = some (.slice Q 64 c)) (first | go_keep | exact HKS.out _ hs9 hx9) (first
        | (go_at_call 116; refine (HPG.out _ (by repeat (first | exact Below.refl _ _ | refine Below.drew ?_ | refine Below.drewN ?_ _))).mono ?_; rintro e wp ⟨rfl, q1, rfl⟩)
        | (go_at_call 65; refine (HPR.out _ (by repeat (first | exact Below.refl _ _ | refine Below.drew ?_ | refine Below.drewN ?_ _))).mono ?_; rintro e we ⟨rfl, hs9, ho9⟩; have hx9 := (HBEL.out _ (Below.drewN (Below.refl w.heap.size w) _)).trans ho9))
      have HS9 := Lib.hid hs9
      have HX9 := Lib.hid hx9
      clear hs9 ho9 hx9
      have e14 := HS9.out.row 14 _ rfl
      have e10 := HS9.out.row 10 _ rfl
      have z14 := HS9.out.fz 14
      rw [HPL.out] at e10
      rw [HDD.out] at e14
      have HDN2 := Lib.hid (HS9.out.dn (d + 1))
      rw [← HTK.out] at HDN2
      go_wp2
      have tl : ((d : Int) + 1 < (K : Int)) := by omega
      go_quiet (fail)
      go_wp2
      go_ret2
      unfold StepR
      rw [HR.out]
      exact ⟨rfl, ⟨S, rfl, rfl, HDN2.out.1.later (Below.drewN (Below.refl _ _) _)⟩, (HX9.out.trans HDN2.out.2).trans (OnlyX.of_below (Below.drewN (Below.refl _ _) _))⟩
    · have HR := Lib.hid (HLAST.out hc (by rw [HTK.out]; simp only; rw [HPL.out]; exact hlast))
      obtain ⟨f', hf'⟩ : ∃ f', (opS s f).1 = f' := ⟨_, rfl⟩
      rw [hf'] at HPR HKS HR
      clear hc hf' HMORE HLAST HFAIL
      go_enter Try.func84, Try.ntmps84
      go_wp2_with (fail)
      go_region_held3 (fun w' => w'.cell? ⟨S.D, 0, none⟩ = some (.pointer (some ⟨L.d, 0, none⟩)) ∧ w'.cell? ⟨S.D, 12, none⟩ = some (.int .i64 s.dest) ∧ w'.cell? ⟨S.D, 13, none⟩ = some (.int .i64 s.toSlot) ∧ w'.cell? ⟨S.D, 14, none⟩ = some (.int .i64 d) ∧ w'.cell? ⟨S.D, 10, none⟩ = some (.slice (some ⟨b, off, none⟩) K S.cp) ∧ w'.cell? ⟨b, off + d, none⟩ = some (.slice Q 64 c)) (first | go_keep | exact HKS.out _ hs9 hx9) (first
        | (go_at_call 116; refine (HPG.out _ (by repeat (first | exact Below.refl _ _ | refine Below.drew ?_ | refine Below.drewN ?_ _))).mono ?_; rintro e wp ⟨rfl, q1, rfl⟩)
        | (go_at_call 65; refine (HPR.out _ (by repeat (first | exact Below.refl _ _ | refine Below.drew ?_ | refine Below.drewN ?_ _))).mono ?_; rintro e we ⟨rfl, hs9, ho9⟩; have hx9 := (HBEL.out _ (Below.drewN (Below.refl w.heap.size w) _)).trans ho9))
      have HS9 := Lib.hid hs9
      have HX9 := Lib.hid hx9
      clear hs9 ho9 hx9
      have e14 := HS9.out.row 14 _ rfl
      have e10 := HS9.out.row 10 _ rfl
      have z14 := HS9.out.fz 14
      rw [HPL.out] at e10
      rw [HDD.out] at e14
      have HDN2 := Lib.hid (HS9.out.dn (d + 1))
      rw [← HTK.out] at HDN2
      have hKd : K = d + 1 := by omega
      subst hKd
      go_wp2
      go_quiet (fail)
      have HDN3 : Hid (StAt w0 (we.setCell ⟨S.D, 14, none⟩ (.int .i64 ((d : Int) + 1))) L S f' (tickS s) ∧ OnlyX (Own5 L S) we (we.setCell ⟨S.D, 14, none⟩ (.int .i64 ((d : Int) + 1)))) := HDN2.out
      obtain ⟨W, hW⟩ : ∃ W, (we.setCell ⟨S.D, 14, none⟩ (.int .i64 ((d : Int) + 1))).drewN nq = W := ⟨_, rfl⟩
      have HW1 : Hid (StAt w0 W L S f' (tickS s) ∧ OnlyX (Own5 L S) w W) := by
        have hb8 := Below.drewN (Below.refl (we.setCell ⟨S.D, 14, none⟩ (.int .i64 ((d : Int) + 1))).heap.size (we.setCell ⟨S.D, 14, none⟩ (.int .i64 ((d : Int) + 1)))) nq
        rw [← hW]
        exact ⟨HDN3.out.1.later hb8, (HX9.out.trans HDN3.out.2).trans (.of_below hb8)⟩
      rw [hW]
      clear hW HDN2 HDN3 HX9 HS9 e10 e14 z14
      have hsq : (tickS s).seq = s.seq := by rw [HTK.out]
      have hsd : (tickS s).dest = s.dest := by rw [HTK.out]
      have hst : (tickS s).toSlot = s.toSlot := by rw [HTK.out]
      have e6 := HW1.out.1.row 6 _ rfl
      have z6 := HW1.out.1.fz 6
      rw [hsq] at e6
      have HW2 := Lib.hid (HW1.out.1.sq (s.seq + 1))
      obtain ⟨W2, hW2⟩ : ∃ W2, W.setCell ⟨S.D, 6, none⟩ (.int .i64 (s.seq + 1)) = W2 := ⟨_, rfl⟩
      rw [hW2] at HW2
      have e12 := HW2.out.1.row 12 _ rfl
      have e13 := HW2.out.1.row 13 _ rfl
      have e7 := HW2.out.1.row 7 _ rfl
      have e8 := HW2.out.1.row 8 _ rfl
      have z7 := HW2.out.1.fz 7
      have z8 := HW2.out.1.fz 8
      simp only [hsd, hst] at e12 e13
      clear hsq hsd hst
      go_wp2
      go_region
      obtain ⟨W3, hW3⟩ : ∃ W3, ((W2.setCell ⟨S.D, 7, none⟩ (.int .i64 s.dest)).setCell ⟨S.D, 8, none⟩ (.int .i64 s.toSlot)).drew = W3 := ⟨_, rfl⟩
      have HW3 : Hid (StAt w0 W3 L S f' { tickS s with seq := s.seq + 1, block := s.dest, slot := s.toSlot } ∧ OnlyX (Own5 L S) W2 W3) := by
        obtain ⟨a1, a2⟩ := HW2.out.1.bs s.dest (s.toSlot : Int)
        have hb8 := Below.drew (Below.refl ((W2.setCell ⟨S.D, 7, none⟩ (.int .i64 s.dest)).setCell ⟨S.D, 8, none⟩ (.int .i64 s.toSlot)).heap.size ((W2.setCell ⟨S.D, 7, none⟩ (.int .i64 s.dest)).setCell ⟨S.D, 8, none⟩ (.int .i64 s.toSlot)))
        rw [← hW3]
        exact ⟨a1.later hb8, a2.trans (.of_below hb8)⟩
      rw [hW3]
      clear hW2 hW3 e6 z6 e7 z7 e8 z8 e12 e13
      have e11 := HW3.out.1.row 11 _ rfl
      have e4 := HW3.out.1.row 4 _ rfl
      have e16 := HW3.out.1.row 16 _ rfl
      have z4 := HW3.out.1.fz 4
      have z16 := HW3.out.1.fz 16
      have HW4 := Lib.hid HW3.out.1.sv
      go_wp2
      go_ret2
      unfold StepR
      rw [HR.out]
      refine ⟨rfl, ⟨{ S with Av := S.Au, cv := S.cu }, rfl, rfl, ?_⟩, ((HW1.out.2.trans HW2.out.2).trans HW3.out.2).trans HW4.out.2⟩
      have := HW4.out.1
      unfold endS
      simp only [HTK.out] at this ⊢
      exact this
  · have HR := Lib.hid (HFAIL.out hc)
    have HE := Lib.hid (errV_ne hc)
    rw [HE.out] at HPR
    obtain ⟨f', hf'⟩ : ∃ f', (opS s f).1 = f' := ⟨_, rfl⟩
    rw [hf'] at HPR HKS HR
    generalize (opS s f).2 = kk at *
    clear hc hf' HMORE HLAST HFAIL
    go_enter Try.func84, Try.ntmps84
    go_wp2_with (fail)
    go_region_held3 (fun w' => w'.cell? ⟨S.D, 0, none⟩ = some (.pointer (some ⟨L.d, 0, none⟩)) ∧ w'.cell? ⟨S.D, 12, none⟩ = some (.int .i64 s.dest) ∧ w'.cell? ⟨S.D, 13, none⟩ = some (.int .i64 s.toSlot) ∧ w'.cell? ⟨S.D, 14, none⟩ = some (.int .i64 d) ∧ w'.cell? ⟨S.D, 10, none⟩ = some (.slice (some ⟨b, off, none⟩) K S.cp) ∧ w'.cell? ⟨b, off + d, none⟩ = some (.slice Q 64 c)) (first | go_keep | exact HKS.out _ hs9 hx9) (first
      | (go_at_call 116; refine (HPG.out _ (by repeat (first | exact Below.refl _ _ | refine Below.drew ?_ | refine Below.drewN ?_ _))).mono ?_; rintro e wp ⟨rfl, q1, rfl⟩)
      | (go_at_call 65; refine (HPR.out _ (by repeat (first | exact Below.refl _ _ | refine Below.drew ?_ | refine Below.drewN ?_ _))).mono ?_; rintro e we ⟨rfl, hs9, ho9⟩; have hx9 := (HBEL.out _ (Below.drewN (Below.refl w.heap.size w) _)).trans ho9))
    have HS9 := Lib.hid hs9
    have HX9 := Lib.hid hx9
    clear hs9 ho9 hx9
    have e14 := HS9.out.row 14 _ rfl
    have e10 := HS9.out.row 10 _ rfl
    have z14 := HS9.out.fz 14
    rw [HPL.out] at e10
    rw [HDD.out] at e14
    have HDN2 := Lib.hid (HS9.out.dn (d + 1))
    rw [← HTK.out] at HDN2
    have e9 := HS9.out.row 9 _ rfl
    have z9 := HS9.out.fz 9
    have HBR2 := Lib.hid (HDN2.out.1.br true)
    go_wp2
    go_ret2
    unfold StepR
    rw [HR.out]
    exact ⟨rfl, ⟨S, rfl, rfl, HBR2.out.1⟩, (HX9.out.trans HDN2.out.2).trans HBR2.out.2⟩
end
end Go.Proofs.Ytjdknddnanopaaa

/-
  Params: Step, Commit.
-/
namespace Go.Proofs.Ytjdknddnanopaaa
open Go.RowKit
set_option linter.unusedVariables false

theorem tickS_busy (s : St) : (tickS s).busy = s.busy ∧ (tickS s).broken = s.broken ∧ (tickS s).pages = s.pages := by unfold tickS; split <;> exact ⟨rfl, rfl, rfl⟩
theorem left_step {f : Fl} {s : St} (ho : StOk f s) (hb : s.broken = false) (hu : s.busy = true) (hd : (stepS s f).2.2.1 = false) (he : (stepS s f).2.2.2 = 0) :
    leftS (stepS s f).1 + 1 = leftS s ∧ (stepS s f).1.busy = true ∧ (stepS s f).1.broken = false := by
  unfold stepS at hd he ⊢
  rw [if_neg (by rw [hb]; decide), if_neg (by rw [hu]; decide)] at hd he ⊢
  by_cases h0 : (opS s f).2 ≠ 0
  · rw [if_pos h0] at he
    cases he
  rw [if_neg h0] at hd he ⊢
  by_cases hl : (tickS s).done < (tickS s).pages.length
  · rw [if_pos hl] at hd he ⊢
    obtain ⟨e1, e2, e3⟩ := tickS_busy s
    refine ⟨?_, by rw [e1]; exact hu, by rw [e2]; exact hb⟩
    have hdn := ho.dn hu hb
    have hpl := ho.pl hu
    unfold leftS tickS
    by_cases he : s.erase = true
    · rw [if_pos he, if_pos he]
      simp
    · rw [if_neg he, if_neg he]
      simp only
      omega
  · rw [if_neg hl] at hd
    cases hd
theorem left_pos {f : Fl} {s : St} (ho : StOk f s) (hb : s.broken = false) (hu : s.busy = true) : 1 ≤ leftS s := by
  have hdn := ho.dn hu hb
  have hpl := ho.pl hu
  unfold leftS
  omega
theorem runS_succ (n : Nat) (s : St) (f : Fl) : runS (n + 1) s f = if (stepS s f).2.2.1 = true ∨ (stepS s f).2.2.2 ≠ 0 then ((stepS s f).1, (stepS s f).2.1, (stepS s f).2.2.2) else runS n (stepS s f).1 (stepS s f).2.1 := rfl
theorem runS_ok {n : Nat} {f : Fl} {s : St} (ho : StOk f s) : StOk (runS n s f).2.1 (runS n s f).1 := by
  induction n generalizing s f with
  | zero => exact ho
  | succ n ih =>
    rw [runS_succ]
    split
    · exact stepS_ok ho
    · exact ih (stepS_ok ho)
theorem commitS_ok {f : Fl} {s : St} (ho : StOk f s) : StOk (commitS s f).2.1 (commitS s f).1 := by
  unfold commitS
  split
  · exact beginS_ok ho
  · exact runS_ok (beginS_ok ho)

section
variable {w0 w : World} {L : Lc} {S : Sc} {f : Fl} {s : St}

theorem step_any (h : StAt w0 w L S f s) (ho : StOk f s) : Calls Try.prog 84 #[.pointer (some ⟨S.D, 0, none⟩)] w (StepR w0 w L S (stepS s f)) := by
  by_cases hb : s.broken = true
  · have HR : Hid (stepS s f = (s, f, false, 20)) := by unfold stepS; rw [Hid, if_pos hb]
    have h1 := eqq_some S.D
    have c9 := h.row 9 _ rfl
    rw [hb] at c9
    have H := Lib.hid h
    clear h ho hb
    go_enter Try.func84, Try.ntmps84
    go_wp2
    go_ret2
    unfold StepR
    rw [HR.out]
    exact ⟨rfl, ⟨S, rfl, rfl, H.out⟩, OnlyX.refl _ _⟩
  have hb' : s.broken = false := by simpa using hb
  by_cases hu : s.busy = true
  · by_cases he : s.erase = true
    · exact step_erase h ho hb' hu he
    · exact step_prog h ho hb' hu (by simpa using he)
  · have hu' : s.busy = false := by simpa using hu
    have HR : Hid (stepS s f = (s, f, false, 12)) := by unfold stepS; rw [Hid, if_neg hb, if_pos hu']
    have h1 := eqq_some S.D
    have c9 := h.row 9 _ rfl
    have c16 := h.row 16 _ rfl
    rw [hb'] at c9
    rw [hu'] at c16
    have H := Lib.hid h
    clear h ho hb hb' hu hu'
    go_enter Try.func84, Try.ntmps84
    go_wp2
    go_ret2
    unfold StepR
    rw [HR.out]
    exact ⟨rfl, ⟨S, rfl, rfl, H.out⟩, OnlyX.refl _ _⟩

/-- The steps that are left, as the memory says. -/
def leftW (D : Nat) (w : World) : Nat :=
  (match w.cell? ⟨D, 10, none⟩ with | some (.slice _ n _) => n | _ => 0) - (match w.cell? ⟨D, 14, none⟩ with | some (.int _ d) => d.toNat | _ => 0) + (match w.cell? ⟨D, 15, none⟩ with | some (.bool true) => 1 | _ => 0)
theorem StAt.left (h : StAt w0 w L S f s) : leftW S.D w = leftS s := by
  unfold leftW leftS
  rw [h.row 10 _ rfl, h.row 14 _ rfl, h.row 15 _ rfl]
  simp only [Int.toNat_natCast]
  cases s.erase <;> rfl

/-- What Commit leaves. -/
def CommitR (w0 w : World) (L : Lc) (S : Sc) (q : St × Fl × Int) (e : Ending) (w' : World) : Prop :=
  e = .returned (errV q.2.2) ∧ (∃ S', S'.D = S.D ∧ S'.G = S.G ∧ StAt w0 w' L S' q.2.1 q.1) ∧ OnlyX (Own5 L S) w w'

/-- Under way. -/
structure UnderWay (w0 w wr : World) (L : Lc) (S : Sc) (q : St × Fl × Int) (n : Nat) (S' : Sc) (s' : St) (f' : Fl) : Prop where
  d : S'.D = S.D
  g : S'.G = S.G
  st : StAt w0 wr L S' f' s'
  ok : StOk f' s'
  b : s'.broken = false
  u : s'.busy = true
  left : leftS s' ≤ n
  run : q = runS n s' f'
  only : OnlyX (Own5 L S) w wr

set_option maxRecDepth 100000 in
set_option maxHeartbeats 8000000 in
theorem commit_any (h : StAt w0 w L S f s) (ho : StOk f s) : Calls Try.prog 68 #[.pointer (some ⟨S.D, 0, none⟩)] w (CommitR w0 w L S (commitS s f)) := by
  have g1 := ne_nil
  have g2 := ne_err
  have HB := Lib.hid (begin_any h ho)
  by_cases hE : beginE s f = 0
  · have HC : Hid (commitS s f = runS 10 (beginS s f) f) := by unfold commitS; rw [Hid, if_neg (by rw [hE]; decide)]
    have HOB := Lib.hid (beginS_ok (f := f) ho)
    have HBS : Hid ((beginS s f).broken = false ∧ (beginS s f).busy = true ∧ leftS (beginS s f) ≤ 10) := by
      obtain ⟨a, b, _, _, e⟩ := beginE_zero hE
      have hk := HOB.out.k8
      have hb : (beginS s f).busy = true := by unfold beginS; rw [if_pos hE]
      have hp := HOB.out.pl hb
      refine ⟨?_, hb, ?_⟩
      · unfold beginS
        rw [if_pos hE]
        show (placeS (brkS s f) f).broken = false
        have : (placeS (brkS s f) f).broken = (brkS s f).broken := by unfold placeS; split <;> rfl
        rw [this]
        unfold brkS
        rw [a, b]
        rfl
      · unfold leftS
        split <;> omega
    rw [HC.out]
    obtain ⟨q, hq⟩ : ∃ q, runS 10 (beginS s f) f = q := ⟨_, rfl⟩
    have HQ := Lib.hid hq
    rw [hq]
    have HE := Lib.hid hE
    unfold BeginR at HB
    rw [hE, errV_zero] at HB
    clear h ho hE hq
    go_enter Try.func68, Try.ntmps68
    go_wp2_with (fail)
    (with_reducible refine HB.out.mono ?_)
    rintro e w1 ⟨rfl, ⟨S1, hd1, hg1, hs1⟩, ho1⟩
    have HU : Hid (UnderWay w0 w w1 L S q 10 S1 (beginS s f) f) := ⟨hd1, hg1, hs1, HOB.out, HBS.out.1, HBS.out.2.1, HBS.out.2.2, HQ.out.symm, ho1⟩
    clear hd1 hg1 hs1 ho1
    go_wp2
    go_loopw [4] (fun _ wr => ∃ n S' s' f', UnderWay w0 w wr L S q n S' s' f') (fun _ wr => leftW S.D wr)
    case atStart => exact ⟨_, _, _, _, HU.out⟩
    case round =>
      obtain ⟨n, S', s', f', hU⟩ := hrel
      have HV := Lib.hid hU
      have HLF : Hid (leftW S.D wr = leftS s') := by rw [← hU.d]; exact hU.st.left
      have HST := Lib.hid (step_any hU.st hU.ok)
      have hn : 1 ≤ n := Nat.le_trans (left_pos hU.ok hU.b hU.u) hU.left
      obtain ⟨m, rfl⟩ : ∃ m, n = m + 1 := ⟨n - 1, by omega⟩
      have HRUN := Lib.hid hU.run
      rw [runS_succ] at HRUN
      rw [hU.d] at HST
      have HLS := Lib.hid (left_step hU.ok hU.b hU.u)
      have HOK := Lib.hid (stepS_ok hU.ok)
      clear hU hn
      obtain ⟨r, hr⟩ : ∃ r, stepS s' f' = r := ⟨_, rfl⟩
      rw [hr] at HST HRUN HLS HOK
      obtain ⟨rs, rf, rd, re⟩ := r
      clear hr
      simp only at HRUN HLS HOK
      unfold StepR at HST
      simp only at HST
      by_cases hdn : rd = true
      · subst hdn
        have HF : Hid (q = (rs, rf, re)) := by rw [Hid, HRUN.out, if_pos (.inl rfl)]
        go_wp2_with (fail)
        (with_reducible refine HST.out.mono ?_)
        rintro e w2 ⟨rfl, ⟨S2, hd2, hg2, hs2⟩, ho2⟩
        have HS2 := Lib.hid hs2
        have HO2 := Lib.hid ho2
        have HD2 : Hid (S2.D = S.D ∧ S2.G = S.G) := ⟨hd2.trans HV.out.d, hg2.trans HV.out.g⟩
        clear hs2 ho2 hd2 hg2
        generalize hev : errV re = ev
        have HEV := Lib.hid hev
        clear hev
        go_wp2
        go_ret
        unfold CommitR
        rw [HF.out]
        exact ⟨by rw [HEV.out]; rfl, ⟨S2, HD2.out.1, HD2.out.2, HS2.out⟩, HV.out.only.trans (by rw [← Own5.same HV.out.d HV.out.g]; exact HO2.out)⟩
      · have hdf : rd = false := by simpa using hdn
        subst hdf
        by_cases he : re = 0
        · subst he
          have HF : Hid (q = runS m rs rf) := by rw [Hid, HRUN.out, if_neg (by simp)]
          obtain ⟨l1, l2, l3⟩ := HLS.out rfl rfl
          have HL := Lib.hid l1
          have HL2 := Lib.hid l2
          have HL3 := Lib.hid l3
          rw [errV_zero] at HST
          clear l1 l2 l3
          go_wp2_with (fail)
          (with_reducible refine HST.out.mono ?_)
          rintro e w2 ⟨rfl, ⟨S2, hd2, hg2, hs2⟩, ho2⟩
          have HNEW : Hid (UnderWay w0 w w2 L S q m S2 rs rf) :=
            ⟨hd2.trans HV.out.d, hg2.trans HV.out.g, hs2, HOK.out, HL3.out, HL2.out, by have := HV.out.left; have := HL.out; omega, HF.out, HV.out.only.trans (by rw [← Own5.same HV.out.d HV.out.g]; exact ho2)⟩
          clear hs2 ho2 hd2 hg2
          go_wp2
          go_roundw
          case rel => exact ⟨_, _, _, _, HNEW.out⟩
          case measure =>
            have e1 : leftW S.D w2 = leftS rs := by rw [← HNEW.out.d]; exact HNEW.out.st.left
            rw [e1, HLF.out]
            have := HL.out
            omega
        · have HF : Hid (q = (rs, rf, re)) := by rw [Hid, HRUN.out, if_pos (.inr he)]
          have HEE := Lib.hid (errV_ne he)
          rw [HEE.out] at HST
          clear he
          go_wp2_with (fail)
          (with_reducible refine HST.out.mono ?_)
          rintro e w2 ⟨rfl, ⟨S2, hd2, hg2, hs2⟩, ho2⟩
          have HS2 := Lib.hid hs2
          have HO2 := Lib.hid ho2
          have HD2 : Hid (S2.D = S.D ∧ S2.G = S.G) := ⟨hd2.trans HV.out.d, hg2.trans HV.out.g⟩
          clear hs2 ho2 hd2 hg2
          go_wp2
          go_ret
          unfold CommitR
          rw [HF.out]
          exact ⟨by rw [HEE.out]; rfl, ⟨S2, HD2.out.1, HD2.out.2, HS2.out⟩, HV.out.only.trans (by rw [← Own5.same HV.out.d HV.out.g]; exact HO2.out)⟩
  · have HC : Hid (commitS s f = (beginS s f, f, beginE s f)) := by unfold commitS; rw [Hid, if_pos hE]
    unfold BeginR at HB
    have HE := Lib.hid (errV_ne hE)
    rw [HE.out] at HB
    rw [HC.out]
    clear h ho hE
    generalize beginE s f = k at *
    go_enter Try.func68, Try.ntmps68
    go_wp2_with (fail)
    (with_reducible refine HB.out.mono ?_)
    rintro e w1 ⟨rfl, hs1, ho1⟩
    have HS1 := Lib.hid hs1
    have HO1 := Lib.hid ho1
    clear hs1 ho1
    go_wp2
    go_ret
    unfold CommitR
    exact ⟨by rw [HE.out]; rfl, HS1.out, HO1.out⟩
end
end Go.Proofs.Ytjdknddnanopaaa
