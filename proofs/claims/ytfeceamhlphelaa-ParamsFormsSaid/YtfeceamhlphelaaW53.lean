/-
  ParamsDetects.
-/
import Derived.Test.YtfeceamhlphelaaMe
namespace Go.Proofs.Ytfeceamhlphelaa
open Go.RowKit
set_option linter.unusedVariables false

theorem enc_no2 (seq : Int) (A : Option Addr) (n c : Nat) (w : World) (hn : n ≤ 9223372036854775807) (h : encE seq n ≠ 0) :
    Calls Try.prog 52 #[.int .i64 seq, .slice A n c] w fun e w' => e = .returned (.tuple #[.slice none 0 0, .iface 40 (.int .i64 3)]) ∧ w = w' := by
  by_cases h1 : 1 ≤ seq ∧ seq ≤ 1099511627776
  · have h2 : ¬ (1 ≤ (n : Int) ∧ (n : Int) ≤ 48) := by
      unfold encE at h
      intro h3
      rw [if_neg (by omega)] at h
      exact h rfl
    have HA := Lib.hid (fun w => within51 seq 1 1099511627776 w)
    have HB := Lib.hid (fun w => within51 n 1 48 w)
    rw [decide_eq_true h1] at HA
    rw [decide_eq_false h2] at HB
    clear h h1 h2
    go_enter Try.func52, Try.ntmps52
    go_wp2_with (fail)
    (with_reducible refine (HA.out w).mono ?_)
    rintro e w1 ⟨rfl, rfl⟩
    go_wp2_with (fail)
    (with_reducible refine (HB.out w).mono ?_)
    rintro e w1 ⟨rfl, rfl⟩
    go_wp2
    go_ret2
    exact ⟨rfl, rfl⟩
  · have HA := Lib.hid (fun w => within51 seq 1 1099511627776 w)
    rw [decide_eq_false h1] at HA
    clear h h1
    go_enter Try.func52, Try.ntmps52
    go_wp2_with (fail)
    (with_reducible refine (HA.out w).mono ?_)
    rintro e w1 ⟨rfl, rfl⟩
    go_wp2
    go_ret2
    exact ⟨rfl, rfl⟩

set_option maxRecDepth 100000 in
theorem detects_long (seq : Int) (A : Option Addr) (n c : Nat) (B : Option Addr) (m z : Nat) (w : World) (hm : m ≤ maxLen) (h : 1000 < m) :
    Calls Try.prog 12 #[.int .i64 seq, .slice A n c, .slice B m z] w fun e w' => e = .returned (.bool true) ∧ Below w.heap.size w w' := by
  unfold maxLen at hm
  go_enter Try.func12, Try.ntmps12
  go_wp2_with (fail)
  (with_reducible refine (awake51_any w).mono ?_)
  rintro e w1 ⟨rfl, hb⟩
  have HB1 := Lib.hid hb
  clear hb
  go_wp2_with (fail)
  (with_reducible refine (awake51_any w1).mono ?_)
  rintro e w2 ⟨rfl, hb⟩
  have HB2 : Hid (Below w.heap.size w w2) := HB1.out.trans (hb.mono HB1.out.size)
  clear hb
  go_wp2
  go_ret
  exact ⟨rfl, HB2.out⟩

set_option maxRecDepth 100000 in
theorem detects_no (seq : Int) (A : Option Addr) (n c : Nat) (B : Option Addr) (m z : Nat) (w : World) (hn : n ≤ 9223372036854775807) (hm : m ≤ 1000) (h : encE seq n ≠ 0) :
    Calls Try.prog 12 #[.int .i64 seq, .slice A n c, .slice B m z] w fun e w' => e = .returned (.bool true) ∧ Below w.heap.size w w' := by
  have g2 := ne_err
  have HE := Lib.hid (fun w => enc_no2 seq A n c w hn h)
  clear h
  go_enter Try.func12, Try.ntmps12
  go_wp2_with (fail)
  (with_reducible refine (awake51_any w).mono ?_)
  rintro e w1 ⟨rfl, hb⟩
  have HB1 := Lib.hid hb
  clear hb
  go_wp2_with (fail)
  (with_reducible refine (HE.out w1).mono ?_)
  rintro e w2 ⟨rfl, rfl⟩
  go_wp2
  go_ret
  exact ⟨rfl, HB1.out⟩

set_option maxRecDepth 100000 in
set_option maxHeartbeats 16000000 in
theorem detects_main (seq : Int) (A : Option Addr) (n c : Nat) (vals : List Int) (B : Option Addr) (m z : Nat) (mask : List Int) (w : World)
    (hA : Rd w w.heap.size A (icells vals)) (hn : vals.length = n) (hnc : n ≤ c) (hcm : c ≤ maxLen) (hv : ∀ x ∈ vals, -9223372036854775808 ≤ x ∧ x < 9223372036854775808)
    (hB : Rd w w.heap.size B (kcells .u8 mask)) (hm : mask.length = m) (hmz : m ≤ z) (hzm : z ≤ maxLen) (hmk : Bytes mask) (h1 : m ≤ 1000) (he : encE seq n = 0) :
    Calls Try.prog 12 #[.int .i64 seq, .slice A n c, .slice B m z] w fun e w' => e = .returned (.bool true) ∧ Below w.heap.size w w' := by
  have g1 := ne_nil
  have HA := Lib.hid hA
  have HN := Lib.hid hn
  have HV := Lib.hid hv
  have HB := Lib.hid hB
  have HM := Lib.hid hm
  have HMK := Lib.hid hmk
  have HCM := Lib.hid hcm
  obtain ⟨_, _, n1, n48⟩ := encE_zero he
  have HE : Hid (∀ w1 : World, Below w.heap.size w w1 → Calls Try.prog 52 #[.int .i64 seq, .slice A n c] w1 fun e w' => ∃ A' c', e = .returned (.tuple #[.slice A' (pgs n) c', .nilIface]) ∧ pgs n ≤ c' ∧ c' ≤ maxLen ∧ RdP (fun _ => False) w' A' (encP seq vals) ∧ Below w1.heap.size w1 w') :=
    fun w1 hb => enc_yes (fun _ => False) seq A n c vals w1 (fun _ h => h.elim) ((hA.below hb (Nat.le_refl _)).more hb.size) hn hnc hcm hv he
  have hk8 := pgs_le n48
  have HPL : Hid ((encP seq vals).length = pgs n) := by rw [Hid, encP_len, hn]
  have HPB : Hid (∀ p ∈ encP seq vals, p.length = 64 ∧ Bytes p) := encP_ok (by omega)
  have HPG : Hid (∀ p ∈ encP seq vals, goodP p = true) := by
    intro p hp
    unfold encP at hp
    rw [List.mem_map] at hp
    obtain ⟨k, _, rfl⟩ := hp
    exact good_page _ _ _
  obtain ⟨K, hK⟩ : ∃ K, pgs n = K := ⟨_, rfl⟩
  rw [hK] at HE HPL hk8
  have hm8 : ∀ wx : World, (Instr.makeSlice 23 (.int .i64 64) (.int .i64 64)).run Try.prog wx = .ok (.slice (some ⟨wx.heap.size, 0, none⟩) 64 64) (wx.alloc (.cells (madeCells #[.int .u8 0] 64) 5)) := fun wx =>
    run_make_row' 23 5 (.int .u8 0) 1 Try.underlying23 info5 rfl .i64 .i64 64 (by omega) (by omega) wx
  have HC8 : Hid ((madeCells #[.int .u8 0] 64).toList = kcells .u8 (List.replicate 64 0)) := made_k .u8 64
  generalize madeCells #[.int .u8 0] 64 = C8 at *
  unfold maxLen at hcm hzm
  clear hA hn hv hB hm hmk he hK
  go_enter Try.func12, Try.ntmps12
  go_wp2_with (fail)
  (with_reducible refine (awake51_any w).mono ?_)
  rintro e w1 ⟨rfl, hb⟩
  have HB1 := Lib.hid hb
  clear hb
  go_wp2_with (fail)
  (with_reducible refine (HE.out w1 HB1.out).mono ?_)
  rintro e w2 ⟨A2, c2, rfl, hp1, hp2, hrp, hb⟩
  have HRP := Lib.hid hrp
  have HB2 : Hid (Below w.heap.size w w2) := HB1.out.trans (hb.mono HB1.out.size)
  have HP1 := Lib.hid (And.intro hp1 hp2)
  clear hrp hb hp1 hp2 HE
  obtain ⟨W, hW⟩ : ∃ W, w2.alloc (.cells C8 5) = W := ⟨_, rfl⟩
  have HBW : Hid (Below w2.heap.size w2 W) := by rw [← hW]; exact (Below.refl _ _).alloc (Nat.le_refl _) _
  have HOW : Hid (W.ownsRow w2.heap.size 5 1 (.slice (some ⟨w2.heap.size, 0, none⟩) 64 64) 64 (kcells .u8 (List.replicate 64 0))) := by
    rw [← hW]
    exact own_alloc HC8.out (by rw [kcells_length, List.length_replicate]) (Nat.le_refl _) (by unfold maxLen; omega)
  go_wp2
  go_loopw [37] (fun i wr => ∃ j : Nat, j ≤ 64 ∧ i = .int .i64 j ∧ wr.ownsRow w2.heap.size 5 1 (.slice (some ⟨w2.heap.size, 0, none⟩) 64 64) 64 (kcells .u8 (lay (List.replicate 64 0) 0 ((List.replicate 64 255).take j))) ∧ Below w2.heap.size w2 wr) (fun i _ => 64 - (intOf i).toNat)
  case atStart => exact ⟨0, by omega, rfl, by rw [List.take_zero, lay_nil]; exact HOW.out, HBW.out⟩
  case round =>
    obtain ⟨j, hj, rfl, hO, hBr⟩ := hrel
    have HO := Lib.hid hO
    have HBR := Lib.hid hBr
    clear hO hBr hW
    by_cases hlt : j < 64
    · have hll : (lay (List.replicate 64 0) 0 ((List.replicate 64 (255 : Int)).take j)).length = 64 := by rw [lay_length _ _ _ (by rw [List.length_take, List.length_replicate, List.length_replicate]; omega), List.length_replicate]
      obtain ⟨y, hy⟩ := getElem?_of_lt (l := lay (List.replicate 64 0) 0 ((List.replicate 64 255).take j)) (k := j) (by rw [hll]; exact hlt)
      have d0 := own_k hll HO.out hy
      have d1 : wr.frozen? ⟨w2.heap.size, j, none⟩ = false := HO.out.frozenAt _
      have hst := lay_step (img := List.replicate 64 0) (b := List.replicate 64 255) (a := 0) (i := j) (x := 255) (by rw [List.length_replicate, List.length_replicate]; omega) (by rw [List.getElem?_replicate, if_pos hlt])
      rw [Nat.zero_add] at hst
      have n1 := own_set_k HO.out j 255
      rw [hst] at n1
      have HN1 := Lib.hid n1
      have HN2 : Hid (Below w2.heap.size w2 _) := HBR.out.setCell (p := ⟨w2.heap.size, j, none⟩) (Nat.le_refl _) (.int .u8 255)
      clear hy n1 hst hll
      go_wp2
      go_roundw
      case rel => exact ⟨j + 1, by omega, by go_num, HN1.out, HN2.out⟩
      case measure => simp [intOf]; omega
    · have hj64 : j = 64 := by omega
      subst hj64
      rw [show ((64 : Nat) : Int) = (64 : Int) from rfl]
      have HBL : Hid (wr.ownsRow w2.heap.size 5 1 (.slice (some ⟨w2.heap.size, 0, none⟩) 64 64) 64 (kcells .u8 (List.replicate 64 255))) := by
        have := HO.out
        rw [List.take_of_length_le (by rw [List.length_replicate]; exact Nat.le_refl _)] at this
        have e : lay (List.replicate 64 (0 : Int)) 0 (List.replicate 64 255) = List.replicate 64 255 := by
          unfold lay
          rw [List.take_zero, List.nil_append, List.length_replicate, Nat.zero_add, List.drop_of_length_le (by rw [List.length_replicate]; exact Nat.le_refl _), List.append_nil]
        rw [e] at this
        exact this
      obtain ⟨wa, hwa⟩ : ∃ wa, wa = wr := ⟨_, rfl⟩
      subst hwa
      have HRPR := Lib.hid (HRP.out.below HBR.out)
      have HBT : Hid (Below w.heap.size w wa) := HB2.out.trans (HBR.out.mono HB2.out.size)
      clear HO HOW HBW
      go_wp2
      go_loopw [46] (fun i wr => ∃ k : Nat, k ≤ K ∧ i = .int .i64 k ∧ Below wa.heap.size wa wr) (fun i _ => K - (intOf i).toNat)
      case atStart => exact ⟨0, Nat.zero_le _, rfl, Below.refl _ _⟩
      case round =>
        obtain ⟨k, hk, rfl, hbx⟩ := hrel
        have HBX := Lib.hid hbx
        clear hbx
        by_cases hltk : k < K
        · obtain ⟨p, hp⟩ := getElem?_of_lt (l := encP seq vals) (k := k) (by rw [HPL.out]; exact hltk)
          obtain ⟨hpl, hpb⟩ := HPB.out p (List.mem_of_getElem? hp)
          have hpg := HPG.out p (List.mem_of_getElem? hp)
          obtain ⟨ba, off, Q, cc, rfl, hblt, e0, p1, p2, rp⟩ := (HRPR.out.below HBX.out).get hp
          rw [hpl] at e0 p1
          obtain ⟨g, o, rfl⟩ : ∃ g o, Q = some ⟨g, o, none⟩ := by
            obtain ⟨x, hx⟩ := getElem?_of_lt (l := p) (k := 0) (by omega)
            obtain ⟨b', o', e, _⟩ := rp.rd.kint hx
            exact ⟨b', o', e⟩
          have HG1 := Lib.hid (good_any (some ⟨g, o, none⟩) 64 cc p wr rp.rd hpl p1 p2 hpb)
          rw [hpg] at HG1
          have HRPP := Lib.hid rp
          have HPLN := Lib.hid hpl
          have HPBY := Lib.hid hpb
          have HTG := Lib.hid (torn_good hpb HMK.out hpl hpg)
          unfold maxLen at p2
          clear hp hpl hpb hpg rp
          go_wp2_with (fail)
          (with_reducible refine HG1.out.mono ?_)
          rintro e w4 ⟨rfl, q4, rfl⟩
          have HB4 : Hid (Below wa.heap.size wa (wr.drewN q4)) := HBX.out.trans ((Below.drewN (Below.refl _ _) q4).mono HBX.out.size)
          have HRP4 := Lib.hid (HRPP.out.onlyX (OnlyX.of_below (Below.drewN (Below.refl wr.heap.size wr) q4)))
          generalize wr.drewN q4 = w4 at *
          obtain ⟨i5, hi5, hz50, hz51, hz52⟩ := info_parts info5
          have hm0 : 0 ≤ maxLen := Nat.zero_le _
          have HKL : Hid ((kcells .u8 p).length = 64 * 1) := by rw [Hid, kcells_length, HPLN.out]
          go_wp2_with (at_builtin; refine wpList_append_rd _ rfl _ _ 23 rfl w4.heap.size 5 i5 (.int .u8 0) 1 1 Try.underlying23 hi5 hz50 hz51 hz52 rfl (by omega) _ 0 [] rfl (World.ownsRow_lit w4 #[] 0 (Nat.le_refl _) hm0 rfl) w4.heap.size _ 64 cc (kcells .u8 p) rfl (HRP4.out.rd.below ((Below.refl w4.heap.size w4).alloc (Nat.le_refl _) _) (Nat.le_refl _)) HKL.out (kcells_one _ _) (by unfold maxLen; omega) (by omega) (by simp) ?_)
          intro v5 w5 hown5 hgrow5 _
          have HB5 : Hid (Below w4.heap.size w4 w5) := ((Below.refl w4.heap.size w4).alloc (Nat.le_refl _) _).grown hgrow5 (by simp) (fun k hk => by have hk' : some w4.heap.size = some k := hk; injection hk'; omega)
          have ho5 : w5.ownsRow w4.heap.size 5 1 v5 64 (kcells .u8 p) := by simpa using hown5
          obtain ⟨A5, c5, rfl, h51, h52, hg5⟩ := own_form ho5
          obtain ⟨g5, rfl, hg51, hg52⟩ := hg5 (by omega)
          have HO5 := Lib.hid ho5
          have HRP5 := Lib.hid (HRP4.out.onlyX (OnlyX.of_below HB5.out))
          unfold maxLen at h52
          clear hown5 hgrow5 ho5
          go_wp2
          go_loopw [63] (fun i wr => ∃ j : Nat, j ≤ 64 ∧ i = .int .i64 j ∧ wr.ownsRow w4.heap.size 5 1 (.slice (some ⟨g5, 0, none⟩) 64 c5) 64 (kcells .u8 (lay p 0 ((torn p mask).take j))) ∧ Below w4.heap.size w4 wr) (fun i _ => 64 - (intOf i).toNat)
          case atStart => exact ⟨0, Nat.zero_le _, rfl, by rw [List.take_zero, lay_nil]; exact HO5.out, HB5.out⟩
          case round =>
            obtain ⟨j, hj, rfl, hO, hBr⟩ := hrel
            have HO := Lib.hid hO
            have HBR6 := Lib.hid hBr
            clear hO hBr
            have htl : (torn p mask).length = 64 := by rw [torn_length, HPLN.out]
            have hll : (lay p 0 ((torn p mask).take j)).length = 64 := by rw [lay_length _ _ _ (by rw [List.length_take, HPLN.out]; omega), HPLN.out]
            by_cases hlt : j < 64
            · obtain ⟨x, hx⟩ := getElem?_of_lt (l := p) (k := j) (by rw [HPLN.out]; exact hlt)
              have hxb := HPBY.out x (List.mem_of_getElem? hx)
              have hcur : (lay p 0 ((torn p mask).take j))[j]? = some x := by
                rw [lay_get _ _ _ (by rw [List.length_take, HPLN.out]; omega), if_neg (by rw [List.length_take]; omega)]
                exact hx
              have hst := lay_step (img := p) (b := torn p mask) (a := 0) (i := j) (x := orB x (pickF mask j)) (by rw [htl, HPLN.out]; omega) (by rw [torn_get, hx]; rfl)
              rw [Nat.zero_add] at hst
              have d0 := own_k hll HO.out hcur
              have d1 : wr.frozen? ⟨g5, j, none⟩ = false := HO.out.frozenAt _
              by_cases hmj : j < m
              · obtain ⟨y, hy⟩ := getElem?_of_lt (l := mask) (k := j) (by rw [HM.out]; exact hmj)
                have hyb := HMK.out y (List.mem_of_getElem? hy)
                obtain ⟨bb, ob, rfl, hbb, e1⟩ := (HB.out.below (HBT.out.trans ((HB4.out.trans (HBR6.out.mono HB4.out.size)).mono HBT.out.size)) (Nat.le_refl _)).kint hy
                have hpk : pickF mask j = y := by unfold pickF; rw [hy]; rfl
                have n1 := own_set_k HO.out j (orB x y)
                rw [hpk] at hst
                rw [hst] at n1
                have HN1 := Lib.hid n1
                have HN2 : Hid (Below w4.heap.size w4 (wr.setCell ⟨g5, j, none⟩ (.int .u8 (orB x y)))) := HBR6.out.setCell (p := ⟨g5, j, none⟩) hg51 _
                obtain ⟨x1, x2⟩ := hxb
                obtain ⟨y1, y2⟩ := hyb
                clear hx hcur hst hy hpk n1 htl hll
                go_wp2
                go_region
                all_goals
                  go_wp2
                  go_roundw
                  case rel => exact ⟨j + 1, by omega, by go_num, by first | exact HN1.out | exact own_below HN1.out (Below.drew (Below.refl _ _)), by first | exact HN2.out | exact HN2.out.trans ((Below.drew (Below.refl _ _)).mono HN2.out.size)⟩
                  case measure => simp [intOf]; omega
              · have hpk : pickF mask j = 0 := by unfold pickF; rw [List.getElem?_eq_none (by rw [HM.out]; omega)]; rfl
                have HSAME : Hid (lay p 0 ((torn p mask).take (j + 1)) = lay p 0 ((torn p mask).take j)) := by
                  rw [hpk, orB_zero hxb] at hst
                  rw [Hid, ← hst]
                  exact set_same9 hcur
                clear hx hxb hcur hst hpk htl hll d0 d1
                go_wp2
                go_roundw
                case rel => exact ⟨j + 1, by omega, by go_num, by rw [HSAME.out]; exact HO.out, HBR6.out⟩
                case measure => simp [intOf]; omega
            · have hj64 : j = 64 := by omega
              subst hj64
              have HT : Hid (wr.ownsRow w4.heap.size 5 1 (.slice (some ⟨g5, 0, none⟩) 64 c5) 64 (kcells .u8 (torn p mask))) := by
                have := HO.out
                rw [List.take_of_length_le (by rw [htl]; exact Nat.le_refl _)] at this
                have e : lay p 0 (torn p mask) = torn p mask := by
                  unfold lay
                  rw [List.take_zero, List.nil_append, htl, Nat.zero_add, List.drop_of_length_le (by rw [HPLN.out]; exact Nat.le_refl _), List.append_nil]
                rw [e] at this
                exact this
              have HTB : Hid (Bytes (torn p mask)) := torn_bytes HPBY.out HMK.out
              have HRT := Lib.hid (own_rd HT.out)
              have HRQ := Lib.hid ((HRP4.out.rd.below HBR6.out (Nat.le_refl _)).more HBR6.out.size)
              obtain ⟨T, hT⟩ : ∃ T, torn p mask = T := ⟨_, rfl⟩
              rw [hT] at HTG HTB HRT htl
              have HGT : Hid (∀ q, Calls Try.prog 47 #[.slice (some ⟨g5, 0, none⟩) 64 c5] (wr.drewN q) fun e w' => e = .returned (.bool (goodP T)) ∧ ∃ k, w' = (wr.drewN q).drewN k) :=
                fun q => good_any _ 64 c5 T (wr.drewN q) (HRT.out.drew (Nat.le_refl _) q) htl h51 (by unfold maxLen; exact h52) HTB.out
              have s1 : ∀ q, (convert 23 9 (.slice (some ⟨g5, 0, none⟩) 64 c5)).run Try.prog (wr.drewN q) = .ok (.string (strOfNums T)) (wr.drewN q) := fun q => str_of (HRT.out.drew (Nat.le_refl _) q) htl
              have s2 : ∀ q, (convert 23 9 (.slice (some ⟨g, o, none⟩) 64 cc)).run Try.prog (wr.drewN q) = .ok (.string (strOfNums p)) (wr.drewN q) := fun q => str_of (HRQ.out.drew (Nat.le_refl _) q) HPLN.out
              have hs := str_beq HPBY.out HTB.out
              rw [HTG.out] at HGT
              have HBE : Hid (∀ q, Below wa.heap.size wa (wr.drewN q)) := fun q => (HB4.out.trans (HBR6.out.mono HB4.out.size)).trans ((Below.drewN (Below.refl _ _) q).mono (Nat.le_trans HB4.out.size HBR6.out.size))
              clear htl hT
              by_cases heq : T = p
              · rw [decide_eq_true heq] at HGT
                rw [decide_eq_true heq.symm] at hs
                clear heq
                go_wp2
                go_quiet ((go_at_call 47; with_reducible exact Calls.quiet_of (HGT.out _)))
                go_wp2
                go_roundw
                case rel => exact ⟨k + 1, by omega, by go_num, HBE.out _⟩
                case measure => simp [intOf]; omega
              · rw [decide_eq_false heq] at HGT
                rw [decide_eq_false (fun e => heq e.symm)] at hs
                clear heq
                go_wp2
                go_quiet ((go_at_call 47; with_reducible exact Calls.quiet_of (HGT.out _)))
                go_wp2
                go_roundw
                case rel => exact ⟨k + 1, by omega, by go_num, HBE.out _⟩
                case measure => simp [intOf]; omega
        · have HG := Lib.hid (good_any (some ⟨w2.heap.size, 0, none⟩) 64 64 (List.replicate 64 255) wr ((own_rd HBL.out).below HBX.out (Nat.le_refl _) |>.more HBX.out.size) (List.length_replicate) (Nat.le_refl _) (by unfold maxLen; omega) (bytes_rep 64 255 (by omega)))
          rw [blank_bad] at HG
          go_wp2_with (fail)
          (with_reducible refine HG.out.mono ?_)
          rintro e w9 ⟨rfl, q, rfl⟩
          go_wp2
          go_ret
          exact ⟨rfl, (HBT.out.trans (HBX.out.mono HBT.out.size)).trans ((Below.drewN (Below.refl _ _) q).mono (Nat.le_trans HBT.out.size HBX.out.size))⟩
end Go.Proofs.Ytfeceamhlphelaa
