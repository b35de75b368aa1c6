
/-
  The reference of layer 51: Decode.
-/
import Derived.Test.YtjdknddnanopaaaRW65
namespace Go.Proofs.Ytjdknddnanopaaa
open Go.RowKit
set_option linter.unusedVariables false
set_option linter.unusedSimpArgs false

/-- What the reference's Decode returns. -/
def DecS (w : World) (d : Int × List Int × Int) (e : Ending) (w' : World) : Prop :=
  ∃ A c, e = .returned (.tuple #[.int .i64 d.1, .slice A d.2.1.length c, .int .i64 d.2.2]) ∧ w'.ownsRow w.heap.size 3 1 (.slice A d.2.1.length c) d.2.1.length (icells d.2.1) ∧ Below w.heap.size w w'
theorem DecS.none {w w' : World} {k : Int} (hb : Below w.heap.size w w') : DecS w (0, [], k) (.returned (.tuple #[.int .i64 0, .slice none 0 0, .int .i64 k])) w' :=
  ⟨Option.none, 0, rfl, World.ownsRow_nil .., hb⟩
theorem str_bne {a b : List Int} (ha : Bytes a) (hb : Bytes b) : ((strOfNums a).toList != (strOfNums b).toList) = !decide (a = b) := by
  unfold bne
  rw [str_beq ha hb]

set_option maxRecDepth 100000 in
set_option maxHeartbeats 8000000 in
theorem decode_r {X : Nat → Prop} (A : Option Addr) (n c : Nat) (ps : List (List Int)) (w : World) (hA : RdP X w A ps) (hn : ps.length = n) (hnc : n ≤ c) (hcm : c ≤ maxLen) (hb : ∀ p ∈ ps, Bytes p) :
    Calls Try.prog 105 #[.slice A n c] w (DecS w (decP ps)) := by
  unfold maxLen at hcm
  by_cases hl : ps.length < 1 ∨ 8 < ps.length
  · have HD := Lib.hid (decP_len hl)
    rw [hn] at hl
    clear hA hn hb
    rcases hl with h | h
    all_goals
      go_enter Try.func105, Try.ntmps105
      go_wp2
      go_ret3
      rw [HD.out]
      exact .none (Below.refl _ _)
  have n1 : 1 ≤ n := by omega
  have n8 : n ≤ 8 := by omega
  have HL := Lib.hid hl
  have HA := Lib.hid hA
  have HN := Lib.hid hn
  have HB := Lib.hid hb
  clear hA hn hb hl
  go_enter Try.func105, Try.ntmps105
  go_wp2
  go_loopw [24] (fun i wr => ∃ k : Nat, k ≤ n ∧ i = .int .i64 k ∧ (ps.take k).all goodP = true ∧ ∃ q, wr = w.drewN q) (fun i _ => n - (intOf i).toNat)
  case atStart => exact ⟨0, Nat.zero_le _, rfl, rfl, 0, rfl⟩
  case round =>
    obtain ⟨k, hk, rfl, ht, q, rfl⟩ := hrel
    have HT := Lib.hid ht
    clear ht
    by_cases hlt : k < n
    · obtain ⟨p, hp⟩ := getElem?_of_lt (l := ps) (k := k) (by rw [HN.out]; exact hlt)
      obtain ⟨ba, off, Q, cc, rfl, _, e1, p1, p2, r1⟩ := (HA.out.drew q).get hp
      have HG := Lib.hid (good_r Q p.length cc p (w.drewN q) r1.rd rfl p1 p2 (HB.out p (List.mem_of_getElem? hp)))
      have HP := Lib.hid hp
      generalize p.length = lp at *
      clear hp r1 p1 p2
      by_cases hg : goodP p = true
      · rw [hg] at HG
        have HS := Lib.hid (all_step HP.out HT.out hg)
        clear hg
        go_wp2_with (fail)
        (with_reducible refine HG.out.mono ?_)
        rintro e w2 ⟨rfl, q2, rfl⟩
        go_wp2
        go_roundw
        case rel => exact ⟨k + 1, by omega, by go_num, HS.out, _, rfl⟩
        case measure => simp [intOf]; omega
      · have hg' : goodP p = false := by simpa using hg
        rw [hg'] at HG
        have HD := Lib.hid (decP_sum HL.out (all_not HP.out hg'))
        clear hg hg'
        go_wp2_with (fail)
        (with_reducible refine HG.out.mono ?_)
        rintro e w2 ⟨rfl, q2, rfl⟩
        go_wp2
        go_ret3
        rw [HD.out]
        exact .none (Below.drewN (Below.refl _ _) _)
    · have hkn : k = n := by omega
      subst hkn
      have hall : ps.all goodP = true := by
        have := HT.out
        rwa [List.take_of_length_le (by rw [HN.out]; exact Nat.le_refl _)] at this
      obtain ⟨p0, hp0⟩ := getElem?_of_lt (l := ps) (k := 0) (by rw [HN.out]; omega)
      have hl0 : p0.length = 64 := goodP_len (List.all_eq_true.1 hall p0 (List.mem_of_getElem? hp0))
      obtain ⟨x1, hx1⟩ := getElem?_of_lt (l := p0) (k := 1) (by omega)
      have hxb := HB.out p0 (List.mem_of_getElem? hp0) x1 (List.mem_of_getElem? hx1)
      obtain ⟨n0, rfl⟩ := Int.eq_ofNat_of_zero_le hxb.1
      obtain ⟨ba, off, Q0, c0, rfl, hbA, e0, p1, p2, r0⟩ := HA.out.get hp0
      rw [hl0] at e0 p1
      rw [Nat.add_zero] at e0
      obtain ⟨g, o, rfl, hgl, e1⟩ := r0.rd.kint hx1
      obtain ⟨s, hs⟩ : ∃ t, asI (numB ((p0.drop 2).take 6)) = t := ⟨_, rfl⟩
      have H91 : Hid (∀ q2, Calls Try.prog 129 #[.slice (some ⟨g, o + 2, none⟩) 6 (c0 - 2)] (w.drewN q2) fun e w' => e = .returned (.int .i64 s) ∧ w' = w.drewN q2) := by
        intro q2
        rw [← hs]
        exact (number_r _ 6 _ _ _ ((r0.rd.part 2 6).drew (Nat.le_refl _) q2) (by rw [List.length_take, List.length_drop, hl0]; rfl) (bytes_take (bytes_drop (HB.out p0 (List.mem_of_getElem? hp0)) 2) 6) (by omega)).mono fun _ _ h => ⟨h.1, h.2.symm⟩
      have HALL := Lib.hid hall
      have HP0 := Lib.hid hp0
      have HX1 := Lib.hid hx1
      have n256 : n0 < 256 := by omega
      have HSS := Lib.hid hs
      unfold maxLen at p2
      clear hall hp0 hl0 hx1 hxb r0 hs
      have k0 : 0 < k := by omega
      go_wp2
      have q0 : (8 : Int) ≤ (c0 : Int) := by omega
      have q9 : ¬ (c0 = 2) := by omega
      go_quiet ((go_at_call 129; with_reducible exact quiet_plus (H91.out _)))
      clear q0 q9 e1
      have hc : n0 < 1 ∨ (¬ n0 < 1 ∧ 48 < n0) ∨ (¬ n0 < 1 ∧ ¬ 48 < n0) := by omega
      rcases hc with f1 | ⟨f1, f2⟩ | ⟨f1, f2⟩
      · have HD := Lib.hid (decP_form HL.out HALL.out HP0.out HX1.out (by rw [HN.out]; exact .inl f1))
        go_wp2
        go_ret3
        rw [HD.out]
        exact .none (Below.drewN (Below.refl _ _) _)
      · have HD := Lib.hid (decP_form HL.out HALL.out HP0.out HX1.out (by rw [HN.out]; exact .inr (.inl f2)))
        go_wp2
        go_ret3
        rw [HD.out]
        exact .none (Below.drewN (Below.refl _ _) _)
      have HPG := Lib.hid (fun w => pages_r n0 (by omega) w)
      by_cases hpk : pgs n0 = k
      rotate_left
      · have HD := Lib.hid (decP_form HL.out HALL.out HP0.out HX1.out (by rw [HN.out]; exact .inr (.inr hpk)))
        have hne : ((pgs n0 : Nat) : Int) != (k : Int) := by simp; omega
        generalize pgs n0 = P at *
        go_wp2_with (fail)
        (with_reducible refine (HPG.out _).mono ?_)
        rintro e w1 ⟨rfl, rfl⟩
        go_wp2
        go_ret3
        rw [HD.out]
        exact .none (Below.drewN (Below.refl _ _) _)
      · have HD := Lib.hid (decP_end HL.out HALL.out HP0.out HX1.out (by rw [HN.out]; omega))
        rw [HSS.out] at HD
        rw [hpk] at HPG
        have HPK := Lib.hid hpk
        have hne : ((k : Int) != (k : Int)) = false := by simp
        obtain ⟨wq, hwq⟩ : ∃ v, (w.drewN q).drewN nq = v := ⟨_, rfl⟩
        have HBQ : Hid (Below w.heap.size w wq) := by rw [← hwq, World.drewN_drewN]; exact Below.drewN (Below.refl _ _) _
        rw [hwq]
        clear hpk hwq
        go_wp2_with (fail)
        (with_reducible refine (HPG.out _).mono ?_)
        rintro e w1 ⟨rfl, rfl⟩
        obtain ⟨i3, hi3, hz30, hz31, hz32⟩ := info_parts info3
        go_wp2
        go_loopw [9, 57] (fun v i wr => ∃ j : Nat, j ≤ n0 ∧ i = .int .i64 j ∧ wr.ownsRow w.heap.size 3 1 v j (icells ((List.range j).map (decV ps))) ∧ Below w.heap.size w wr) (fun _ i _ => n0 - (intOf i).toNat)
        case atStart => exact ⟨0, Nat.zero_le _, rfl, World.ownsRow_nil _ _ _ _, HBQ.out⟩
        case round =>
          obtain ⟨j, hj, rfl, hO, hBl⟩ := hrel
          have HO := Lib.hid hO
          have HBl := Lib.hid hBl
          clear hO hBl
          by_cases hltj : j < n0
          · have hpi : j / 6 < k := by have := HPK.out; unfold pgs at this; omega
            obtain ⟨p, hp⟩ := getElem?_of_lt (l := ps) (k := j / 6) (by rw [HN.out]; exact hpi)
            have hlp : p.length = 64 := goodP_len (List.all_eq_true.1 HALL.out p (List.mem_of_getElem? hp))
            obtain ⟨ba', off', Q, cc, eA, _, e2, p3, p4, r1⟩ := (HA.out.below HBl.out).get hp
            injection eA with eA
            injection eA with eA1 eA2
            subst eA1
            subst eA2
            rw [hlp] at e2 p3
            obtain ⟨g2, o2, rfl⟩ : ∃ g2 o2, Q = some ⟨g2, o2, none⟩ := by
              obtain ⟨x, hx⟩ := getElem?_of_lt (l := p) (k := 0) (by omega)
              obtain ⟨b', o', e, _⟩ := r1.rd.kint hx
              exact ⟨b', o', e⟩
            obtain ⟨at', hat⟩ : ∃ a, 8 + 8 * (j % 6) = a := ⟨_, rfl⟩
            obtain ⟨et, het⟩ : ∃ a, at' + 8 = a := ⟨_, rfl⟩
            have ha56 : et ≤ 64 := by omega
            have t1 : (j : Int) % 6 = ((j % 6 : Nat) : Int) := by omega
            have t1' : (j : Int).tmod 6 = ((j % 6 : Nat) : Int) := by rw [Int.tmod_eq_emod_of_nonneg (by omega)]; exact t1
            have t2 : (8 : Int) + ((j % 6 : Nat) : Int) * 8 = (at' : Int) := by omega
            have t2' : (16 : Int) + ((j % 6 : Nat) : Int) * 8 = (et : Int) := by omega
            have t3 : (j : Int) / 6 = ((j / 6 : Nat) : Int) := by omega
            have t3' : (j : Int).tdiv 6 = ((j / 6 : Nat) : Int) := by rw [Int.tdiv_eq_ediv_of_nonneg (by omega)]; exact t3
            have t6 : et - at' = 8 := by omega
            have HV : Hid (asI (numB ((p.drop at').take 8)) = decV ps j) := by rw [Hid, decV_get hp, hat]
            have HNUM := Lib.hid (number_r (some ⟨g2, o2 + at', none⟩) 8 (cc - at') ((p.drop at').take 8) wr (r1.rd.part at' 8) (by rw [List.length_take, List.length_drop, hlp]; omega) (bytes_take (bytes_drop (HB.out p (List.mem_of_getElem? hp)) at') 8) (by omega))
            rw [HV.out] at HNUM
            have t4 : ¬ (cc = at') := by omega
            have t7 : at' ≤ et := by omega
            have t8 : et ≤ cc := by omega
            unfold maxLen at p4
            generalize j / 6 = pi at *
            generalize j % 6 = pj at *
            clear hp hlp r1 hat het
            go_wp2_with (fail)
            (with_reducible refine HNUM.out.mono ?_)
            rintro e w2 ⟨rfl, rfl⟩
            go_wp2_with (at_builtin; refine wpList_append_own _ rfl _ _ 35 rfl w.heap.size 3 i3 (.int .i64 0) 1 8 Try.underlying35 hi3 hz30 hz31 hz32 rfl (by omega) _ _ _ rfl (own_below HO.out ((Below.refl _ _).alloc (Nat.le_refl _) _)) ⟨wr.heap.size, 0, none⟩ 1 1 [.int .i64 (decV ps j)] rfl rfl (cell_one_new _ _ _) (by simp [Value.oneCell']) (by unfold maxLen; omega) (by omega) (by have := HBl.out.size; simp; omega) ?_)
            intro v' w8 hown8 hgrow8 _
            have HO8 : Hid (w8.ownsRow w.heap.size 3 1 v' (j + 1) (icells ((List.range (j + 1)).map (decV ps)))) := by
              rw [Hid, range_map_succ, icells, List.map_append]
              exact hown8
            have HB8 : Hid (Below w.heap.size w w8) := (HBl.out.alloc HBl.out.size _).grown hgrow8 (by have := HBl.out.size; simp; omega) (fun k hk => (HO.out.lt k hk).1)
            clear hown8 hgrow8
            go_wp2
            go_roundw
            case rel => exact ⟨j + 1, by omega, by go_num, HO8.out, HB8.out⟩
            case measure => simp [intOf]; omega
          · have hjn : j = n0 := by omega
            subst hjn
            obtain ⟨A', c', rfl, h1, h2, hr⟩ := own_read HO.out
            have HR := Lib.hid hr
            have HC := Lib.hid (And.intro h1 h2)
            have hF : ∀ b, (fun _ : Nat => False) b → b < wr.heap.size := fun b h => h.elim
            obtain ⟨vals, hvals⟩ : ∃ v, (List.range j).map (decV ps) = v := ⟨_, rfl⟩
            have hvl : vals.length = j := by rw [← hvals]; simp
            have hvr : ∀ x ∈ vals, I64 x := by rw [← hvals]; exact range_map_i64
            rw [hvals] at HD HR HO
            have HVL := Lib.hid hvl
            clear h1 h2 hr hvals
            by_cases he : encE s j = 0
            · have HE := Lib.hid (enc_ryes (fun _ => False) s A' j c' vals wr hF HR.out hvl he)
              rw [HPK.out] at HE
              have HEL : Hid ((encP s vals).length = k) := by rw [Hid, encP_length, HVL.out]; exact HPK.out
              have HEB : Hid (∀ p ∈ encP s vals, Bytes p) := fun p hp => (encP_ok (by rw [HVL.out]; omega) p hp).2
              have HEE := Lib.hid he
              clear hF hvl hvr he
              go_wp2_with (fail)
              (with_reducible refine HE.out.mono ?_)
              rintro e w3 ⟨A3, c3, rfl, h1, h2, hr3, hb3⟩
              have HR3 := Lib.hid hr3
              have HB3 : Hid (Below w.heap.size w w3) := HBl.out.trans (hb3.mono HBl.out.size)
              have HO3 := Lib.hid (own_below HO.out hb3)
              clear h1 h2 hr3 hb3
              go_wp2
              go_loopw [89] (fun i wr => ∃ t : Nat, t ≤ k ∧ i = .int .i64 t ∧ (encP s vals).take t = ps.take t ∧ ∃ q, wr = w3.drewN q) (fun i _ => k - (intOf i).toNat)
              case atStart => exact ⟨0, Nat.zero_le _, rfl, rfl, 0, rfl⟩
              case round =>
                obtain ⟨t, ht, rfl, htk, q3, hwr⟩ := hrel
                have HTK := Lib.hid htk
                have HAr : Hid (RdP X wr (some ⟨ba, off, none⟩) ps) := by rw [hwr]; exact (HA.out.below HB3.out).drew q3
                have HRr : Hid (RdP (fun _ => False) wr A3 (encP s vals)) := by rw [hwr]; exact HR3.out.drew q3
                have HBr : Hid (Below w3.heap.size w3 wr) := by rw [hwr]; exact Below.drewN (Below.refl _ _) _
                have HWR := Lib.hid hwr
                clear htk hwr
                by_cases hltt : t < k
                · obtain ⟨p, hp⟩ := getElem?_of_lt (l := ps) (k := t) (by rw [HN.out]; exact hltt)
                  obtain ⟨r, hr⟩ := getElem?_of_lt (l := encP s vals) (k := t) (by rw [HEL.out]; exact hltt)
                  obtain ⟨ba', off', Q, cc, eA, _, e2, p3, p4, r1⟩ := HAr.out.get hp
                  injection eA with eA
                  injection eA with eA1 eA2
                  subst eA1
                  subst eA2
                  obtain ⟨ba3, off3, Q3, cc3, rfl, _, e3, p5, p6, r3⟩ := HRr.out.get hr
                  have s1 : ∀ q, (convert 22 9 (.slice Q p.length cc)).run Try.prog (wr.drewN q) = .ok (.string (strOfNums p)) (wr.drewN q) := fun q => str_of (r1.rd.drew (Nat.le_refl _) q) rfl
                  have s2 : ∀ q, (convert 22 9 (.slice Q3 r.length cc3)).run Try.prog (wr.drewN q) = .ok (.string (strOfNums r)) (wr.drewN q) := fun q => str_of (r3.rd.drew (Nat.le_refl _) q) rfl
                  have hs := str_beq (HB.out p (List.mem_of_getElem? hp)) (HEB.out r (List.mem_of_getElem? hr))
                  have HP := Lib.hid hp
                  have HRR := Lib.hid hr
                  clear hp hr r1 r3 p3 p4 p5 p6
                  generalize p.length = lp at *
                  generalize r.length = lr at *
                  by_cases hpr : p = r
                  · rw [decide_eq_true hpr] at hs
                    have HST := Lib.hid (takeP_step HRR.out HP.out HTK.out hpr.symm)
                    clear hpr
                    go_wp2
                    go_quiet (fail)
                    go_wp2
                    go_roundw
                    case rel => exact ⟨t + 1, by omega, by go_num, HST.out, _, by rw [HWR.out, World.drewN_drewN]⟩
                    case measure => simp [intOf]; omega
                  · rw [decide_eq_false hpr] at hs
                    have HF : Hid (decP ps = (0, [], 2)) := by
                      rw [Hid, HD.out, if_pos]
                      right
                      intro e
                      rw [e, HP.out] at HRR
                      injection HRR.out with h
                      exact hpr h
                    clear hpr
                    go_wp2
                    go_quiet (fail)
                    go_wp2
                    go_ret3
                    rw [HF.out]
                    exact .none (HB3.out.trans ((Below.drewN HBr.out _).mono HB3.out.size))
                · obtain rfl : t = k := by omega
                  have HQ : Hid (encP s vals = ps) := by
                    have := HTK.out
                    rwa [List.take_of_length_le (by rw [HEL.out]; exact Nat.le_refl _), List.take_of_length_le (by rw [HN.out]; exact Nat.le_refl _)] at this
                  have HF : Hid (decP ps = (s, vals, 0)) := by
                    rw [Hid, HD.out, if_neg]
                    rintro (h | h)
                    · exact h HEE.out
                    · exact h HQ.out
                  go_wp2
                  go_ret3
                  rw [HF.out]
                  refine ⟨A', c', ?_, ?_, HB3.out.trans (HBr.out.mono HB3.out.size)⟩
                  · simp only [HVL.out]; rfl
                  · simp only [HVL.out]; exact own_below HO3.out HBr.out
            · have HE := Lib.hid (enc_rno s A' j c' wr (by omega) he)
              have HF : Hid (decP ps = (0, [], 2)) := by
                rw [Hid, HD.out, if_pos (.inl he)]
              clear hF hvl hvr he
              go_wp2_with (fail)
              (with_reducible refine HE.out.mono ?_)
              rintro e w3 ⟨rfl, rfl⟩
              go_wp2
              go_ret3
              rw [HF.out]
              exact .none HBl.out
end Go.Proofs.Ytjdknddnanopaaa
