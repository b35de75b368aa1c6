/-
  Params: Decode.
-/
import Derived.Test.YtfeceamhlphelaaW37
namespace Go.Proofs.Ytfeceamhlphelaa
open Go.RowKit
set_option linter.unusedVariables false
set_option pp.deepTerms true

theorem quiet_plus {P : Program} {f : FuncId} {args : Array Value} {w : World} {q n : Nat} {v : Value} (h : Calls P f args (w.drewN (q + n)) fun e w' => e = .returned v ∧ w' = w.drewN (q + n)) :
    Calls P f args (w.drewN (q + n)) fun e w'' => e = .returned v ∧ ∃ m, w'' = w.drewN (q + m) := h.mono fun _ _ ⟨a, b⟩ => ⟨a, n, b⟩
/-- What Decode returns. -/
def DecR (w : World) (d : Int × List Int × Int) (e : Ending) (w' : World) : Prop :=
  ∃ A c, e = .returned (.tuple #[.int .i64 d.1, .slice A d.2.1.length c, errV d.2.2]) ∧ w'.ownsRow w.heap.size 3 1 (.slice A d.2.1.length c) d.2.1.length (icells d.2.1) ∧ Below w.heap.size w w'
theorem DecR.none {w w' : World} {k : Int} {v : Value} (hv : v = errV k) (hb : Below w.heap.size w w') : DecR w (0, [], k) (.returned (.tuple #[.int .i64 0, .slice none 0 0, v])) w' :=
  ⟨Option.none, 0, by rw [hv]; rfl, World.ownsRow_nil .., hb⟩

theorem decP_len {ps : List (List Int)} (h : ps.length < 1 ∨ 8 < ps.length) : decP ps = (0, [], 11) := by unfold decP; rw [if_pos h]
theorem decP_sum {ps : List (List Int)} (h : ¬ (ps.length < 1 ∨ 8 < ps.length)) (hg : ps.all goodP = false) : decP ps = (0, [], 19) := by unfold decP; rw [if_neg h, if_pos hg]
theorem decP_form {ps : List (List Int)} {p0 : List Int} {n : Nat} (h : ¬ (ps.length < 1 ∨ 8 < ps.length)) (hg : ps.all goodP = true) (h0 : ps[0]? = some p0) (h1 : p0[1]? = some (n : Int)) (hn : n < 1 ∨ 48 < n ∨ pgs n ≠ ps.length) : decP ps = (0, [], 2) := by
  unfold decP
  rw [if_neg h, if_neg (by rw [hg]; decide), h0]
  simp only [Option.getD_some, h1, Int.toNat_natCast]
  rw [if_pos (by omega)]
theorem decP_end {ps : List (List Int)} {p0 : List Int} {n : Nat} (h : ¬ (ps.length < 1 ∨ 8 < ps.length)) (hg : ps.all goodP = true) (h0 : ps[0]? = some p0) (h1 : p0[1]? = some (n : Int)) (hn : ¬ (n < 1 ∨ 48 < n ∨ pgs n ≠ ps.length)) :
    decP ps = if encE (asI (numB ((p0.drop 2).take 6))) n ≠ 0 ∨ encP (asI (numB ((p0.drop 2).take 6))) ((List.range n).map (decV ps)) ≠ ps then (0, [], 2) else (asI (numB ((p0.drop 2).take 6)), (List.range n).map (decV ps), 0) := by
  unfold decP
  rw [if_neg h, if_neg (by rw [hg]; decide), h0]
  simp only [Option.getD_some, h1, Int.toNat_natCast, List.length_map, List.length_range]
  rw [if_neg (by omega)]
theorem all_step {ps : List (List Int)} {k : Nat} {p : List Int} (hp : ps[k]? = some p) (h : (ps.take k).all goodP = true) (hg : goodP p = true) : (ps.take (k + 1)).all goodP = true := by
  rw [take_snoc_get ps k p hp, List.all_append, h, Bool.true_and]
  simp [hg]
theorem all_not {ps : List (List Int)} {k : Nat} {p : List Int} (hp : ps[k]? = some p) (hg : goodP p = false) : ps.all goodP = false := by
  rw [List.all_eq_false]
  exact ⟨p, List.mem_of_getElem? hp, by rw [hg]; decide⟩
theorem goodP_len {p : List Int} (h : goodP p = true) : p.length = 64 := by
  unfold goodP at h
  rw [decide_eq_true_eq] at h
  exact h.1
theorem range_map_succ {f : Nat → Int} (k : Nat) : (List.range (k + 1)).map f = (List.range k).map f ++ [f k] := by
  rw [List.range_succ, List.map_append]
  rfl
theorem decV_get {ps : List (List Int)} {i : Nat} {p : List Int} (hp : ps[i / 6]? = some p) : decV ps i = asI (numB ((p.drop (8 + 8 * (i % 6))).take 8)) := by
  unfold decV
  rw [hp]
  rfl
theorem range_map_i64 {ps : List (List Int)} {n : Nat} : ∀ x ∈ (List.range n).map (decV ps), I64 x := by
  intro x hx
  rw [List.mem_map] at hx
  obtain ⟨i, _, rfl⟩ := hx
  exact decV_range _ _

set_option maxRecDepth 100000 in
set_option maxHeartbeats 8000000 in
theorem decode_any {X : Nat → Prop} (A : Option Addr) (n c : Nat) (ps : List (List Int)) (w : World) (hA : RdP X w A ps) (hn : ps.length = n) (hnc : n ≤ c) (hcm : c ≤ maxLen) (hb : ∀ p ∈ ps, Bytes p) :
    Calls Try.prog 49 #[.slice A n c] w (DecR w (decP ps)) := by
  unfold maxLen at hcm
  have g1 := ne_nil
  have g2 := ne_err
  have HW1 := Lib.hid (fun w => within51 n 1 8 w)
  by_cases hl : ps.length < 1 ∨ 8 < ps.length
  · have HD := Lib.hid (decP_len hl)
    rw [decide_eq_false (show ¬ (1 ≤ (n : Int) ∧ (n : Int) ≤ 8) by omega)] at HW1
    clear hA hn hb hl
    go_enter Try.func49, Try.ntmps49
    go_wp2_with (fail)
    (with_reducible refine (HW1.out w).mono ?_)
    rintro e w1 ⟨rfl, rfl⟩
    go_wp2
    go_ret3
    rw [HD.out]
    exact .none rfl (Below.refl _ _)
  rw [decide_eq_true (show 1 ≤ (n : Int) ∧ (n : Int) ≤ 8 by omega)] at HW1
  have n1 : 1 ≤ n := by omega
  have n8 : n ≤ 8 := by omega
  have HL := Lib.hid hl
  have HA := Lib.hid hA
  have HN := Lib.hid hn
  have HB := Lib.hid hb
  clear hA hn hb hl
  go_enter Try.func49, Try.ntmps49
  go_wp2_with (fail)
  (with_reducible refine (HW1.out w).mono ?_)
  rintro e w1 ⟨rfl, rfl⟩
  go_wp2
  go_loopw [3, 20] (fun v i wr => ∃ k : Nat, k ≤ n ∧ i = .int .i64 k ∧ v = .slice none 0 0 ∧ (ps.take k).all goodP = true ∧ ∃ q, wr = w.drewN q) (fun _ i _ => n - (intOf i).toNat)
  case atStart => exact ⟨0, Nat.zero_le _, rfl, rfl, rfl, 0, rfl⟩
  case round =>
    obtain ⟨k, hk, rfl, rfl, ht, q, rfl⟩ := hrel
    have HT := Lib.hid ht
    clear ht
    by_cases hlt : k < n
    · obtain ⟨p, hp⟩ := getElem?_of_lt (l := ps) (k := k) (by rw [HN.out]; exact hlt)
      obtain ⟨ba, off, Q, cc, rfl, _, e1, p1, p2, r1⟩ := (HA.out.drew q).get hp
      have HG := Lib.hid (good_any Q p.length cc p (w.drewN q) r1.rd rfl p1 p2 (HB.out p (List.mem_of_getElem? hp)))
      have HP := Lib.hid hp
      have HGP : Hid (goodP p = goodP p) := rfl
      generalize p.length = lp at *
      clear hp r1 p1 p2
      by_cases hg : goodP p = true
      · rw [hg] at HG
        have HS := Lib.hid (all_step HP.out HT.out hg)
        clear hg
        go_wp2_with (fail)
        (with_reducible refine HG.out.mono ?_)
        rintro e w2 ⟨rfl, q2, rfl⟩
        go_wp2
        go_roundw
        case rel => exact ⟨k + 1, by omega, by go_num, by first | rfl | trivial, HS.out, _, rfl⟩
        case measure => simp [intOf]; omega
      · have hg' : goodP p = false := by simpa using hg
        rw [hg'] at HG
        have HD := Lib.hid (decP_sum HL.out (all_not HP.out hg'))
        clear hg hg'
        go_wp2_with (fail)
        (with_reducible refine HG.out.mono ?_)
        rintro e w2 ⟨rfl, q2, rfl⟩
        go_wp2
        go_ret3
        rw [HD.out]
        exact .none rfl (Below.drewN (Below.refl _ _) _)
    · have hkn : k = n := by omega
      subst hkn
      have hall : ps.all goodP = true := by
        have := HT.out
        rwa [List.take_of_length_le (by rw [HN.out]; exact Nat.le_refl _)] at this
      obtain ⟨p0, hp0⟩ := getElem?_of_lt (l := ps) (k := 0) (by rw [HN.out]; omega)
      have hl0 : p0.length = 64 := goodP_len (List.all_eq_true.1 hall p0 (List.mem_of_getElem? hp0))
      obtain ⟨x1, hx1⟩ := getElem?_of_lt (l := p0) (k := 1) (by omega)
      have hxb := HB.out p0 (List.mem_of_getElem? hp0) x1 (List.mem_of_getElem? hx1)
      obtain ⟨n0, rfl⟩ := Int.eq_ofNat_of_zero_le hxb.1
      obtain ⟨ba, off, Q0, c0, rfl, hbA, e0, p1, p2, r0⟩ := HA.out.get hp0
      rw [hl0] at e0 p1
      rw [Nat.add_zero] at e0
      obtain ⟨g, o, rfl, hgl, e1⟩ := r0.rd.kint hx1
      have H84 : Hid (∀ q2, Calls Try.prog 84 #[.slice (some ⟨g, o + 2, none⟩) 6 (c0 - 2)] (w.drewN q2) fun e w' => e = .returned (.int .u64 (numB ((p0.drop 2).take 6))) ∧ w' = w.drewN q2) :=
        fun q2 => number_q (r0.rd.part 2 6) (by rw [List.length_take, List.length_drop, hl0]; rfl) (bytes_take (bytes_drop (HB.out p0 (List.mem_of_getElem? hp0)) 2) 6) (by omega)
      have HALL := Lib.hid hall
      have HP0 := Lib.hid hp0
      have HX1 := Lib.hid hx1
      have n256 : n0 < 256 := by omega
      have HW2 := Lib.hid (fun w => within51 n0 1 48 w)
      have HASI : Hid (IntKind.i64.wrap (numB ((p0.drop 2).take 6)) = asI (numB ((p0.drop 2).take 6))) := rfl
      obtain ⟨s0, hs0⟩ : ∃ s, numB ((p0.drop 2).take 6) = s := ⟨_, rfl⟩
      have HS0 := Lib.hid hs0
      rw [hs0] at H84 HASI
      obtain ⟨s, hs⟩ : ∃ t, asI s0 = t := ⟨_, rfl⟩
      rw [hs] at HASI
      have hw0 : IntKind.i64.wrap s0 = s := HASI.out
      have HSS : Hid (asI (numB ((p0.drop 2).take 6)) = s) := by rw [Hid, HS0.out]; exact hs
      unfold maxLen at p2
      clear hall hp0 hl0 hx1 hxb r0 hs0 hs
      have k0 : 0 < k := by omega
      go_wp2
      have q0 : (8 : Int) ≤ (c0 : Int) := by omega
      have q9 : ¬ (c0 = 2) := by omega
      have hw1 : IntKind.i64.wrap (n0 : Int) = n0 := IntWalk.i64_in _ (by omega)
      go_quiet ((go_at_call 84; with_reducible exact quiet_plus (H84.out _)))
      clear hw0 hw1 q0 q9 e1
      by_cases hf : n0 < 1 ∨ 48 < n0 ∨ pgs n0 ≠ k
      · have HD := Lib.hid (decP_form HL.out HALL.out HP0.out HX1.out (by rw [HN.out]; exact hf))
        by_cases h48 : 1 ≤ n0 ∧ n0 ≤ 48
        · have HPG := Lib.hid (fun w => pgs_any n0 (by omega) w)
          have hne : ((pgs n0 : Nat) : Int) != (k : Int) := by simp; omega
          rw [decide_eq_true (show 1 ≤ (n0 : Int) ∧ (n0 : Int) ≤ 48 by omega)] at HW2
          generalize pgs n0 = P at *
          clear hf h48
          go_wp2_with (fail)
          (with_reducible refine (HW2.out _).mono ?_)
          rintro e w1 ⟨rfl, rfl⟩
          go_wp2_with (fail)
          (with_reducible refine (HPG.out _).mono ?_)
          rintro e w1 ⟨rfl, rfl⟩
          go_wp2
          go_ret3
          rw [HD.out]
          exact .none rfl (Below.drewN (Below.refl _ _) _)
        · rw [decide_eq_false (show ¬ (1 ≤ (n0 : Int) ∧ (n0 : Int) ≤ 48) by omega)] at HW2
          clear hf h48
          go_wp2_with (fail)
          (with_reducible refine (HW2.out _).mono ?_)
          rintro e w1 ⟨rfl, rfl⟩
          go_wp2
          go_ret3
          rw [HD.out]
          exact .none rfl (Below.drewN (Below.refl _ _) _)
      · have HD := Lib.hid (decP_end HL.out HALL.out HP0.out HX1.out (by rw [HN.out]; exact hf))
        rw [HSS.out] at HD
        have m1 : 1 ≤ n0 := by omega
        have m48 : n0 ≤ 48 := by omega
        have hpk : pgs n0 = k := by omega
        have HPG := Lib.hid (fun w => pgs_any n0 (by omega) w)
        rw [decide_eq_true (show 1 ≤ (n0 : Int) ∧ (n0 : Int) ≤ 48 by omega)] at HW2
        rw [hpk] at HPG
        have HPK := Lib.hid hpk
        have hne : ((k : Int) != (k : Int)) = false := by simp
        obtain ⟨wq, hwq⟩ : ∃ v, (w.drewN q).drewN nq = v := ⟨_, rfl⟩
        have HBQ : Hid (Below w.heap.size w wq) := by rw [← hwq, World.drewN_drewN]; exact Below.drewN (Below.refl _ _) _
        rw [hwq]
        clear hf hpk hwq
        go_wp2_with (fail)
        (with_reducible refine (HW2.out _).mono ?_)
        rintro e w1 ⟨rfl, rfl⟩
        go_wp2_with (fail)
        (with_reducible refine (HPG.out _).mono ?_)
        rintro e w1 ⟨rfl, rfl⟩
        obtain ⟨i3, hi3, hz30, hz31, hz32⟩ := info_parts info3
        go_wp2
        go_loopw [3, 53] (fun v i wr => ∃ j : Nat, j ≤ n0 ∧ i = .int .i64 j ∧ wr.ownsRow w.heap.size 3 1 v j (icells ((List.range j).map (decV ps))) ∧ Below w.heap.size w wr) (fun _ i _ => n0 - (intOf i).toNat)
        case atStart => exact ⟨0, Nat.zero_le _, rfl, World.ownsRow_nil _ _ _ _, HBQ.out⟩
        case round =>
          obtain ⟨j, hj, rfl, hO, hBl⟩ := hrel
          have HO := Lib.hid hO
          have HBl := Lib.hid hBl
          clear hO hBl
          by_cases hltj : j < n0
          · have hpi : j / 6 < k := by have := HPK.out; unfold pgs at this; omega
            obtain ⟨p, hp⟩ := getElem?_of_lt (l := ps) (k := j / 6) (by rw [HN.out]; exact hpi)
            have hlp : p.length = 64 := goodP_len (List.all_eq_true.1 HALL.out p (List.mem_of_getElem? hp))
            obtain ⟨ba', off', Q, cc, eA, _, e2, p3, p4, r1⟩ := (HA.out.below HBl.out).get hp
            injection eA with eA
            injection eA with eA1 eA2
            subst eA1
            subst eA2
            rw [hlp] at e2 p3
            obtain ⟨g2, o2, rfl⟩ : ∃ g2 o2, Q = some ⟨g2, o2, none⟩ := by
              obtain ⟨x, hx⟩ := getElem?_of_lt (l := p) (k := 0) (by omega)
              obtain ⟨b', o', e, _⟩ := r1.rd.kint hx
              exact ⟨b', o', e⟩
            obtain ⟨at', hat⟩ : ∃ a, 8 + 8 * (j % 6) = a := ⟨_, rfl⟩
            have ha56 : at' + 8 ≤ 64 := by omega
            have t1 : (j : Int) % 6 = ((j % 6 : Nat) : Int) := by omega
            have t2 : (8 : Int) + 8 * ((j % 6 : Nat) : Int) = (at' : Int) := by omega
            have t3 : (j : Int) / 6 = ((j / 6 : Nat) : Int) := by omega
            have HV : Hid (asI (numB ((p.drop at').take 8)) = decV ps j) := by rw [Hid, decV_get hp, hat]
            have HNUM := Lib.hid (number_any (some ⟨g2, o2 + at', none⟩) 8 (cc - at') ((p.drop at').take 8) wr (r1.rd.part at' 8) (by rw [List.length_take, List.length_drop, hlp]; omega) (bytes_take (bytes_drop (HB.out p (List.mem_of_getElem? hp)) at') 8) (by omega))
            obtain ⟨N, hN⟩ : ∃ N, numB ((p.drop at').take 8) = N := ⟨_, rfl⟩
            rw [hN] at HV HNUM
            have t4 : ¬ (cc = at') := by omega
            unfold maxLen at p4
            generalize j / 6 = pi at *
            generalize j % 6 = pj at *
            clear hp hlp r1 hN hat
            go_wp2_with (fail)
            (with_reducible refine HNUM.out.mono ?_)
            rintro e w2 ⟨rfl, rfl⟩
            have t5 : IntKind.i64.wrap N = decV ps j := HV.out
            go_wp2_with (at_builtin; refine wpList_append_own _ rfl _ _ 44 rfl w.heap.size 3 i3 (.int .i64 0) 1 8 Try.underlying44 hi3 hz30 hz31 hz32 rfl (by omega) _ _ _ rfl (own_below HO.out ((Below.refl _ _).alloc (Nat.le_refl _) _)) ⟨wr.heap.size, 0, none⟩ 1 1 [.int .i64 (decV ps j)] rfl rfl (cell_one_new _ _ _) (by simp [Value.oneCell']) (by unfold maxLen; omega) (by omega) (by have := HBl.out.size; simp; omega) ?_)
            intro v' w8 hown8 hgrow8 _
            have HO8 : Hid (w8.ownsRow w.heap.size 3 1 v' (j + 1) (icells ((List.range (j + 1)).map (decV ps)))) := by
              rw [Hid, range_map_succ, icells, List.map_append]
              exact hown8
            have HB8 : Hid (Below w.heap.size w w8) := (HBl.out.alloc HBl.out.size _).grown hgrow8 (by have := HBl.out.size; simp; omega) (fun k hk => (HO.out.lt k hk).1)
            clear hown8 hgrow8 t5
            go_wp2
            go_roundw
            case rel => exact ⟨j + 1, by omega, by go_num, HO8.out, HB8.out⟩
            case measure => simp [intOf]; omega
          · have hjn : j = n0 := by omega
            subst hjn
            obtain ⟨A', c', rfl, h1, h2, hr⟩ := own_read HO.out
            have HR := Lib.hid hr
            have HC := Lib.hid (And.intro h1 h2)
            have hF : ∀ b, (fun _ : Nat => False) b → b < wr.heap.size := fun b h => h.elim
            obtain ⟨vals, hvals⟩ : ∃ v, (List.range j).map (decV ps) = v := ⟨_, rfl⟩
            have hvl : vals.length = j := by rw [← hvals]; simp
            have hvr : ∀ x ∈ vals, I64 x := by rw [← hvals]; exact range_map_i64
            rw [hvals] at HD HR HO
            have HVL := Lib.hid hvl
            clear h1 h2 hr hvals
            by_cases he : encE s j = 0
            · have HE := Lib.hid (enc_yes (fun _ => False) s A' j c' vals wr hF HR.out hvl HC.out.1 HC.out.2 hvr he)
              rw [HPK.out] at HE
              have HEL : Hid ((encP s vals).length = k) := by rw [Hid, encP_length, HVL.out]; exact HPK.out
              have HEB : Hid (∀ p ∈ encP s vals, Bytes p) := fun p hp => (encP_ok (by rw [HVL.out]; omega) p hp).2
              clear hF hvl hvr
              go_wp2_with (fail)
              (with_reducible refine HE.out.mono ?_)
              rintro e w3 ⟨A3, c3, rfl, h1, h2, hr3, hb3⟩
              have HR3 := Lib.hid hr3
              have HB3 : Hid (Below w.heap.size w w3) := HBl.out.trans (hb3.mono HBl.out.size)
              have HO3 := Lib.hid (own_below HO.out hb3)
              have HQ := Lib.hid (eqfunc_any A3 (some ⟨ba, off, none⟩) k k c3 c (encP s vals) ps w3 HR3.out (HA.out.below HB3.out) HEL.out HN.out HEB.out HB.out (by unfold maxLen; omega) (by unfold maxLen; omega))
              clear h1 h2 hr3 hb3
              by_cases hq : encP s vals = ps
              · rw [decide_eq_true hq] at HQ
                have HF : Hid (decP ps = (s, vals, 0)) := by
                  rw [Hid, HD.out, if_neg]
                  rintro (h | h)
                  · exact h he
                  · exact h hq
                clear hq he
                go_wp2_with (fail)
                (with_reducible refine HQ.out.mono ?_)
                rintro e w4 ⟨rfl, rfl⟩
                go_wp2
                go_ret3
                rw [HF.out]
                refine ⟨A', c', ?_, ?_, HB3.out⟩
                · simp only [HVL.out]; rfl
                · simp only [HVL.out]; exact HO3.out
              · rw [decide_eq_false hq] at HQ
                have HF : Hid (decP ps = (0, [], 2)) := by
                  rw [Hid, HD.out, if_pos (.inr hq)]
                clear hq he
                go_wp2_with (fail)
                (with_reducible refine HQ.out.mono ?_)
                rintro e w4 ⟨rfl, rfl⟩
                go_wp2
                go_ret3
                rw [HF.out]
                exact .none rfl HB3.out
            · have HE := Lib.hid (enc_no s A' j c' wr (by omega) he)
              have HF : Hid (decP ps = (0, [], 2)) := by
                rw [Hid, HD.out, if_pos (.inl he)]
              clear hF hvl hvr he
              go_wp2_with (fail)
              (with_reducible refine HE.out.mono ?_)
              rintro e w3 ⟨rfl, rfl⟩
              go_wp2
              go_ret3
              rw [HF.out]
              exact .none rfl HBl.out
end Go.Proofs.Ytfeceamhlphelaa
