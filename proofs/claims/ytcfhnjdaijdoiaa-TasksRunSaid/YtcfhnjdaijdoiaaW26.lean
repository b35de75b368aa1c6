/-
  The reference's run.
-/
import Derived.Test.YtcfhnjdaijdoiaaW21
import Derived.Test.YtcfhnjdaijdoiaaPlain16
import Derived.Test.YtcfhnjdaijdoiaaMem8
namespace Go.Proofs.Ytcfhnjdaijdoiaa
open Go.RowKit
set_option linter.unusedVariables false

theorem cells_new_at (w : World) (cs : Array Value) (t : TypeId) (xs : List Value) (g : Nat) (hg : g = w.heap.size) (h : cs.toList = xs) :
    ∀ j u, xs[j]? = some u → (w.alloc (.cells cs t)).cell? ((⟨g, 0, none⟩ : Addr).add j) = some u := by
  subst hg; exact cells_new w cs t xs h

set_option maxRecDepth 100000 in
set_option maxHeartbeats 8000000 in
theorem refRun_any (A : Option Addr) (n c T : Nat) (l : List Tsk) (w : World) (hA : Rd w w.heap.size A (tcells l)) (hn : l.length = n) (hk : check l = 0) (hu : T ≤ 65536) :
    Calls Try.prog 52 #[.slice A n c, .int .i64 T] w (SimEnd l T w) := by
  obtain ⟨hg, hn8⟩ := good_of_check hk
  rw [hn] at hn8
  have HG := Lib.hid hg
  have HA := Lib.hid hA
  have HN := Lib.hid hn
  have HK := Lib.hid hk
  obtain ⟨i4, hi4, hz40, hz41, hz42⟩ := info_parts info40
  obtain ⟨i3, hi3, hz30, hz31, hz32⟩ := info_parts info3
  clear hk hg hA hn
  go_enter Try.func52, Try.ntmps52
  go_wp2
  go_loopw [6, 7, 8, 16] (fun o j f i wr => ∃ t : Nat, t ≤ T ∧ i = .int .i64 t ∧ RS w wr (refTo l t).1 j (refTo l t).2.1 f (refTo l t).2.2 o) (fun _ _ _ i _ => T - (intOf i).toNat)
  case atStart => exact ⟨0, Nat.zero_le _, rfl, RS.start w⟩
  case round =>
    obtain ⟨t, ht, rfl, hS⟩ := hrel
    by_cases htT : t < T
    · obtain ⟨s, HSX⟩ : ∃ s, Hid (refTo l t = s) := ⟨_, Lib.hid rfl⟩
      have HMID : Hid (∀ k, k ≤ n → RMid l (8 * t + 8) (rrel l t ((refTo l t).1, (refTo l t).2.1) k).1 (rrel l t ((refTo l t).1, (refTo l t).2.1) k).2) := fun k hk => ref_mid HK.out t k (by rw [HN.out]; exact hk)
      have HOL : Hid ((refTo l t).2.2.length = t) := by
        show _ = _
        rw [(ref_eq HK.out t).1]
        exact sim_out_length l t
      rw [HSX.out] at hS HMID HOL
      obtain ⟨js, lf, os⟩ := s
      simp only at hS HMID HOL
      have HS4 := Lib.hid hS
      clear hS
      go_wp2
      obtain ⟨wo, rfl⟩ : ∃ wo : World, wo = wr := ⟨_, rfl⟩
      go_loopw [7, 8, 21] (fun j f i wr => ∃ m : Nat, m ≤ n ∧ i = .int .i64 m ∧ RS w wr (rrel l t (js, lf) m).1 j (rrel l t (js, lf) m).2 f os u6) (fun _ _ i _ => n - (intOf i).toNat)
      case atStart => exact ⟨0, Nat.zero_le _, rfl, HS4.out⟩
      case round =>
        obtain ⟨m, hm, rfl, hS⟩ := hrel
        by_cases hlt : m < n
        · obtain ⟨x, hx⟩ := getElem?_of_lt (l := l) (k := m) (by rw [HN.out]; exact hlt)
          have hstep := rrel_step (t := t) (s := (js, lf)) hx
          have hmid := HMID.out m hm
          obtain ⟨rp, HRP⟩ : ∃ rp, Hid (rrel l t (js, lf) m = rp) := ⟨_, Lib.hid rfl⟩
          rw [HRP.out] at hS hstep hmid
          obtain ⟨ja, la⟩ := rp
          simp only at hS hstep hmid
          have hb := HG.out x (List.mem_of_getElem? hx)
          simp only [Tsk.bad, not_or, Int.not_lt] at hb
          obtain ⟨hb1, hb2, hb3, hb4, hb5, hb6, hb7⟩ := hb
          obtain ⟨b, off, rfl, hbl, c0, c1, c2, c3, c4⟩ := (HA.out.below hS.below (Nat.le_refl _)).tsk hx
          have hlen := hmid.len
          have hfew := hmid.few
          have HS5 := Lib.hid hS
          have HST := Lib.hid hstep
          have hs : w.heap.size ≤ wr.heap.size := hS.below.size
          clear hS hstep hx hmid
          by_cases hd : due t x
          · have HR2 : Hid (rrel l t (js, lf) (m + 1) = (ja ++ [⟨m, t, -1, -1⟩], la ++ [x.c])) := by
              have := HST.out
              rw [if_pos hd] at this
              exact this
            have hd1 : decide (x.o ≤ (t : Int)) = true := by simp [hd.1]
            have hd2 : (((t : Int) - x.o) % x.p == 0) = true := by rw [hd.2]; rfl
            have hd3 : (((t : Int) - x.o).tmod x.p == 0) = true := by rw [mod_test _ _ _ (by have := hd.1; omega), hd.2]; rfl
            clear HST
            go_wp2_with (at_builtin; go_loud (refine wpList_append_own _ rfl _ _ 36 rfl w.heap.size 40 i4 _ 4 32 Try.underlying36 hi4 hz40 hz41 hz42 rfl (by omega) _ _ _ rfl ((HS5.out.jobs_.alloc _).alloc _) _ 1 1 (Jb.cells ⟨m, t, -1, -1⟩) rfl rfl (cells_new_at _ _ _ _ _ (by simp) rfl) (jb_one _) ?c3 ?c4 ?c5 ?_))
            case c3 => unfold maxLen; omega
            case c4 => omega
            case c5 => omega
            intro v' w3 hown3 hgrow3 _
            have HS7 : Hid (RS w w3 (ja ++ [⟨m, t, -1, -1⟩]) v' la u8 os u6) := Lib.hid (((HS5.out.alloc _).alloc _).addJob hgrow3 hown3)
            have e2' : w3.cell? ⟨wr.heap.size, 2, none⟩ = some (.int .i64 x.c) := by
              refine hgrow3.cell ?_ (fun e => by have := (HS5.out.jobs_.lt _ e.symm).2; simp at this)
              rw [World.cell?_alloc_old _ _ _ (by simp)]
              simp
            have hs3 : wr.heap.size < w3.heap.size := World.block_lt_of_cell? w3 _ e2'
            clear hown3 hgrow3 HS5 c0 c1 c2 c3 c4
            go_wp2_with (at_builtin; refine wpList_append_own_at _ rfl _ _ 29 rfl w.heap.size 3 i3 (.int .i64 0) 1 8 Try.underlying29 hi3 hz30 hz31 hz32 rfl (by omega) _ _ _ rfl (HS7.out.left_.alloc _) ⟨w3.heap.size, 0, none⟩ 1 1 [.int .i64 x.c] rfl rfl ?c1 ?c2 ?c3 ?c4 ?c5 ?_)
            case c1 => exact cell_one_new _ _ _
            case c2 => simp [Value.oneCell']
            case c3 => unfold maxLen; omega
            case c4 => omega
            case c5 => first | omega | (simp; omega)
            intro v2 w4 hown4 hgrow4 _ hat
            have HS8 : Hid (RS w w4 (ja ++ [⟨m, t, -1, -1⟩]) v' (la ++ [x.c]) v2 os u6) := Lib.hid ((HS7.out.alloc _).addLeft hgrow4 (by rw [hlen]; exact hown4) (by simpa using hat))
            clear hown4 hgrow4 HS7 hat e2'
            go_wp2
            go_roundw
            case rel => exact ⟨m + 1, by omega, by go_num, by rw [HR2.out]; exact HS8.out⟩
            case measure => simp [intOf]; omega
          · have HR2 : Hid (rrel l t (js, lf) (m + 1) = (ja, la)) := by
              have := HST.out
              rw [if_neg hd] at this
              exact this
            clear HST
            by_cases hto : x.o ≤ (t : Int)
            · have hd1 : decide (x.o ≤ (t : Int)) = true := by simp [hto]
              have hd2 : (((t : Int) - x.o) % x.p == 0) = false := by
                simp only [beq_eq_false_iff_ne]
                exact fun e => hd ⟨hto, e⟩
              have hd3 : (((t : Int) - x.o).tmod x.p == 0) = false := by rw [mod_test _ _ _ (by omega)]; exact hd2
              go_wp2
              go_roundw
              case rel => exact ⟨m + 1, by omega, by go_num, by rw [HR2.out]; exact HS5.out.alloc _⟩
              case measure => simp [intOf]; omega
            · have hd1 : decide (x.o ≤ (t : Int)) = false := by simp; omega
              go_wp2
              go_roundw
              case rel => exact ⟨m + 1, by omega, by go_num, by rw [HR2.out]; exact HS5.out.alloc _⟩
              case measure => simp [intOf]; omega
        · have hmn : m = n := by omega
          subst hmn
          have hmid := HMID.out m hm
          obtain ⟨rp, HRP⟩ : ∃ rp, Hid (rrel l t (js, lf) m = rp) := ⟨_, Lib.hid rfl⟩
          rw [HRP.out] at hS hmid
          obtain ⟨ja, la⟩ := rp
          simp only at hS hmid
          have HM := Lib.hid hmid
          have hlen := hmid.len
          have hfew := hmid.few
          have HS5 := Lib.hid hS
          clear hS hmid HMID HS4
          obtain ⟨N, hN⟩ : ∃ N, ja.length = N := ⟨_, rfl⟩
          obtain ⟨Aj, cj, rfl, hj1, hj2, _⟩ := own_form HS5.out.jobs_
          obtain ⟨Al, cl, rfl, hl1, hl2, _⟩ := own_form HS5.out.left_
          rw [hN] at hlen hfew hj1
          rw [hlen] at hl1
          have HS6 : Hid (RS w wr ja (.slice Aj N cj) la (.slice Al N cl) os u6) := by
            have := HS5.out
            rw [hN, hlen] at this
            exact this
          have HNJ := Lib.hid hN
          have HNL := Lib.hid hlen
          rw [hN, hlen]
          clear HS5 hN hlen
          go_wp2
          obtain ⟨wi, rfl⟩ : ∃ wi : World, wi = wr := ⟨_, rfl⟩
          go_loopw [12, 54] (fun a i wr => ∃ m2 : Nat, m2 ≤ N ∧ i = .int .i64 m2 ∧ a = .int .i64 (rpick l ja la m2) ∧ RS w wr ja (.slice Aj N cj) la (.slice Al N cl) os u6) (fun _ i _ => N - (intOf i).toNat)
          case atStart => exact ⟨0, Nat.zero_le _, rfl, rfl, HS6.out⟩
          case round =>
            obtain ⟨m2, hm2, rfl, hr, hS⟩ := hrel
            have hpr := rpick_range l ja la m2
            obtain ⟨pm, HPM⟩ : ∃ pm, Hid (rpick l ja la m2 = pm) := ⟨_, Lib.hid rfl⟩
            rw [HPM.out] at hr hpr
            subst hr
            clear HS6
            by_cases hlt : m2 < N
            · obtain ⟨jb, hjb⟩ := getElem?_of_lt (l := ja) (k := m2) (by rw [HNJ.out]; exact hlt)
              obtain ⟨f, hf⟩ := getElem?_of_lt (l := la) (k := m2) (by rw [HNL.out]; exact hlt)
              have hps := rpick_step (l := l) hjb hf
              rw [HPM.out] at hps
              have HPS := Lib.hid hps
              obtain ⟨i, x, hi, hx⟩ := HM.out.job m2 jb hjb
              have hin : i < m := by rw [← HN.out]; exact (List.getElem?_eq_some_iff.1 hx).1
              have hfb := HM.out.left m2 f hf
              have HPJ : Hid (prio l jb = x.q) := prio_at hi hx
              obtain ⟨bj, cj', e, j0, j1, j2, j3, _, _⟩ := hS.job hjb
              simp only [Value.slice.injEq] at e
              obtain ⟨rfl, -, -⟩ := e
              rw [hi] at j0
              have HS7 := Lib.hid hS
              have HJ := Lib.hid hjb
              have HF := Lib.hid hf
              have HX := Lib.hid hx
              clear hS hjb hf hx hps
              have hs7 := HS7.out.below.size
              go_wp2
              have e0 : (wr.alloc (.cells #[.int .i64 i, .int .i64 jb.rel, .int .i64 jb.st, .int .i64 jb.fin] 40)).cell? ⟨wr.heap.size, 0, none⟩ = some (.int .i64 i) := by simp
              have HS8 := Lib.hid (HS7.out.alloc (.cells #[.int .i64 i, .int .i64 jb.rel, .int .i64 jb.st, .int .i64 jb.fin] 40))
              generalize wr.alloc (.cells #[.int .i64 i, .int .i64 jb.rel, .int .i64 jb.st, .int .i64 jb.fin] 40) = W1 at *
              obtain ⟨bl, cl', e, l0, _, _⟩ := HS8.out.leftc HF.out
              simp only [Value.slice.injEq] at e
              obtain ⟨rfl, -, -⟩ := e
              clear j0 j1 j2 j3 HS7
              by_cases hf0 : 0 < f
              · have df : decide (0 < f) = true := by simp [hf0]
                by_cases hp : pm < 0
                · have HE : Hid (rpick l ja la (m2 + 1) = m2) := by rw [HPS.out, if_pos ⟨hf0, .inl hp⟩]; exact rfl
                  have hp1 : decide (pm < 0) = true := by simp [hp]
                  clear HPS
                  go_quiet (fail)
                  go_wp2
                  go_roundw
                  case rel => exact ⟨m2 + 1, by omega, by go_num, by rw [HE.out], HS8.out.drewN _⟩
                  case measure => simp [intOf]; omega
                · have hp1 : decide (pm < 0) = false := by simp; omega
                  obtain ⟨pn, rfl⟩ : ∃ x : Nat, pm = x := ⟨pm.toNat, by omega⟩
                  have hpk : pn < N := by omega
                  obtain ⟨y, hy⟩ := getElem?_of_lt (l := ja) (k := pn) (by rw [HNJ.out]; exact hpk)
                  obtain ⟨i', x', hi', hx'⟩ := HM.out.job pn y hy
                  have hin' : i' < m := by rw [← HN.out]; exact (List.getElem?_eq_some_iff.1 hx').1
                  have HPY : Hid (prio l y = x'.q) := prio_at hi' hx'
                  obtain ⟨bj', cj', e, k0, _, _, _, _, _⟩ := HS8.out.job hy
                  simp only [Value.slice.injEq, Option.some.injEq, Addr.mk.injEq] at e
                  obtain ⟨⟨rfl, -, -⟩, -, -⟩ := e
                  rw [hi'] at k0
                  have HY := Lib.hid hy
                  obtain ⟨b, off, rfl, hbl, _, _, _, _, t4⟩ := (HA.out.below HS8.out.below (Nat.le_refl _)).tsk HX.out
                  obtain ⟨b2, off2, e, _, _, _, _, _, t4'⟩ := (HA.out.below HS8.out.below (Nat.le_refl _)).tsk hx'
                  simp only [Option.some.injEq, Addr.mk.injEq] at e
                  obtain ⟨rfl, rfl, -⟩ := e
                  clear hy hx'
                  by_cases hlq : x.q < x'.q
                  · have HE : Hid (rpick l ja la (m2 + 1) = m2) := by
                      rw [HPS.out, if_pos ⟨hf0, .inr fun z hz => by rw [Int.toNat_natCast, HY.out] at hz; cases hz; rw [HPJ.out, HPY.out]; exact hlq⟩]
                      exact rfl
                    have hp2 : decide (x.q < x'.q) = true := by simp [hlq]
                    clear HPS
                    go_quiet (fail)
                    go_wp2
                    go_roundw
                    case rel => exact ⟨m2 + 1, by omega, by go_num, by rw [HE.out], HS8.out.drewN _⟩
                    case measure => simp [intOf]; omega
                  · have HE : Hid (rpick l ja la (m2 + 1) = pn) := by
                      rw [HPS.out, if_neg]
                      · exact rfl
                      · rintro ⟨_, h | h⟩
                        · exact hp h
                        · have := h y (by rw [Int.toNat_natCast]; exact HY.out)
                          rw [HPJ.out, HPY.out] at this
                          exact hlq this
                    have hp2 : decide (x.q < x'.q) = false := by simp; omega
                    clear HPS
                    go_quiet (fail)
                    go_wp2
                    go_roundw
                    case rel => exact ⟨m2 + 1, by omega, by go_num, by rw [HE.out], HS8.out.drewN _⟩
                    case measure => simp [intOf]; omega
              · have df : decide (0 < f) = false := by simp; omega
                have HE : Hid (rpick l ja la (m2 + 1) = pm) := by rw [HPS.out, if_neg (fun h => hf0 h.1)]; exact rfl
                clear HPS
                go_quiet (fail)
                go_wp2
                go_roundw
                case rel => exact ⟨m2 + 1, by omega, by go_num, by rw [HE.out], HS8.out.drewN _⟩
                case measure => simp [intOf]; omega
            · have hmN : m2 = N := by omega
              subst hmN
              have HNX := Lib.hid (ref_next (a := pm) HSX.out HN.out HRP.out (by rw [HNJ.out]; exact HPM.out))
              have HS8 := Lib.hid hS
              have hs8 := hS.below.size
              clear hS hlt hm2
              by_cases hp : pm < 0
              · have HT : Hid (refTo l (t + 1) = (ja, la, os ++ [-1])) := by
                  have := HNX.out
                  rw [if_pos hp] at this
                  exact this
                have hp1 : decide (pm < 0) = true := by simp [hp]
                clear HNX
                go_wp2_with (at_builtin; refine wpList_append_own_at _ rfl _ _ 29 rfl w.heap.size 3 i3 (.int .i64 0) 1 8 Try.underlying29 hi3 hz30 hz31 hz32 rfl (by omega) _ _ _ rfl (HS8.out.out_.alloc _) ⟨wr.heap.size, 0, none⟩ 1 1 [.int .i64 (-1)] rfl rfl ?c1 ?c2 ?c3 ?c4 ?c5 ?_)
                case c1 => exact cell_one_new _ _ _
                case c2 => simp [Value.oneCell']
                case c3 => rw [HOL.out]; unfold maxLen; omega
                case c4 => rw [HOL.out]; omega
                case c5 => first | omega | (simp; omega)
                intro v' w3 hown3 hgrow3 _ hat
                have HS9 : Hid (RS w w3 ja (.slice Aj m2 cj) la (.slice Al m2 cl) (os ++ [-1]) v') := Lib.hid ((HS8.out.alloc _).addOut hgrow3 hown3 (by simpa using hat))
                clear hown3 hgrow3 HS8 hat
                go_wp2
                go_roundw
                case rel => exact ⟨t + 1, by omega, by go_num, by rw [HT.out]; exact HS9.out⟩
                case measure => simp [intOf]; omega
              · have hp1 : decide (pm < 0) = false := by simp; omega
                obtain ⟨pn, rfl⟩ : ∃ x : Nat, pm = x := ⟨pm.toNat, by omega⟩
                have hpk : pn < m2 := by omega
                obtain ⟨jb, hjb⟩ := getElem?_of_lt (l := ja) (k := pn) (by rw [HNJ.out]; exact hpk)
                obtain ⟨f, hf⟩ := getElem?_of_lt (l := la) (k := pn) (by rw [HNL.out]; exact hpk)
                have HT : Hid (refTo l (t + 1) = (ja.set pn { jb with st := if jb.st < 0 then (t : Int) else jb.st, fin := if f - 1 = 0 then (t : Int) + 1 else jb.fin }, la.set pn (f - 1), os ++ [jb.k])) := by
                  have := HNX.out
                  rw [if_neg hp, Int.toNat_natCast, hjb, hf] at this
                  exact this
                have hfb := HM.out.left pn f hf
                obtain ⟨bj, cj', e, j0, _, _, _, _, _⟩ := HS8.out.job hjb
                simp only [Value.slice.injEq] at e
                obtain ⟨rfl, -, -⟩ := e
                have HJ := Lib.hid hjb
                have HF := Lib.hid hf
                clear HNX hjb hf
                go_wp2_with (at_builtin; refine wpList_append_own_at _ rfl _ _ 29 rfl w.heap.size 3 i3 (.int .i64 0) 1 8 Try.underlying29 hi3 hz30 hz31 hz32 rfl (by omega) _ _ _ rfl (HS8.out.out_.alloc _) ⟨wr.heap.size, 0, none⟩ 1 1 [.int .i64 jb.k] rfl rfl ?c1 ?c2 ?c3 ?c4 ?c5 ?_)
                case c2 => simp [Value.oneCell']
                case c3 => rw [HOL.out]; unfold maxLen; omega
                case c4 => rw [HOL.out]; omega
                case c5 => first | omega | (simp; omega)
                intro v' w3 hown3 hgrow3 _ hat
                have HS9 : Hid (RS w w3 ja (.slice (some ⟨bj, 0, none⟩) m2 cj) la (.slice Al m2 cl) (os ++ [jb.k]) v') := Lib.hid ((HS8.out.alloc _).addOut hgrow3 hown3 (by simpa using hat))
                clear hown3 hgrow3 HS8 hat j0
                obtain ⟨bj', cj', e, j0, j1, j2, j3, jf, _⟩ := HS9.out.job HJ.out
                simp only [Value.slice.injEq, Option.some.injEq, Addr.mk.injEq] at e
                obtain ⟨⟨rfl, -, -⟩, -, -⟩ := e
                obtain ⟨bl, cl', e, l0, lf', hne⟩ := HS9.out.leftc HF.out
                simp only [Value.slice.injEq] at e
                obtain ⟨rfl, -, -⟩ := e
                have hbb : bj ≠ bl := hne bj rfl
                have hbb' : bl ≠ bj := fun e => hbb e.symm
                have hf2 := jf (pn * 4 + 2)
                have hf3 := jf (pn * 4 + 3)
                have hl0 := lf' pn
                have hat_ : ∀ a : Jb, (ja.set pn a)[pn]? = some a := fun a => by rw [List.getElem?_set, if_pos rfl, if_pos (List.getElem?_eq_some_iff.1 HJ.out).1]
                have HAT := Lib.hid hat_
                clear jf lf' hne hat_
                by_cases hst : jb.st < 0 <;> by_cases hlf : f - 1 = 0
                · have hd1 : decide (jb.st < 0) = true := by simp [hst]
                  have hd2 : (f - 1 == 0) = true := by simp [hlf]
                  have HXX := HT.out
                  rw [if_pos hst, if_pos hlf, hlf] at HXX
                  have HXX := Lib.hid HXX
                  have H1 := HS9.out.setJob HNJ.out HJ.out (jb' := { jb with st := t }) 2 (by omega) (.int .i64 t) rfl
                  have H2 := H1.setLeft HNL.out pn (f - 1)
                  have H3 := H2.setJob (by rw [List.length_set]; exact HNJ.out) (HAT.out _) (jb' := { jb with st := t, fin := t + 1 }) 3 (by omega) (.int .i64 (t + 1)) rfl
                  rw [List.set_set, hlf] at H3
                  have HFF := Lib.hid H3
                  clear H1 H2 H3 HT HS9
                  go_wp2
                  go_roundw
                  case rel => exact ⟨t + 1, by omega, by go_num, by rw [HXX.out]; exact HFF.out⟩
                  case measure => simp [intOf]; omega
                · have hd1 : decide (jb.st < 0) = true := by simp [hst]
                  have hd2 : (f - 1 == 0) = false := by simp [hlf]
                  have HXX := HT.out
                  rw [if_pos hst, if_neg hlf] at HXX
                  have HXX := Lib.hid HXX
                  have H1 := HS9.out.setJob HNJ.out HJ.out (jb' := { jb with st := t }) 2 (by omega) (.int .i64 t) rfl
                  have HFF := Lib.hid (H1.setLeft HNL.out pn (f - 1))
                  clear H1 HT HS9
                  go_wp2
                  go_roundw
                  case rel => exact ⟨t + 1, by omega, by go_num, by rw [HXX.out]; exact HFF.out⟩
                  case measure => simp [intOf]; omega
                · have hd1 : decide (jb.st < 0) = false := by simp; omega
                  have hd2 : (f - 1 == 0) = true := by simp [hlf]
                  have HXX := HT.out
                  rw [if_neg hst, if_pos hlf, hlf] at HXX
                  have HXX := Lib.hid HXX
                  have H2 := HS9.out.setLeft HNL.out pn (f - 1)
                  rw [hlf] at H2
                  have HFF := Lib.hid (H2.setJob HNJ.out HJ.out (jb' := { jb with fin := t + 1 }) 3 (by omega) (.int .i64 (t + 1)) rfl)
                  clear H2 HT HS9
                  go_wp2
                  go_roundw
                  case rel => exact ⟨t + 1, by omega, by go_num, by rw [HXX.out]; exact HFF.out⟩
                  case measure => simp [intOf]; omega
                · have hd1 : decide (jb.st < 0) = false := by simp; omega
                  have hd2 : (f - 1 == 0) = false := by simp [hlf]
                  have HXX := HT.out
                  rw [if_neg hst, if_neg hlf] at HXX
                  have HXX : Hid (refTo l (t + 1) = (ja, la.set pn (f - 1), os ++ [jb.k])) := by
                    rw [list_set_same ja pn _ HJ.out] at HXX
                    exact HXX
                  have HFF := Lib.hid (HS9.out.setLeft HNL.out pn (f - 1))
                  clear HT HS9
                  go_wp2
                  go_roundw
                  case rel => exact ⟨t + 1, by omega, by go_num, by rw [HXX.out]; exact HFF.out⟩
                  case measure => simp [intOf]; omega
    · have htt : t = T := by omega
      subst htt
      obtain ⟨r1, r2⟩ := ref_eq HK.out t
      rw [r1, r2] at hS
      have HOL := Lib.hid (sim_out_length l t)
      obtain ⟨A1, c1, rfl, g1, g2, g3⟩ := own_read hS.out_
      obtain ⟨A2, c2, rfl, g4, g5, g6⟩ := own_read hS.jobs_
      rw [HOL.out] at g1 ⊢
      have HE : Hid (SimEnd l t w (.returned (.tuple #[.slice A1 t c1, .slice A2 (simTo l t).2.1.length c2])) wr) := ⟨A1, c1, A2, c2, rfl, g1, g2, g4, g5, g3, g6, hS.below⟩
      clear hS g1 g2 g3 g4 g5 g6 r1 r2
      generalize (simTo l t).2.1.length = nj at *
      go_wp2
      go_ret2
      exact HE.out
end Go.Proofs.Ytcfhnjdaijdoiaa
