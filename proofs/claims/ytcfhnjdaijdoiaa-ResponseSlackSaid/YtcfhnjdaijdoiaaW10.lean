/-
  The statement ResponseSlack, walked.
-/
import Derived.Test.YtcfhnjdaijdoiaaW7
import Derived.Test.YtcfhnjdaijdoiaaW9
import Derived.Test.YtcfhnjdaijdoiaaPlain7
namespace Go.Proofs.Ytcfhnjdaijdoiaa
open Go.RowKit
set_option linter.unusedVariables false

set_option maxRecDepth 100000 in
set_option maxHeartbeats 1000000 in
theorem slack_refused (A : Option Addr) (n c : Nat) (l : List Tsk) (x0 x1 : Int) (w : World) (hA : Rd w w.heap.size A (tcells l)) (hn : l.length = n) (hc : n ≤ c) (hcc : c ≤ maxLen) (hk : n = 0 ∨ 8 < n ∨ check l ≠ 0) :
    Calls Try.prog 10 #[.slice A n c, .agg #[.int .u8 x0, .int .u8 x1]] w fun e w' => e = .returned (.bool true) ∧ Below w.heap.size w w' := by
  have h1 := ne_err
  by_cases h0 : n = 0
  · subst h0
    clear hk hA hn
    have e0 : ((0 : Int) == 0) = true := rfl
    go_enter Try.func10, Try.ntmps10
    go_wp2_with (fail)
    refine (awake43 _).mono ?_
    rintro e w1 ⟨rfl, hb⟩
    have HB : Hid (Below w.heap.size w w1) := ((Below.refl _ _).alloc (Nat.le_refl _) _).trans (hb.mono (by simp))
    clear hb
    go_wp2_with (fail)
    refine (awake43 _).mono ?_
    rintro e w3 ⟨rfl, hb⟩
    have HB3 : Hid (Below w.heap.size w w3) := HB.out.trans (hb.mono HB.out.size)
    clear hb
    go_wp2
    go_ret
    exact ⟨rfl, HB3.out⟩
  have e0 : ((n : Int) == 0) = false := by simp; omega
  by_cases h8 : 8 < n
  · clear hk hA hn h0
    go_enter Try.func10, Try.ntmps10
    go_wp2_with (fail)
    refine (awake43 _).mono ?_
    rintro e w1 ⟨rfl, hb⟩
    have HB : Hid (Below w.heap.size w w1) := ((Below.refl _ _).alloc (Nat.le_refl _) _).trans (hb.mono (by simp))
    clear hb
    go_wp2_with (fail)
    refine (awake43 _).mono ?_
    rintro e w3 ⟨rfl, hb⟩
    have HB3 : Hid (Below w.heap.size w w3) := HB.out.trans (hb.mono HB.out.size)
    clear hb
    go_wp2
    go_ret
    exact ⟨rfl, HB3.out⟩
  · have hk0 : check l ≠ 0 := by omega
    obtain ⟨k, hke⟩ : ∃ k, check l = k := ⟨_, rfl⟩
    have HC : Hid (errV (check l) = .iface 47 (.int .i64 k)) := by rw [hke]; exact errV_ne (by rw [← hke]; exact hk0)
    have HA := Lib.hid hA
    have HN := Lib.hid hn
    clear hk hk0 hke hA hn h0
    go_enter Try.func10, Try.ntmps10
    go_wp2_with (fail)
    refine (awake43 _).mono ?_
    rintro e w1 ⟨rfl, hb⟩
    have HB : Hid (Below w.heap.size w w1) := ((Below.refl _ _).alloc (Nat.le_refl _) _).trans (hb.mono (by simp))
    have hs := HB.out.size
    clear hb
    go_wp2_with (fail)
    (with_reducible refine (check_any A n c l _ ((HA.out.below HB.out (Nat.le_refl _)).more hs) HN.out hc hcc).mono ?_)
    rintro e w2 ⟨rfl, hb⟩
    rw [HC.out]
    have HB2 : Hid (Below w.heap.size w w2) := HB.out.trans (hb.mono hs)
    clear hb
    go_wp2_with (fail)
    refine (awake43 _).mono ?_
    rintro e w3 ⟨rfl, hb⟩
    have HB3 : Hid (Below w.heap.size w w3) := HB2.out.trans (hb.mono HB2.out.size)
    clear hb
    go_wp2
    go_ret
    exact ⟨rfl, HB3.out⟩

/-- Tasks that are not fine, and whose error can only be one. -/
theorem Meets_not (A : Option Addr) (n c : Nat) (l : List Tsk) (w : World) (hA : Rd w w.heap.size A (tcells l)) (hn : l.length = n) (hc : n ≤ c) (hcc : c ≤ maxLen) (hf : ¬ fine l) (h3 : check l ≠ 0 → check l = 3) :
    Calls Try.prog 39 #[.slice A n c] w fun e w' => ∃ E : Value, (E = .nilIface ∨ E = .iface 47 (.int .i64 3)) ∧ e = .returned (.tuple #[.bool false, E]) ∧ Below w.heap.size w w' := by
  by_cases hk : check l = 0
  · have hm : meets l = false := by
      cases e : meets l
      · rfl
      · exact absurd ⟨hk, e⟩ hf
    refine (Meets_ok A n c l w hA hn hc hcc hk).mono ?_
    rintro e w' ⟨rfl, hb⟩
    exact ⟨_, .inl rfl, by rw [hm], hb⟩
  · refine (Meets_err A n c l w hA hn hc hcc 3 (h3 hk) (by omega)).mono ?_
    rintro e w' ⟨rfl, hb⟩
    exact ⟨_, .inr rfl, rfl, hb⟩

set_option maxRecDepth 100000 in
set_option maxHeartbeats 4000000 in
theorem slack_main (A : Option Addr) (n c : Nat) (l : List Tsk) (x0 x1 : Int) (w : World) (hA : Rd w w.heap.size A (tcells l)) (hn : l.length = n) (hc : n ≤ c) (hcc : c ≤ maxLen) (hk : check l = 0) (hpos : 0 < n)
    (hx0 : 0 ≤ x0 ∧ x0 ≤ 255) (hx1 : 0 ≤ x1 ∧ x1 ≤ 255) :
    Calls Try.prog 10 #[.slice A n c, .agg #[.int .u8 x0, .int .u8 x1]] w fun e w' => e = .returned (.bool true) ∧ Below w.heap.size w w' := by
  have h1 := ne_nil
  have h2 := eq_nil
  have h3 := ne_err
  have h4 := eq_err
  have e0 : ((n : Int) == 0) = false := by simp; omega
  have hn8 := (good_of_check hk).2
  rw [hn] at hn8
  have HC : Hid (errV (check l) = .nilIface) := by rw [hk]; rfl
  obtain ⟨J, hJ, hJ2⟩ : ∃ J : Nat, x0 % (n : Int) = (J : Int) ∧ J < n := ⟨(x0 % (n : Int)).toNat, by have := Int.emod_nonneg x0 (show (n : Int) ≠ 0 by omega); omega, by have := Int.emod_lt_of_pos x0 (show (0 : Int) < n by omega); omega⟩
  obtain ⟨x, hx⟩ := getElem?_of_lt (l := l) (k := J) (by rw [hn]; omega)
  have hxb := (good_of_check hk).1 x (List.mem_of_getElem? hx)
  simp only [Tsk.bad, not_or, Int.not_lt] at hxb
  obtain ⟨b1, b2, b3, b4, b5, b6, b7⟩ := hxb
  obtain ⟨b, off, hAe, hbl, _, _, d2, _, _⟩ := hA.tsk hx
  subst hAe
  have HK := Lib.hid hk
  have HA := Lib.hid hA
  have HN := Lib.hid hn
  have HX := Lib.hid hx
  have HD : Hid (∀ wr, Below w.heap.size w wr → wr.cell? ⟨b, off + J * 5 + 2, none⟩ = some (.int .i64 x.c)) := fun wr hB => (hB.cell (p := ⟨b, _, none⟩) hbl).trans d2
  have HN5 : Hid ((tcells l).length = n * 5) := by rw [tcells_length, hn]; rfl
  obtain ⟨i0, hi, hz0, hz1, hz2⟩ := info_parts info34
  have hm0 : 0 ≤ maxLen := Nat.zero_le _
  obtain ⟨x00, x01⟩ := hx0
  obtain ⟨x10, x11⟩ := hx1
  clear hk hA hn hx d2
  go_enter Try.func10, Try.ntmps10
  go_wp2_with (fail)
  refine (awake43 _).mono ?_
  rintro e w1 ⟨rfl, hb⟩
  have HBX : Hid (∀ wr, Below (w.heap.size + 1) w1 wr → wr.cell? ⟨w.heap.size, 0, none⟩ = some (.int .u8 x0) ∧ wr.cell? ⟨w.heap.size, 1, none⟩ = some (.int .u8 x1)) := fun wr hB =>
    ⟨(hB.cell (p := ⟨w.heap.size, 0, none⟩) (Nat.lt_succ_self _)).trans ((hb.cell (p := ⟨w.heap.size, 0, none⟩) (by simp)).trans (by simp)), (hB.cell (p := ⟨w.heap.size, 1, none⟩) (Nat.lt_succ_self _)).trans ((hb.cell (p := ⟨w.heap.size, 1, none⟩) (by simp)).trans (by simp))⟩
  have HB0 : Hid (Below w.heap.size w w1) := ((Below.refl _ _).alloc (Nat.le_refl _) _).trans (hb.mono (by simp))
  have hs1 : w.heap.size + 1 ≤ w1.heap.size := by have := hb.size; simpa using this
  have hs0 : w.heap.size ≤ w1.heap.size := by omega
  clear hb
  go_wp2_with (fail)
  (with_reducible refine (check_any _ n c l _ ((HA.out.below HB0.out (Nat.le_refl _)).more hs0) HN.out hc hcc).mono ?_)
  rintro e w2 ⟨rfl, hb⟩
  rw [HC.out]
  have HB2 : Hid (Below (w.heap.size + 1) w1 w2) := hb.mono hs1
  clear hb
  obtain ⟨f0, f1⟩ := HBX.out w2 HB2.out
  go_wp2_with (fail)
  have HT : ∀ wr, Below (w.heap.size + 1) w1 wr → Hid (Below w.heap.size w wr) := fun wr h => HB0.out.trans (h.mono (Nat.le_succ _))
  have HT' := Lib.hid HT
  clear HT f0 f1
  have hs2 : w1.heap.size ≤ w2.heap.size := HB2.out.size
  have HR2 : Hid (Rd w2 w2.heap.size (some ⟨b, off, none⟩) (tcells l)) := (HA.out.below (HT'.out w2 HB2.out).out (Nat.le_refl _)).more (by omega)
  (with_reducible refine (Slack_ok _ n c J l x _ HR2.out HN.out hc hcc HK.out HX.out).mono ?_)
  rintro e w3 ⟨hend, hb⟩
  have HB3 : Hid (Below (w.heap.size + 1) w1 w3) := HB2.out.trans (hb.mono (by omega))
  have HR3 : Hid (Rd w3 w3.heap.size (some ⟨b, off, none⟩) (tcells l)) := (HR2.out.below hb (Nat.le_refl _)).more hb.size
  have hs3 : w1.heap.size ≤ w3.heap.size := HB3.out.size
  clear hb HR2
  rcases hend with ⟨hm, s, hs, rfl⟩ | ⟨hm, rfl⟩
  · obtain ⟨s1, s2, s3⟩ := hs
    have HF := Lib.hid s2
    have HNF := Lib.hid s3
    have HM := Lib.hid hm
    have hcs := (withCost_check HK.out J x HX.out _).1 (s2 s (Nat.le_refl _)).1
    have HFS : Hid (check (withCost l J x (x.c + s)) = 0 ∧ meets (withCost l J x (x.c + s)) = true) := s2 s (Nat.le_refl _)
    clear s2 s3 hm
    go_wp2_with (fail)
    (with_reducible refine (Meets_ok _ n c l _ HR3.out HN.out hc hcc HK.out).mono ?_)
    rintro e w4 ⟨rfl, hb⟩
    rw [HM.out]
    have HB4 : Hid (Below (w.heap.size + 1) w1 w4) := HB3.out.trans (hb.mono (by omega))
    have HR4 : Hid (Rd w4 w4.heap.size (some ⟨b, off, none⟩) (tcells l)) := (HR3.out.below hb (Nat.le_refl _)).more hb.size
    have hs4 : w1.heap.size ≤ w4.heap.size := HB4.out.size
    have hs5 : w.heap.size + 1 ≤ w4.heap.size := by omega
    clear hb HR3
    go_wp2_with (at_builtin; refine wpList_append_rd _ rfl _ _ 22 rfl (w.heap.size + 1) 34 i0 _ 5 40 Try.underlying22 hi hz0 hz1 hz2 rfl (by omega) _ 0 [] rfl (World.ownsRow_lit w4 #[] 0 hs5 hm0 rfl) w.heap.size _ n c (tcells l) rfl (HA.out.below ((HT'.out w4 HB4.out).out.alloc (by omega) _) (Nat.le_refl _)) HN5.out (tcells_one l) ?c3 ?c4 ?c5 ?_)
    case c3 => unfold maxLen; omega
    case c4 => omega
    case c5 => simp; omega
    intro v' w5 hown hgrow hat
    have HB5 : Hid (Below (w.heap.size + 1) w1 w5) := (HB4.out.alloc hs5 _).grown hgrow (by simp; omega) (fun k hk => by simp [Value.ownBlock] at hk; omega)
    obtain ⟨A', c', rfl, hc1, hc2, hform⟩ := own_form hown
    obtain ⟨g, rfl, hg1, hg2⟩ := hform (by omega)
    try simp only [Nat.zero_add, List.nil_append] at hown
    try simp only [Nat.zero_add] at hc1
    have HO : Hid (w5.ownsRow (w.heap.size + 1) 34 5 (.slice (some ⟨g, 0, none⟩) n c') n (tcells l)) := hown
    try rw [Nat.zero_add]
    clear hown hgrow hat hform HB4 HR4 hs5
    have q1 : w5.cell? ⟨g, J * 5 + 2, none⟩ = some (.int .i64 x.c) := own_tsk HO.out HX.out 2 (by omega)
    have q2 : w5.frozen? ⟨g, J * 5 + 2, none⟩ = false := HO.out.frozenAt _
    have q3 := HD.out w5 (HT'.out w5 HB5.out).out
    have HO6 : Hid ((w5.setCell ⟨g, J * 5 + 2, none⟩ (.int .i64 (x.c + s))).ownsRow (w.heap.size + 1) 34 5 (.slice (some ⟨g, 0, none⟩) n c') n (tcells (withCost l J x (x.c + s)))) := by
      unfold withCost
      rw [tcells_set l J x { x with c := x.c + s } 2 (.int .i64 (x.c + s)) HX.out (by omega) rfl]
      exact (HO.out.stored (J * 5 + 2) _).1
    have HB6 : Hid (Below (w.heap.size + 1) w1 (w5.setCell ⟨g, J * 5 + 2, none⟩ (.int .i64 (x.c + s)))) := HB5.out.setCell (p := ⟨g, J * 5 + 2, none⟩) hg1 _
    go_wp2_with (fail)
    generalize w5.setCell ⟨g, J * 5 + 2, none⟩ (.int .i64 (x.c + s)) = w6 at *
    clear q1 q2 q3
    obtain ⟨A2, c2, hv, _, _, hr⟩ := own_read HO6.out
    obtain ⟨rfl, rfl⟩ : some ⟨g, 0, none⟩ = A2 ∧ c' = c2 := by simpa using hv
    have HR6 := Lib.hid hr
    have hs6 : w1.heap.size ≤ w6.heap.size := HB6.out.size
    clear hr hv
    (with_reducible refine (Meets_ok _ n c' (withCost l J x (x.c + s)) _ HR6.out (by rw [withCost_length]; exact HN.out) hc1 hc2 HFS.out.1).mono ?_)
    rintro e w7 ⟨rfl, hb⟩
    rw [HFS.out.2]
    have HB7 : Hid (Below (w.heap.size + 1) w1 w7) := HB6.out.trans (hb.mono (by omega))
    have HO7 := Lib.hid (own_below HO6.out hb)
    clear hb HR6
    have q1 : w7.cell? ⟨g, J * 5 + 2, none⟩ = some (.int .i64 (x.c + s)) := own_tsk HO7.out (withCost_at l J x _ HX.out) 2 (by omega)
    have q2 : w7.frozen? ⟨g, J * 5 + 2, none⟩ = false := HO7.out.frozenAt _
    have HO8 : Hid ((w7.setCell ⟨g, J * 5 + 2, none⟩ (.int .i64 (x.c + s + 1))).ownsRow (w.heap.size + 1) 34 5 (.slice (some ⟨g, 0, none⟩) n c') n (tcells (withCost l J x (x.c + (s + 1 : Nat))))) := by
      rw [← withCost_set l J x (x.c + s) (x.c + (s + 1 : Nat)), tcells_set _ J { x with c := x.c + s } { x with c := x.c + (s + 1 : Nat) } 2 (.int .i64 (x.c + s + 1)) (withCost_at l J x _ HX.out) (by omega) (by simp [Tsk.cells]; omega)]
      exact (HO7.out.stored (J * 5 + 2) _).1
    have HB8 : Hid (Below (w.heap.size + 1) w1 (w7.setCell ⟨g, J * 5 + 2, none⟩ (.int .i64 (x.c + s + 1)))) := HB7.out.setCell (p := ⟨g, J * 5 + 2, none⟩) hg1 _
    go_wp2_with (fail)
    generalize w7.setCell ⟨g, J * 5 + 2, none⟩ (.int .i64 (x.c + s + 1)) = w8 at *
    clear q1 q2
    obtain ⟨A2, c2, hv, _, _, hr⟩ := own_read HO8.out
    obtain ⟨rfl, rfl⟩ : some ⟨g, 0, none⟩ = A2 ∧ c' = c2 := by simpa using hv
    have HR8 := Lib.hid hr
    have hs8 : w1.heap.size ≤ w8.heap.size := HB8.out.size
    clear hr hv
    (with_reducible refine (Meets_not _ n c' (withCost l J x (x.c + (s + 1 : Nat))) _ HR8.out (by rw [withCost_length]; exact HN.out) hc1 hc2 HNF.out (withCost_range HK.out J x HX.out _)).mono ?_)
    rintro e w9 ⟨E, hE, rfl, hb⟩
    have HE := Lib.hid hE
    have HB9 : Hid (Below (w.heap.size + 1) w1 w9) := HB8.out.trans (hb.mono (by omega))
    have HO9 := Lib.hid (own_below HO8.out hb)
    have hs9 : w1.heap.size ≤ w9.heap.size := HB9.out.size
    clear hb HR8 hE
    have q0 := HD.out w9 (HT'.out w9 HB9.out).out
    obtain ⟨f0, f1⟩ := HBX.out w9 HB9.out
    have q1 : w9.cell? ⟨g, J * 5 + 2, none⟩ = some (.int .i64 (x.c + (s + 1 : Nat))) := own_tsk HO9.out (withCost_at l J x _ HX.out) 2 (by omega)
    have q2 : w9.frozen? ⟨g, J * 5 + 2, none⟩ = false := HO9.out.frozenAt _
    have m0 : 0 ≤ x1 % (x.c + s) := Int.emod_nonneg _ (by omega)
    have m1 : x1 % (x.c + s) < x.c + s := Int.emod_lt_of_pos _ (by omega)
    have hbx : w.heap.size < w9.heap.size := by omega
    have HO10 : Hid ((w9.setCell ⟨g, J * 5 + 2, none⟩ (.int .i64 (x.c + s - x1 % (x.c + s)))).ownsRow (w.heap.size + 1) 34 5 (.slice (some ⟨g, 0, none⟩) n c') n (tcells (withCost l J x (x.c + s - x1 % (x.c + s))))) := by
      rw [← withCost_set l J x (x.c + (s + 1 : Nat)) (x.c + s - x1 % (x.c + s)), tcells_set _ J { x with c := x.c + (s + 1 : Nat) } { x with c := x.c + s - x1 % (x.c + s) } 2 (.int .i64 (x.c + s - x1 % (x.c + s))) (withCost_at l J x _ HX.out) (by omega) rfl]
      exact (HO9.out.stored (J * 5 + 2) _).1
    have HB10 : Hid (Below (w.heap.size + 1) w1 (w9.setCell ⟨g, J * 5 + 2, none⟩ (.int .i64 (x.c + s - x1 % (x.c + s))))) := HB9.out.setCell (p := ⟨g, J * 5 + 2, none⟩) hg1 _
    have HW1 : Hid (IntKind.i64.wrap (x.c + s) = x.c + s) := IntWalk.i64_in _ (by omega)
    have HW2 : Hid (IntKind.i64.wrap (x.c + s - x1 % (x.c + s)) = x.c + s - x1 % (x.c + s)) := IntWalk.i64_in _ (by omega)
    have hnz : ¬ (x.c + (s : Int) = 0) := by omega
    go_wp2_with (fail)
    go_region
    go_wp2_with (fail)
    have HB11 : Hid (Below (w.heap.size + 1) w1 (w9.setCell ⟨g, J * 5 + 2, none⟩ (.int .i64 (x.c + s - x1 % (x.c + s)))).drew) := HB10.out.drew
    have HO11 : Hid ((w9.setCell ⟨g, J * 5 + 2, none⟩ (.int .i64 (x.c + s - x1 % (x.c + s)))).drew.ownsRow (w.heap.size + 1) 34 5 (.slice (some ⟨g, 0, none⟩) n c') n (tcells (withCost l J x (x.c + s - x1 % (x.c + s))))) := HO10.out
    clear HO10 HB10 q0 q1 q2 f0 f1
    generalize (w9.setCell ⟨g, J * 5 + 2, none⟩ (.int .i64 (x.c + s - x1 % (x.c + s)))).drew = w11 at *
    have HFL : Hid (check (withCost l J x (x.c + s - x1 % (x.c + s))) = 0 ∧ meets (withCost l J x (x.c + s - x1 % (x.c + s))) = true) := by
      have := less_cost J { x with c := x.c + s } (withCost_at l J x (x.c + s) HX.out) (x.c + s - x1 % (x.c + s)) (by omega) (by show _ ≤ x.c + (s : Int); omega) HFS.out
      rw [withCost_again] at this
      exact this
    obtain ⟨A2, c2, hv, _, _, hr⟩ := own_read HO11.out
    obtain ⟨rfl, rfl⟩ : some ⟨g, 0, none⟩ = A2 ∧ c' = c2 := by simpa using hv
    have HR11 := Lib.hid hr
    have hs11 : w1.heap.size ≤ w11.heap.size := HB11.out.size
    clear hr hv
    (with_reducible refine (Meets_ok _ n c' (withCost l J x (x.c + s - x1 % (x.c + s))) _ HR11.out (by rw [withCost_length]; exact HN.out) hc1 hc2 HFL.out.1).mono ?_)
    rintro e w12 ⟨rfl, hb⟩
    rw [HFL.out.2]
    have HB12 : Hid (Below (w.heap.size + 1) w1 w12) := HB11.out.trans (hb.mono (by omega))
    clear hb HR11 m0 m1
    rcases HE.out with rfl | rfl
    · go_wp2_with (fail)
      go_ret
      exact ⟨rfl, (HT'.out _ HB12.out).out⟩
    · go_wp2_with (fail)
      refine (is_err 3 3 _).mono ?_
      rintro e w5 ⟨rfl, rfl⟩
      go_wp2
      go_ret
      exact ⟨rfl, (HT'.out _ HB12.out).out⟩
  · go_wp2_with (fail)
    (with_reducible refine (Meets_ok _ n c l _ HR3.out HN.out hc hcc HK.out).mono ?_)
    rintro e w4 ⟨rfl, hb⟩
    rw [hm]
    have HB4 : Hid (Below (w.heap.size + 1) w1 w4) := HB3.out.trans (hb.mono (by omega))
    clear hb hm
    go_wp2_with (fail)
    refine (is_err 23 23 _).mono ?_
    rintro e w5 ⟨rfl, rfl⟩
    go_wp2
    go_ret
    exact ⟨rfl, (HT'.out _ HB4.out).out⟩
end Go.Proofs.Ytcfhnjdaijdoiaa
