/-
  response.Slack.
-/
import Derived.Test.YtcfhnjdaijdoiaaW6
import Derived.Test.YtcfhnjdaijdoiaaPlain6
namespace Go.Proofs.Ytcfhnjdaijdoiaa
open Go.RowKit
set_option linter.unusedVariables false

set_option maxHeartbeats 1000000 in
theorem Slack_err (A : Option Addr) (n c : Nat) (l : List Tsk) (i : Int) (w : World) (hA : Rd w w.heap.size A (tcells l)) (hn : l.length = n) (hc : n ≤ c) (hcc : c ≤ maxLen) (k : Int) (hk : check l = k) (hk0 : k ≠ 0) :
    Calls Try.prog 38 #[.slice A n c, .int .i64 i] w fun e w' => e = .returned (.tuple #[.int .i64 0, .iface 47 (.int .i64 k)]) ∧ Below w.heap.size w w' := by
  have HC : Hid (errV (check l) = .iface 47 (.int .i64 k)) := by rw [hk]; exact errV_ne hk0
  have h1 := ne_err
  clear hk hk0
  go_enter Try.func38, Try.ntmps38
  go_wp2_with (fail)
  (with_reducible refine (check_any A n c l _ hA hn hc hcc).mono ?_)
  rintro e w1 ⟨rfl, hb⟩
  rw [HC.out]
  have HB := Lib.hid hb
  clear hb
  go_wp2
  go_ret2
  exact ⟨rfl, HB.out⟩

set_option maxHeartbeats 1000000 in
theorem Slack_index (A : Option Addr) (n c : Nat) (l : List Tsk) (i : Int) (w : World) (hA : Rd w w.heap.size A (tcells l)) (hn : l.length = n) (hc : n ≤ c) (hcc : c ≤ maxLen) (hk : check l = 0) (hi : i < 0 ∨ n ≤ i) :
    Calls Try.prog 38 #[.slice A n c, .int .i64 i] w fun e w' => e = .returned (.tuple #[.int .i64 0, .iface 47 (.int .i64 10)]) ∧ Below w.heap.size w w' := by
  have HC : Hid (errV (check l) = .nilIface) := by rw [hk]; rfl
  have h1 := ne_nil
  have HA := Lib.hid hA
  have HN := Lib.hid hn
  clear hk hA hn
  by_cases h0 : i < 0
  · clear hi
    go_enter Try.func38, Try.ntmps38
    go_wp2_with (fail)
    (with_reducible refine (check_any A n c l _ HA.out HN.out hc hcc).mono ?_)
    rintro e w1 ⟨rfl, hb⟩
    rw [HC.out]
    have HB := Lib.hid hb
    clear hb
    go_wp2
    go_ret2
    exact ⟨rfl, HB.out⟩
  · have hi' : (n : Int) ≤ i := by omega
    clear hi
    go_enter Try.func38, Try.ntmps38
    go_wp2_with (fail)
    (with_reducible refine (check_any A n c l _ HA.out HN.out hc hcc).mono ?_)
    rintro e w1 ⟨rfl, hb⟩
    rw [HC.out]
    have HB := Lib.hid hb
    clear hb
    go_wp2
    go_ret2
    exact ⟨rfl, HB.out⟩

/-- s is the slack of task x, at i. -/
def SlackIs (l : List Tsk) (i : Nat) (x : Tsk) (s : Nat) : Prop :=
  s ≤ 4096 ∧ (∀ t : Nat, t ≤ s → fine (withCost l i x (x.c + t))) ∧ ¬ fine (withCost l i x (x.c + (s + 1 : Nat)))

def SlackEnd (l : List Tsk) (i : Nat) (x : Tsk) (w : World) (e : Ending) (w' : World) : Prop :=
  ((meets l = true ∧ ∃ s : Nat, SlackIs l i x s ∧ e = .returned (.tuple #[.int .i64 s, .nilIface])) ∨
    (meets l = false ∧ e = .returned (.tuple #[.int .i64 0, .iface 47 (.int .i64 23)]))) ∧ Below w.heap.size w w'

set_option maxHeartbeats 2000000 in
theorem Slack_ok (A : Option Addr) (n c i : Nat) (l : List Tsk) (x : Tsk) (w : World) (hA : Rd w w.heap.size A (tcells l)) (hn : l.length = n) (hc : n ≤ c) (hcc : c ≤ maxLen) (hk : check l = 0) (hx : l[i]? = some x) :
    Calls Try.prog 38 #[.slice A n c, .int .i64 i] w (SlackEnd l i x w) := by
  have HC : Hid (errV (check l) = .nilIface) := by rw [hk]; rfl
  have h1 := ne_nil
  have h2 := ne_err
  have hin : i < n := by rw [← hn]; exact (List.getElem?_eq_some_iff.1 hx).1
  have hn8 := (good_of_check hk).2
  rw [hn] at hn8
  have HK := Lib.hid hk
  have HA := Lib.hid hA
  have HN := Lib.hid hn
  have HX := Lib.hid hx
  have HN5 : Hid ((tcells l).length = n * 5) := by rw [tcells_length, hn]; rfl
  have hxb := (good_of_check hk).1 x (List.mem_of_getElem? hx)
  simp only [Tsk.bad, not_or, Int.not_lt] at hxb
  obtain ⟨b1, b2, b3, b4, b5, b6, b7⟩ := hxb
  obtain ⟨i0, hi, hz0, hz1, hz2⟩ := info_parts info34
  have hm0 : 0 ≤ maxLen := Nat.zero_le _
  clear hk hA hn hx
  go_enter Try.func38, Try.ntmps38
  go_wp2_with (fail)
  (with_reducible refine (check_any A n c l _ HA.out HN.out hc hcc).mono ?_)
  rintro e w1 ⟨rfl, hb⟩
  rw [HC.out]
  have HB := Lib.hid hb
  have hs : w.heap.size ≤ w1.heap.size := hb.size
  clear hb
  go_wp2_with (at_builtin; refine wpList_append_rd _ rfl _ _ 22 rfl w.heap.size 34 i0 _ 5 40 Try.underlying22 hi hz0 hz1 hz2 rfl (by omega) _ 0 [] rfl (World.ownsRow_lit w1 #[] 0 hs hm0 rfl) w.heap.size A n c (tcells l) rfl (HA.out.below (HB.out.alloc hs _) (Nat.le_refl _)) HN5.out (tcells_one l) ?c3 ?c4 ?c5 ?_)
  case c3 => unfold maxLen; omega
  case c4 => omega
  case c5 => simp; omega
  intro v' w2 hown hgrow hat
  have HB2 : Hid (Below w.heap.size w w2) := (HB.out.alloc hs _).grown hgrow (by simp; omega) (fun k hk => by simp [Value.ownBlock] at hk; omega)
  obtain ⟨A', c', rfl, hc1, hc2, hform⟩ := own_form hown
  obtain ⟨g, rfl, hg1, hg2⟩ := hform (by omega)
  try simp only [Nat.zero_add, List.nil_append] at hown
  try simp only [Nat.zero_add] at hc1
  have HO : Hid (w2.ownsRow w.heap.size 34 5 (.slice (some ⟨g, 0, none⟩) n c') n (tcells l)) := hown
  try rw [Nat.zero_add]
  have hs2 : w.heap.size ≤ w2.heap.size := HB2.out.size
  obtain ⟨A2, c2, hv, _, _, hr⟩ := own_read HO.out
  obtain ⟨rfl, rfl⟩ : some ⟨g, 0, none⟩ = A2 ∧ c' = c2 := by simpa using hv
  have HR := Lib.hid hr
  clear hown hgrow hat hform HB hs hr hv
  go_wp2_with (fail)
  (with_reducible refine (Meets_ok _ n c' l _ HR.out HN.out hc1 hc2 HK.out).mono ?_)
  rintro e w3 ⟨rfl, hb⟩
  have HB3 : Hid (Below w.heap.size w w3) := HB2.out.trans (hb.mono hs2)
  have HO3 := Lib.hid (own_below HO.out hb)
  clear hb HR hs2 HO
  by_cases hm : meets l = true
  · have HM := Lib.hid hm
    rw [hm]
    clear hm
    go_wp2
    go_loopw [10] (fun s wr => ∃ k : Nat, s = .int .i64 k ∧ (∀ t : Nat, t ≤ k → fine (withCost l i x (x.c + t))) ∧ wr.ownsRow w.heap.size 34 5 (.slice (some ⟨g, 0, none⟩) n c') n (tcells (withCost l i x (x.c + k))) ∧ Below w.heap.size w wr) (fun s _ => (x.d - intOf s).toNat)
    case atStart =>
      refine ⟨0, rfl, ?_, ?_, HB3.out⟩
      · intro t ht
        obtain rfl : t = 0 := by omega
        rw [show x.c + ((0 : Nat) : Int) = x.c by omega, withCost_same l i x HX.out]
        exact ⟨HK.out, HM.out⟩
      · rw [show x.c + ((0 : Nat) : Int) = x.c by omega, withCost_same l i x HX.out]
        exact HO3.out
    case round =>
      obtain ⟨k, rfl, hf, hown, hB⟩ := hrel
      have hck := (withCost_check HK.out i x HX.out _).1 (hf k (Nat.le_refl _)).1
      have HF := Lib.hid hf
      have HO4 := Lib.hid hown
      have HB4 := Lib.hid hB
      have hs4 : w.heap.size ≤ wr.heap.size := hB.size
      have f1 : wr.cell? ⟨g, i * 5 + 2, none⟩ = some (.int .i64 (x.c + k)) := own_tsk hown (withCost_at l i x _ HX.out) 2 (by omega)
      have f2 : wr.frozen? ⟨g, i * 5 + 2, none⟩ = false := hown.frozenAt _
      have HO5 : Hid ((wr.setCell ⟨g, i * 5 + 2, none⟩ (.int .i64 (x.c + k + 1))).ownsRow w.heap.size 34 5 (.slice (some ⟨g, 0, none⟩) n c') n (tcells (withCost l i x (x.c + (k + 1 : Nat))))) := by
        rw [← withCost_set l i x (x.c + k) (x.c + (k + 1 : Nat)), tcells_set _ i { x with c := x.c + k } { x with c := x.c + (k + 1 : Nat) } 2 (.int .i64 (x.c + k + 1)) (withCost_at l i x _ HX.out) (by omega) (by simp [Tsk.cells]; omega)]
        exact (hown.stored (i * 5 + 2) _).1
      have HB5 : Hid (Below w.heap.size w (wr.setCell ⟨g, i * 5 + 2, none⟩ (.int .i64 (x.c + k + 1)))) := HB4.out.setCell (p := ⟨g, i * 5 + 2, none⟩) hg1 _
      clear hf hown hB
      go_wp2_with (fail)
      generalize wr.setCell ⟨g, i * 5 + 2, none⟩ (.int .i64 (x.c + k + 1)) = W1 at *
      obtain ⟨A2, c2, hv, _, _, hr⟩ := own_read HO5.out
      obtain ⟨rfl, rfl⟩ : some ⟨g, 0, none⟩ = A2 ∧ c' = c2 := by simpa using hv
      have HR := Lib.hid hr
      have hs5 : w.heap.size ≤ W1.heap.size := HB5.out.size
      clear hr hv
      by_cases hck2 : check (withCost l i x (x.c + (k + 1 : Nat))) = 0
      · (with_reducible refine (Meets_ok _ n c' (withCost l i x (x.c + (k + 1 : Nat))) _ HR.out (by rw [withCost_length]; exact HN.out) hc1 hc2 hck2).mono ?_)
        rintro e w4 ⟨rfl, hb⟩
        have HB6 : Hid (Below w.heap.size w w4) := HB5.out.trans (hb.mono hs5)
        have HO6 := Lib.hid (own_below HO5.out hb)
        have HCK := Lib.hid hck2
        clear hb hck2
        by_cases hme : meets (withCost l i x (x.c + (k + 1 : Nat))) = true
        · have HFN : Hid (∀ t : Nat, t ≤ k + 1 → fine (withCost l i x (x.c + t))) := fun t ht => by
            by_cases e : t = k + 1
            · subst e; exact ⟨HCK.out, hme⟩
            · exact HF.out t (by omega)
          have hcn := (withCost_check HK.out i x HX.out _).1 HCK.out
          rw [hme]
          clear hme
          go_wp2
          go_roundw
          case rel => exact ⟨k + 1, by go_num, HFN.out, HO6.out, HB6.out⟩
          case measure => simp [intOf]; omega
        · have HFN : Hid (¬ fine (withCost l i x (x.c + (k + 1 : Nat)))) := fun h => hme h.2
          have hmf : meets (withCost l i x (x.c + (k + 1 : Nat))) = false := by simpa using hme
          rw [hmf]
          clear hme hmf
          go_wp2
          go_ret2
          exact ⟨.inl ⟨HM.out, k, ⟨by omega, HF.out, HFN.out⟩, rfl⟩, HB6.out⟩
      · obtain ⟨ec, hec⟩ : ∃ ec, check (withCost l i x (x.c + (k + 1 : Nat))) = ec := ⟨_, rfl⟩
        (with_reducible refine (Meets_err _ n c' (withCost l i x (x.c + (k + 1 : Nat))) _ HR.out (by rw [withCost_length]; exact HN.out) hc1 hc2 ec hec (by rw [← hec]; exact hck2)).mono ?_)
        rintro e w4 ⟨rfl, hb⟩
        have HB6 : Hid (Below w.heap.size w w4) := HB5.out.trans (hb.mono hs5)
        have HFN : Hid (¬ fine (withCost l i x (x.c + (k + 1 : Nat)))) := fun h => hck2 h.1
        clear hb hck2 hec
        go_wp2
        go_ret2
        exact ⟨.inl ⟨HM.out, k, ⟨by omega, HF.out, HFN.out⟩, rfl⟩, HB6.out⟩
  · have HM : Hid (meets l = false) := by simpa [Hid] using hm
    rw [HM.out]
    clear hm
    go_wp2
    go_ret2
    exact ⟨.inr ⟨HM.out, rfl⟩, HB3.out⟩
end Go.Proofs.Ytcfhnjdaijdoiaa
