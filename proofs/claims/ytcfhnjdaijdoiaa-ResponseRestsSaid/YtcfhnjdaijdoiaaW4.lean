/-
  response.Worst, response.Meets.
-/
import Derived.Test.YtcfhnjdaijdoiaaW1
import Derived.Test.YtcfhnjdaijdoiaaW2
namespace Go.Proofs.Ytcfhnjdaijdoiaa
open Go.RowKit

theorem info3 : (Try.prog.info? 3).map (fun i => (i.zero, i.size, i.bytes)) = some (some (.int .i64 0), 1, 8) := by kernel_rfl

theorem ne_err (c : Int) (w : World) : (binOp .neq 27 (.iface 47 (.int .i64 c)) .nilIface).run Try.prog w = .ok (.bool true) w := by kernel_rfl
theorem ne_nil (w : World) : (binOp .neq 27 .nilIface .nilIface).run Try.prog w = .ok (.bool false) w := by kernel_rfl

set_option maxHeartbeats 1000000 in
theorem Worst_err (A : Option Addr) (n c : Nat) (l : List Tsk) (w : World) (hA : Rd w w.heap.size A (tcells l)) (hn : l.length = n) (hc : n ≤ c) (hcc : c ≤ maxLen) (k : Int) (hk : check l = k) (hk0 : k ≠ 0) :
    Calls Try.prog 43 #[.slice A n c] w fun e w' => e = .returned (.tuple #[.slice none 0 0, .iface 47 (.int .i64 k)]) ∧ Below w.heap.size w w' := by
  have HC : Hid (errV (check l) = .iface 47 (.int .i64 k)) := by rw [hk]; exact errV_ne hk0
  have h1 := ne_err
  clear hk hk0
  go_enter Try.func43, Try.ntmps43
  go_wp2_with (fail)
  (with_reducible refine (check_any A n c l _ hA hn hc hcc).mono ?_)
  rintro e w1 ⟨rfl, hb⟩
  rw [HC.out]
  have HB := Lib.hid hb
  clear hb
  go_wp2
  go_ret2
  exact ⟨rfl, HB.out⟩

set_option maxHeartbeats 1000000 in
theorem Worst_ok (A : Option Addr) (n c : Nat) (l : List Tsk) (w : World) (hA : Rd w w.heap.size A (tcells l)) (hn : l.length = n) (hc : n ≤ c) (hcc : c ≤ maxLen) (hk : check l = 0) :
    Calls Try.prog 43 #[.slice A n c] w fun e w' => ∃ A' c', e = .returned (.tuple #[.slice A' n c', .nilIface]) ∧ n ≤ c' ∧ c' ≤ maxLen ∧ Rd w' w'.heap.size A' (icells (l.map (worst l))) ∧ Below w.heap.size w w' := by
  have HC : Hid (errV (check l) = .nilIface) := by rw [hk]; rfl
  have h1 := ne_nil
  obtain ⟨hg, hn8⟩ := good_of_check hk
  rw [hn] at hn8
  have HG := Lib.hid hg
  have HA := Lib.hid hA
  have HN := Lib.hid hn
  clear hk hg
  obtain ⟨i0, hi, hz0, hz1, hz2⟩ := info_parts info3
  obtain ⟨ws, hws⟩ : ∃ ws, ws = l.map (worst l) := ⟨_, rfl⟩
  rw [← hws]
  have HWS : Hid (∀ (j : Nat) (x : Tsk), l[j]? = some x → ws[j]? = some (worst l x)) := fun j x hx => by rw [hws]; simp [hx]
  have HWN : Hid (ws.length = n) := by rw [hws, List.length_map]; exact hn
  clear hws
  go_enter Try.func43, Try.ntmps43
  go_wp2_with (fail)
  (with_reducible refine (check_any A n c l _ hA hn hc hcc).mono ?_)
  rintro e w1 ⟨rfl, hb⟩
  rw [HC.out]
  have HB := Lib.hid hb
  clear hb hA hn
  go_wp2
  go_loopw [5, 14] (fun o k wr => ∃ j : Nat, j ≤ n ∧ k = .int .i64 j ∧ wr.ownsRow w.heap.size 3 1 o j (icells (ws.take j)) ∧ Below w.heap.size w wr) (fun _ k _ => n - (intOf k).toNat)
  case atStart => exact ⟨0, Nat.zero_le _, rfl, World.ownsRow_nil .., HB.out⟩
  case round =>
    obtain ⟨j, hj, rfl, hown, hB⟩ := hrel
    have HO := Lib.hid hown
    have HB2 := Lib.hid hB
    have hs : w.heap.size ≤ wr.heap.size := hB.size
    clear hown hB
    by_cases hlt : j < n
    · obtain ⟨x, hx⟩ := getElem?_of_lt (l := l) (k := j) (by rw [HN.out]; exact hlt)
      have HX := Lib.hid hx
      clear hx
      go_wp2_with (fail)
      (with_reducible refine (worst_any A n c j l x _ ((HA.out.below HB2.out (Nat.le_refl _)).more hs) HN.out hn8 HG.out HX.out).mono ?_)
      rintro e w2 ⟨rfl, hb2⟩
      have HO2 := Lib.hid (own_below HO.out hb2)
      have HB3 : Hid (Below w.heap.size w w2) := HB2.out.trans (hb2.mono hs)
      have hs2 : w.heap.size ≤ w2.heap.size := HB3.out.size
      clear hb2
      go_wp2_with (at_builtin; refine wpList_append_own _ rfl _ _ 29 rfl w.heap.size 3 i0 (.int .i64 0) 1 8 Try.underlying29 hi hz0 hz1 hz2 rfl (by omega) _ _ _ rfl (HO2.out.alloc _) ⟨w2.heap.size, 0, none⟩ 1 1 [.int .i64 (worst l x)] rfl rfl ?c1 ?c2 ?c3 ?c4 ?c5 ?_)
      case c1 => exact cell_one_new _ _ _
      case c2 => simp [Value.oneCell']
      case c3 => unfold maxLen; omega
      case c4 => omega
      case c5 => simp; omega
      intro v' w3 hown3 hgrow3 _
      have HO3 : Hid (w3.ownsRow w.heap.size 3 1 v' (j + 1) (icells (ws.take (j + 1)))) := by
        rw [icells_snoc (HWS.out j x HX.out)]
        exact hown3
      have HB4 : Hid (Below w.heap.size w w3) := (HB3.out.alloc hs2 _).grown hgrow3 (by simp; omega) (fun k hk => (HO2.out.lt k hk).1)
      clear hown3 hgrow3
      go_wp2
      go_roundw
      case rel => exact ⟨j + 1, by omega, by go_num, HO3.out, HB4.out⟩
      case measure => simp [intOf]; omega
    · have hjn : j = n := by omega
      subst hjn
      obtain ⟨A', c', hv, hc1, hc2, hr⟩ := own_read HO.out
      have HR : Hid (Rd wr wr.heap.size A' (icells ws)) := by
        rw [List.take_of_length_le (by rw [HWN.out]; omega)] at hr
        exact hr
      subst hv
      clear hr HO
      go_wp2
      go_ret2
      exact ⟨A', c', rfl, hc1, hc2, HR.out, HB2.out⟩
end Go.Proofs.Ytcfhnjdaijdoiaa
