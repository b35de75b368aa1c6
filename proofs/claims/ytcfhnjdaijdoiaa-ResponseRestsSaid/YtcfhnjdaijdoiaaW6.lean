/-
  response.Assign.
-/
import Derived.Test.YtcfhnjdaijdoiaaW5
import Derived.Test.YtcfhnjdaijdoiaaPlain3
import Derived.Test.YtcfhnjdaijdoiaaMem2
namespace Go.Proofs.Ytcfhnjdaijdoiaa
open Go.RowKit

theorem info34 : (Try.prog.info? 34).map (fun i => (i.zero, i.size, i.bytes)) = some (some (.agg #[.int .i64 0, .int .i64 0, .int .i64 0, .int .i64 0, .int .i64 0]), 5, 40) := by kernel_rfl

set_option maxHeartbeats 1000000 in
theorem Assign_err (A : Option Addr) (n c : Nat) (l : List Tsk) (w : World) (hA : Rd w w.heap.size A (tcells l)) (hn : l.length = n) (hc : n ≤ c) (hcc : c ≤ maxLen) (k : Int) (hk : check l = k) (hk0 : k ≠ 0) :
    Calls Try.prog 41 #[.slice A n c] w fun e w' => e = .returned (.tuple #[.slice none 0 0, .bool false, .iface 47 (.int .i64 k)]) ∧ Below w.heap.size w w' := by
  have HC : Hid (errV (check l) = .iface 47 (.int .i64 k)) := by rw [hk]; exact errV_ne hk0
  have h1 := ne_err
  clear hk hk0
  go_enter Try.func41, Try.ntmps41
  go_wp2_with (fail)
  (with_reducible refine (check_any A n c l _ hA hn hc hcc).mono ?_)
  rintro e w1 ⟨rfl, hb⟩
  rw [HC.out]
  have HB := Lib.hid hb
  clear hb
  go_wp2
  go_ret3
  exact ⟨rfl, HB.out⟩

set_option maxHeartbeats 2000000 in
theorem Assign_ok (A : Option Addr) (n c : Nat) (l : List Tsk) (w : World) (hA : Rd w w.heap.size A (tcells l)) (hn : l.length = n) (hc : n ≤ c) (hcc : c ≤ maxLen) (hk : check l = 0) :
    Calls Try.prog 41 #[.slice A n c] w fun e w' => ∃ A' c', e = .returned (.tuple #[.slice A' n c', .bool (meets (assign l)), .nilIface]) ∧ n ≤ c' ∧ c' ≤ maxLen ∧ Rd w' w'.heap.size A' (tcells (assign l)) ∧ Below w.heap.size w w' := by
  have HC : Hid (errV (check l) = .nilIface) := by rw [hk]; rfl
  have h1 := ne_nil
  have hn8 := (good_of_check hk).2
  rw [hn] at hn8
  have HK2 := Lib.hid (assign_check hk)
  have HA := Lib.hid hA
  have HN := Lib.hid hn
  have HN5 : Hid ((tcells l).length = n * 5) := by rw [tcells_length, hn]; rfl
  obtain ⟨i0, hi, hz0, hz1, hz2⟩ := info_parts info34
  clear hk hn hA
  go_enter Try.func41, Try.ntmps41
  go_wp2_with (fail)
  (with_reducible refine (check_any A n c l _ HA.out HN.out hc hcc).mono ?_)
  rintro e w1 ⟨rfl, hb⟩
  rw [HC.out]
  have HB := Lib.hid hb
  have hs : w.heap.size ≤ w1.heap.size := hb.size
  clear hb
  have hm0 : 0 ≤ maxLen := Nat.zero_le _
  go_wp2_with (at_builtin; refine wpList_append_rd _ rfl _ _ 22 rfl w.heap.size 34 i0 _ 5 40 Try.underlying22 hi hz0 hz1 hz2 rfl (by omega) _ 0 [] rfl (World.ownsRow_lit w1 #[] 0 hs hm0 rfl) w.heap.size A n c (tcells l) rfl (HA.out.below (HB.out.alloc hs _) (Nat.le_refl _)) HN5.out (tcells_one l) ?c3 ?c4 ?c5 ?_)
  case c3 => unfold maxLen; omega
  case c4 => omega
  case c5 => simp; omega
  intro v' w2 hown hgrow hat
  have HB2 : Hid (Below w.heap.size w w2) := (HB.out.alloc hs _).grown hgrow (by simp; omega) (fun k hk => by simp [Value.ownBlock] at hk; omega)
  obtain ⟨A', c', rfl, hc1, hc2, hform⟩ := own_form hown
  try simp only [Nat.zero_add, List.nil_append] at hown
  try simp only [Nat.zero_add] at hc1
  try simp only [Nat.zero_add] at hform
  have HF := Lib.hid hform
  have HO : Hid (w2.ownsRow w.heap.size 34 5 (.slice A' n c') n (tcells (assignTo l 0))) := by rw [assignTo_zero]; exact hown
  try rw [Nat.zero_add]
  clear hown hgrow hat hform HB hs
  go_wp2
  go_loopw [24] (fun i wr => ∃ j : Nat, j ≤ n ∧ i = .int .i64 j ∧ wr.ownsRow w.heap.size 34 5 (.slice A' n c') n (tcells (assignTo l j)) ∧ Below w.heap.size w wr) (fun i wr => n - (intOf i).toNat)
  case atStart => exact ⟨0, Nat.zero_le _, rfl, HO.out, HB2.out⟩
  case round =>
    obtain ⟨j, hj, rfl, hown, hB⟩ := hrel
    have HO2 := Lib.hid hown
    have HB3 := Lib.hid hB
    have hs : w.heap.size ≤ wr.heap.size := hB.size
    clear hown hB HO HB2
    by_cases hlt : j < n
    · obtain ⟨x, hx⟩ := getElem?_of_lt (l := l) (k := j) (by rw [HN.out]; exact hlt)
      obtain ⟨b, off, hAe, hbl, d0, d1, d2, d3, d4⟩ := (HA.out.below HB3.out (Nat.le_refl _)).tsk hx
      subst hAe
      have HX := Lib.hid hx
      clear hx
      go_wp2
      obtain ⟨wo, rfl⟩ : ∃ wo : World, wo = wr := ⟨_, rfl⟩
      clear d0 d1 d2 d3 d4
      go_loopw [9, 31] (fun p i wr => ∃ k : Nat, k ≤ n ∧ i = .int .i64 k ∧ p = .int .i64 (rank j x.d 0 (l.take k)) ∧ 0 ≤ rank j x.d 0 (l.take k) ∧ rank j x.d 0 (l.take k) ≤ k ∧ wr.ownsRow w.heap.size 34 5 (.slice A' n c') n (tcells (assignTo l j)) ∧ Below w.heap.size w wr ∧ wr.cell? ⟨wo.heap.size, 3, none⟩ = some (.int .i64 x.d)) (fun _ i _ => n - (intOf i).toNat)
      case atStart =>
        refine ⟨0, Nat.zero_le _, rfl, by simp [rank], by simp [rank], by simp [rank], HO2.out.alloc _, HB3.out.alloc hs _, by simp⟩
      case round =>
        obtain ⟨k, hk, rfl, rfl, p1, p2, hown, hB, hxd⟩ := hrel
        have HO3 := Lib.hid hown
        have HB4 := Lib.hid hB
        have hs2 : w.heap.size ≤ wr.heap.size := hB.size
        have hlt2 : wo.heap.size < wr.heap.size := World.block_lt_of_cell? wr _ hxd
        clear hown hB
        by_cases hkn : k < n
        · obtain ⟨y, hy⟩ := getElem?_of_lt (l := l) (k := k) (by rw [HN.out]; exact hkn)
          obtain ⟨b', off', hAe, hbl', e0, e1, e2, e3, e4⟩ := (HA.out.below HB4.out (Nat.le_refl _)).tsk hy
          obtain ⟨rfl, rfl⟩ : b = b' ∧ off = off' := by simpa using hAe
          have HS := Lib.hid (rank_step j x.d l k y hy)
          clear hy hAe
          by_cases h1 : y.d < x.d
          · have HR : Hid (rank j x.d 0 (l.take (k + 1)) = rank j x.d 0 (l.take k) + 1) := by
              have := HS.out
              rw [if_pos (Or.inl h1)] at this
              exact this
            go_wp2
            go_roundw
            case rel => exact ⟨k + 1, by omega, by go_num, by rw [HR.out], by rw [HR.out]; omega, by rw [HR.out]; omega, HO3.out.alloc _, HB4.out.alloc hs2 _, by rw [World.cell?_alloc_past _ _ _ hlt2]; exact hxd⟩
            case measure => simp [intOf]; omega
          · by_cases h2 : y.d = x.d
            · have h2' : (y.d == x.d) = true := by simpa using h2
              by_cases h3 : k < j
              · have HR : Hid (rank j x.d 0 (l.take (k + 1)) = rank j x.d 0 (l.take k) + 1) := by
                  have := HS.out
                  rw [if_pos (Or.inr ⟨h2, h3⟩)] at this
                  exact this
                clear h2
                go_wp2
                go_roundw
                case rel => exact ⟨k + 1, by omega, by go_num, by rw [HR.out], by rw [HR.out]; omega, by rw [HR.out]; omega, HO3.out.alloc _, HB4.out.alloc hs2 _, by rw [World.cell?_alloc_past _ _ _ hlt2]; exact hxd⟩
                case measure => simp [intOf]; omega
              · have HR : Hid (rank j x.d 0 (l.take (k + 1)) = rank j x.d 0 (l.take k)) := by
                  have := HS.out
                  rw [if_neg (by omega), Int.add_zero] at this
                  exact this
                clear h2
                go_wp2
                go_roundw
                case rel => exact ⟨k + 1, by omega, by go_num, by rw [HR.out], by rw [HR.out]; omega, by rw [HR.out]; omega, HO3.out.alloc _, HB4.out.alloc hs2 _, by rw [World.cell?_alloc_past _ _ _ hlt2]; exact hxd⟩
                case measure => simp [intOf]; omega
            · have h2' : (y.d == x.d) = false := by simpa using h2
              have HR : Hid (rank j x.d 0 (l.take (k + 1)) = rank j x.d 0 (l.take k)) := by
                have := HS.out
                rw [if_neg (by omega), Int.add_zero] at this
                exact this
              clear h2
              go_wp2
              go_roundw
              case rel => exact ⟨k + 1, by omega, by go_num, by rw [HR.out], by rw [HR.out]; omega, by rw [HR.out]; omega, HO3.out.alloc _, HB4.out.alloc hs2 _, by rw [World.cell?_alloc_past _ _ _ hlt2]; exact hxd⟩
              case measure => simp [intOf]; omega
        · have hkn2 : k = n := by omega
          subst hkn2
          obtain ⟨g, rfl, hg1, hg2⟩ := HF.out (by omega)
          have HT : Hid (l.take k = l) := List.take_of_length_le (by rw [HN.out]; exact Nat.le_refl _)
          have HX2 : Hid ((assignTo l j)[j]? = some x) := by
            show _ = _
            rw [assignTo_get, HX.out]
            simp
          have f1 : wr.cell? ⟨g, j * 5 + 4, none⟩ = some (.int .i64 x.q) := own_tsk HO3.out HX2.out 4 (by omega)
          have f2 : wr.frozen? ⟨g, j * 5 + 4, none⟩ = false := HO3.out.frozenAt _
          have HO4 : Hid ((wr.setCell ⟨g, j * 5 + 4, none⟩ (.int .i64 (rank j x.d 0 (l.take k)))).ownsRow w.heap.size 34 5 (.slice (some ⟨g, 0, none⟩) k c') k (tcells (assignTo l (j + 1)))) := by
            rw [assignTo_step l j x HX.out, tcells_set _ j x (assignOne l j x) 4 (.int .i64 (rank j x.d 0 (l.take k))) HX2.out (by omega) (by rw [HT.out]; rfl)]
            exact (HO3.out.stored (j * 5 + 4) _).1
          have HB5 : Hid (Below w.heap.size w (wr.setCell ⟨g, j * 5 + 4, none⟩ (.int .i64 (rank j x.d 0 (l.take k))))) := HB4.out.setCell (p := ⟨g, j * 5 + 4, none⟩) hg1 _
          go_wp2
          go_roundw
          case rel => exact ⟨j + 1, by omega, by go_num, HO4.out, HB5.out⟩
          case measure => simp [intOf]; omega
    · have hjn : j = n := by omega
      subst hjn
      have HO3 : Hid (wr.ownsRow w.heap.size 34 5 (.slice A' j c') j (tcells (assign l))) := by
        have := HO2.out
        rw [assignTo_all l j (by rw [HN.out]; exact Nat.le_refl _)] at this
        exact this
      obtain ⟨A2, c2, hv, hc3, hc4, hr⟩ := own_read HO3.out
      obtain ⟨rfl, rfl⟩ : A' = A2 ∧ c' = c2 := by simpa using hv
      have HR := Lib.hid hr
      clear hr hv
      go_wp2_with (fail)
      (with_reducible refine (Meets_ok A' j c' (assign l) _ HR.out (by rw [assign_length]; exact HN.out) hc1 hc2 HK2.out).mono ?_)
      rintro e w3 ⟨rfl, hb3⟩
      have HR2 : Hid (Rd w3 w3.heap.size A' (tcells (assign l))) := (HR.out.below hb3 (Nat.le_refl _)).more hb3.size
      have HB4 : Hid (Below w.heap.size w w3) := HB3.out.trans (hb3.mono hs)
      clear hb3
      go_wp2
      go_ret3
      exact ⟨A', c', rfl, hc1, hc2, HR2.out, HB4.out⟩
end Go.Proofs.Ytcfhnjdaijdoiaa
