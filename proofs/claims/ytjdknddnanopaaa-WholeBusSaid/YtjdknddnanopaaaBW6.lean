
/-
  Bytes of a number of a type.
-/
import Derived.Test.YtjdknddnanopaaaBW5
namespace Go.Proofs.Ytjdknddnanopaaa.Bus
open Go.RowKit
set_option linter.unusedVariables false

theorem info5 : (Try.prog.info? 5).map (fun i => (i.zero, i.size, i.bytes)) = some (some (.int .u8 0), 1, 1) := by kernel_rfl
theorem cell_one_new (w : World) (u : Value) (t : TypeId) : ∀ j x, [u][j]? = some x → (w.alloc (.cells #[u] t)).cell? ((⟨w.heap.size, 0, none⟩ : Addr).add j) = some x := cells_new w #[u] t [u] rfl

theorem kcells_append (k : IntKind) (a b : List Int) : kcells k (a ++ b) = kcells k a ++ kcells k b := by simp [kcells]

set_option maxRecDepth 100000 in
set_option maxHeartbeats 4000000 in
theorem Bytes_any (t v : Int) (w : World) :
    Calls Try.prog 121 #[.int .i64 t, .int .i64 v] w fun e w' => ∃ A' c', e = .returned (.tuple #[.slice A' (bytesO t v).1.length c', errV (bytesO t v).2]) ∧ (bytesO t v).1.length ≤ c' ∧ c' ≤ maxLen ∧ Rd w' w'.heap.size A' (kcells .u8 (bytesO t v).1) ∧ Below w.heap.size w w' := by
  obtain ⟨kd, hkd⟩ : ∃ kd, kindOf t = kd := ⟨_, rfl⟩
  have HKD := Lib.hid hkd
  have HO : Hid (bytesO t v = if kd.n = 0 then ([], 7) else if v < kd.lo ∨ kd.hi < v then ([], 3) else (bytesTo v kd.n, 0)) := by
    show _ = _
    unfold bytesO
    rw [hkd]
  have hlo : kd.n ≤ 4 ∧ -2147483648 ≤ kd.lo ∧ kd.hi ≤ 4294967295 := by
    rcases kind_cases t with h | h | h | h | h | h | h | h <;> rw [hkd] at h <;> rw [h.1] <;> simp
  obtain ⟨hn4, hl1, hl2⟩ := hlo
  obtain ⟨i0, hi, hz0, hz1, hz2⟩ := info_parts info5
  clear hkd
  go_enter Try.func121, Try.ntmps121
  go_wp2_with (fail)
  (with_reducible refine (kind_any t _).mono ?_)
  rintro e w1 ⟨rfl, rfl⟩
  rw [HKD.out]
  simp only [kindV]
  by_cases hn0 : kd.n = 0
  · have HM : Hid (bytesO t v = ([], 7)) := by rw [Hid, HO.out, if_pos hn0]
    rw [hn0]
    clear HO
    go_wp2
    go_ret2
    exact ⟨none, 0, by rw [HM.out]; rfl, by rw [HM.out]; simp, Nat.zero_le _, by rw [HM.out]; exact fun h => absurd rfl h, Below.refl _ _⟩
  have hn1 : ((kd.n : Int) == 0) = false := by simpa using hn0
  by_cases hout : v < kd.lo ∨ kd.hi < v
  · have HM : Hid (bytesO t v = ([], 3)) := by rw [Hid, HO.out, if_neg hn0, if_pos hout]
    clear HO hn0
    by_cases ho : v < kd.lo
    · go_wp2
      go_ret2
      exact ⟨none, 0, by rw [HM.out]; rfl, by rw [HM.out]; simp, Nat.zero_le _, by rw [HM.out]; exact fun h => absurd rfl h, Below.refl _ _⟩
    · have ho2 : kd.hi < v := by omega
      go_wp2
      go_ret2
      exact ⟨none, 0, by rw [HM.out]; rfl, by rw [HM.out]; simp, Nat.zero_le _, by rw [HM.out]; exact fun h => absurd rfl h, Below.refl _ _⟩
  · have HM : Hid (bytesO t v = (bytesTo v kd.n, 0)) := by rw [Hid, HO.out, if_neg hn0, if_neg hout]
    have ho1 : ¬ v < kd.lo := by omega
    have ho2 : ¬ kd.hi < v := by omega
    have hv1 : -2147483648 ≤ v := by omega
    have hv2 : v ≤ 4294967295 := by omega
    clear HO hn0 hout
    go_wp2
    go_loopw [9, 30] (fun o i wr => ∃ k : Nat, k ≤ kd.n ∧ i = .int .i64 k ∧ wr.ownsRow w.heap.size 5 1 o k (kcells .u8 (bytesTo v k)) ∧ Below w.heap.size w wr) (fun _ i _ => kd.n - (intOf i).toNat)
    case atStart => exact ⟨0, Nat.zero_le _, rfl, World.ownsRow_nil .., Below.refl _ _⟩
    case round =>
      obtain ⟨k, hk, rfl, hown, hB⟩ := hrel
      have HO2 := Lib.hid hown
      have HB2 := Lib.hid hB
      have hs : w.heap.size ≤ wr.heap.size := hB.size
      clear hown hB
      by_cases hlt : k < kd.n
      · go_wp2_with (at_builtin; refine wpList_append_own _ rfl _ _ 22 rfl w.heap.size 5 i0 (.int .u8 0) 1 1 Try.underlying22 hi hz0 hz1 hz2 rfl (by omega) _ _ _ rfl (HO2.out.alloc _) ⟨wr.heap.size, 0, none⟩ 1 1 [.int .u8 (v / 2 ^ (8 * k) % 256)] rfl rfl ?c1 ?c2 ?c3 ?c4 ?c5 ?_)
        case c1 => exact cell_one_new _ _ _
        case c2 => simp [Value.oneCell']
        case c3 => unfold maxLen; omega
        case c4 => omega
        case c5 => simp; omega
        intro v' w3 hown3 hgrow3 _
        have HO3 : Hid (w3.ownsRow w.heap.size 5 1 v' (k + 1) (kcells .u8 (bytesTo v (k + 1)))) := by
          rw [bytesTo_succ, kcells_append]
          exact hown3
        have HB4 : Hid (Below w.heap.size w w3) := (HB2.out.alloc hs _).grown hgrow3 (by simp; omega) (fun k hk => (HO2.out.lt k hk).1)
        clear hown3 hgrow3
        go_wp2
        go_roundw
        case rel => exact ⟨k + 1, by omega, by go_num, HO3.out, HB4.out⟩
        case measure => simp [intOf]; omega
      · have hkn : k = kd.n := by omega
        subst hkn
        obtain ⟨A', c', hv, hc1, hc2, hr⟩ := own_read HO2.out
        have HR := Lib.hid hr
        subst hv
        clear hr HO2
        go_wp2
        go_ret2
        exact ⟨A', c', by rw [HM.out, bytesTo_length]; rfl, by rw [HM.out, bytesTo_length]; exact hc1, hc2, by rw [HM.out]; exact HR.out, HB2.out⟩

end Go.Proofs.Ytjdknddnanopaaa.Bus
