/-
  Firmware: Content, within, check, size, spec, pad.
-/
import Derived.Test.YtjdknddnanopaaaF3
import Derived.Test.YtjdknddnanopaaaMe
namespace Go.Proofs.Ytjdknddnanopaaa
open Go.RowKit
set_option linter.unusedVariables false

theorem within62 (n lo hi : Int) (w : World) : Calls Try.prog 62 #[.int .i64 n, .int .i64 lo, .int .i64 hi] w fun e w' => e = .returned (.bool (decide (lo ≤ n ∧ n ≤ hi))) ∧ w = w' := by
  by_cases h1 : lo ≤ n
  · have d1 : decide (lo ≤ n) = true := by simpa using h1
    by_cases h2 : n ≤ hi
    · have d2 : decide (n ≤ hi) = true := by simpa using h2
      rw [decide_eq_true (show lo ≤ n ∧ n ≤ hi from ⟨h1, h2⟩)]
      go_enter Try.func62, Try.ntmps62
      go_wp2
      go_ret
      exact ⟨rfl, rfl⟩
    · have d2 : decide (n ≤ hi) = false := by simpa using h2
      rw [decide_eq_false (show ¬ (lo ≤ n ∧ n ≤ hi) from fun h => h2 h.2)]
      go_enter Try.func62, Try.ntmps62
      go_wp2
      go_ret
      exact ⟨rfl, rfl⟩
  · have d1 : decide (lo ≤ n) = false := by simpa using h1
    rw [decide_eq_false (show ¬ (lo ≤ n ∧ n ≤ hi) from fun h => h1 h.1)]
    go_enter Try.func62, Try.ntmps62
    go_wp2
    go_ret
    exact ⟨rfl, rfl⟩

/-- The bytes of an image that two numbers make. -/
def contB (s : Int) (n : Nat) : List Int := (List.range n).map fun (i : Nat) => IntKind.u8.wrap (wrap64 (wrap64 ((i : Int) * wrap64 (wrap64 (2 * s) + 7)) + wrap64 (s * 31)))
theorem contB_length (s : Int) (n : Nat) : (contB s n).length = n := by simp [contB]
theorem contB_get (s : Int) {n i : Nat} (h : i < n) : (contB s n)[i]? = some (IntKind.u8.wrap (wrap64 (wrap64 ((i : Int) * wrap64 (wrap64 (2 * s) + 7)) + wrap64 (s * 31)))) := by simp [contB, h]
theorem contB_bytes (s : Int) (n : Nat) : Bytes (contB s n) := by
  intro x hx
  simp only [contB, List.mem_map] at hx
  obtain ⟨i, _, rfl⟩ := hx
  generalize wrap64 (wrap64 ((i : Int) * wrap64 (wrap64 (2 * s) + 7)) + wrap64 (s * 31)) = z
  have e : IntKind.u8.wrap z = z % 256 := rfl
  rw [e]
  omega

set_option maxHeartbeats 1000000 in
theorem cont_any (s n : Int) (w : World) : Calls Try.prog 25 #[.int .i64 s, .int .i64 n] w fun e w' => ∃ A N, e = .returned (.slice A N N) ∧ N = (clipI n 0 2000).toNat ∧ w'.ownsRow w.heap.size 5 1 (.slice A N N) N (kcells .u8 (contB s N)) ∧ Below w.heap.size w w' := by
  have HCL := Lib.hid (clip_any n 0 2000 w)
  obtain ⟨N, hN⟩ : ∃ N, (clipI n 0 2000).toNat = N := ⟨_, rfl⟩
  have hcl : clipI n 0 2000 = (N : Int) := by rw [← hN]; unfold clipI; omega
  have hN2 : N ≤ 2000 := by rw [← hN]; unfold clipI; omega
  rw [hcl] at HCL
  have HNN := Lib.hid hN
  clear hN hcl
  have hm8 : ∀ wx : World, (Instr.makeSlice 22 (.int .i64 N) (.int .i64 N)).run Try.prog wx = .ok (.slice (some ⟨wx.heap.size, 0, none⟩) N N) (wx.alloc (.cells (madeCells #[.int .u8 0] N) 5)) := fun wx =>
    run_make_row' 22 5 (.int .u8 0) 1 Try.underlying22 info5 rfl .i64 .i64 N (by omega) (by omega) wx
  have HC8 : Hid ((madeCells #[.int .u8 0] N).toList = kcells .u8 (List.replicate N 0)) := made_k .u8 N
  generalize madeCells #[.int .u8 0] N = C8 at *
  go_enter Try.func25, Try.ntmps25
  go_wp2_with (fail)
  (with_reducible refine HCL.out.mono ?_)
  rintro e w1 ⟨rfl, rfl⟩
  go_upto_region 2 with (fail)
  obtain ⟨W, hW⟩ : ∃ W, w.alloc (.cells C8 5) = W := ⟨_, rfl⟩
  have HBW : Hid (Below w.heap.size w W) := by rw [← hW]; exact (Below.refl _ _).alloc (Nat.le_refl _) _
  have HOW : Hid (W.ownsRow w.heap.size 5 1 (.slice (some ⟨w.heap.size, 0, none⟩) N N) N (kcells .u8 (List.replicate N 0))) := by
    rw [← hW]
    exact own_alloc HC8.out (by rw [kcells_length, List.length_replicate]) (Nat.le_refl _) (by unfold maxLen; omega)
  rw [hW]
  clear hW hm8
  go_wp2
  go_loopw [12] (fun i wr => ∃ j : Nat, j ≤ N ∧ i = .int .i64 j ∧ wr.ownsRow w.heap.size 5 1 (.slice (some ⟨w.heap.size, 0, none⟩) N N) N (kcells .u8 (lay (List.replicate N 0) 0 ((contB s N).take j))) ∧ Below w.heap.size w wr) (fun i _ => N - (intOf i).toNat)
  case atStart => exact ⟨0, by omega, rfl, by rw [List.take_zero, lay_nil]; exact HOW.out, HBW.out⟩
  case round =>
    obtain ⟨j, hj, rfl, hO, hB⟩ := hrel
    have HO := Lib.hid hO
    have HB := Lib.hid hB
    clear hO hB
    by_cases hlt : j < N
    · have hll : (lay (List.replicate N 0) 0 ((contB s N).take j)).length = N := by rw [lay_length _ _ _ (by rw [List.length_take, List.length_replicate, contB_length]; omega), List.length_replicate]
      obtain ⟨z, hz⟩ := getElem?_of_lt (l := lay (List.replicate N 0) 0 ((contB s N).take j)) (k := j) (by rw [hll]; exact hlt)
      have d0 := own_k hll HO.out hz
      have d1 : wr.frozen? ⟨w.heap.size, j, none⟩ = false := HO.out.frozenAt _
      have hst := lay_step (img := List.replicate N 0) (b := contB s N) (a := 0) (i := j) (by rw [List.length_replicate, contB_length]; omega) (contB_get s hlt)
      rw [Nat.zero_add] at hst
      have n1 := own_set_k HO.out j (IntKind.u8.wrap (wrap64 (wrap64 ((j : Int) * wrap64 (wrap64 (2 * s) + 7)) + wrap64 (s * 31))))
      rw [hst] at n1
      have HN1 := Lib.hid n1
      clear hz n1 hst hll
      have HN2 : Hid (Below w.heap.size w _) := HB.out.setCell (p := ⟨w.heap.size, j, none⟩) (Nat.le_refl _) (.int .u8 (IntKind.u8.wrap (wrap64 (wrap64 ((j : Int) * wrap64 (wrap64 (2 * s) + 7)) + wrap64 (s * 31)))))
      go_wp2
      go_roundw
      case rel => exact ⟨j + 1, by omega, by go_num, HN1.out, HN2.out⟩
      case measure => simp [intOf]; omega
    · have hjn : j = N := by omega
      subst hjn
      have hl2 : lay (List.replicate j 0) 0 ((contB s j).take j) = contB s j := by
        rw [List.take_of_length_le (by rw [contB_length]; exact Nat.le_refl _)]
        simp [lay, contB_length]
      have hfin := HO.out
      rw [hl2] at hfin
      have HFIN := Lib.hid hfin
      clear hfin hl2
      go_wp2
      go_ret
      exact ⟨_, _, rfl, HNN.out.symm, HFIN.out, HB.out⟩
end Go.Proofs.Ytjdknddnanopaaa
