/-
  Params: put; Encode.
-/
import Derived.Test.YtfeceamhlphelaaW33
import Derived.Test.YtfeceamhlphelaaW8
namespace Go.Proofs.Ytfeceamhlphelaa
open Go.RowKit
set_option linter.unusedVariables false

theorem putB_get (n : Int) (m j : Nat) (hj : j < m) : (putB n m)[j]? = some (n / 256 ^ (m - 1 - j) % 256) := by
  unfold putB
  rw [List.getElem?_map, List.getElem?_range hj]
  rfl
theorem pow_256 (d : Nat) : (2 : Int) ^ (8 * d) = 256 ^ d := by rw [Int.pow_mul]; rfl

set_option maxRecDepth 100000 in
theorem put_any (base g N cap lo m c : Nat) (l : List Int) (n : Int) (w : World) (h : w.ownsRow base 5 1 (.slice (some ⟨g, 0, none⟩) N cap) N (kcells .u8 l)) (hl : l.length = N) (hlo : lo + m ≤ N) (hm : m ≤ 8) (hn : 0 ≤ n ∧ n < 18446744073709551616) :
    Calls Try.prog 94 #[.slice (some ⟨g, lo, none⟩) m c, .int .u64 n] w fun e w' => e = .returned (.tuple #[]) ∧ w'.ownsRow base 5 1 (.slice (some ⟨g, 0, none⟩) N cap) N (kcells .u8 (lay l lo (putB n m))) ∧ w.grownBy w' (some g) := by
  have H := Lib.hid h
  have HL := Lib.hid hl
  have HLO := Lib.hid hlo
  obtain ⟨hn1, hn2⟩ := hn
  clear h hl hlo
  go_enter Try.func94, Try.ntmps94
  go_wp2
  go_loopw [7] (fun i wr => ∃ j : Nat, j ≤ m ∧ i = .int .i64 j ∧ wr.ownsRow base 5 1 (.slice (some ⟨g, 0, none⟩) N cap) N (kcells .u8 (lay l lo ((putB n m).take j))) ∧ w.grownBy wr (some g)) (fun i _ => m - (intOf i).toNat)
  case atStart => exact ⟨0, by omega, rfl, by rw [List.take_zero, lay_nil]; exact H.out, World.grownBy.refl _ _⟩
  case round =>
    obtain ⟨j, hj, rfl, hO, hG⟩ := hrel
    have HO := Lib.hid hO
    have HG := Lib.hid hG
    clear hO hG
    by_cases hlt : j < m
    · have hll : (lay l lo ((putB n m).take j)).length = N := by rw [lay_length _ _ _ (by rw [List.length_take, putB_length, HL.out]; have := HLO.out; omega), HL.out]
      obtain ⟨z, hz⟩ := getElem?_of_lt (l := lay l lo ((putB n m).take j)) (k := lo + j) (by rw [hll]; have := HLO.out; omega)
      have d0 := own_k hll HO.out hz
      have d1 : wr.frozen? ⟨g, lo + j, none⟩ = false := HO.out.frozenAt _
      obtain ⟨y, hy⟩ : ∃ y, n / 256 ^ (m - 1 - j) % 256 = y := ⟨_, rfl⟩
      have hst := lay_step (img := l) (b := putB n m) (a := lo) (i := j) (x := y) (by rw [putB_length, HL.out]; exact HLO.out) (by rw [putB_get n m j hlt, hy])
      have n1 := own_set_k HO.out (lo + j) y
      rw [hst] at n1
      have HN1 := Lib.hid n1
      have HN2 : Hid (w.grownBy (wr.setCell ⟨g, lo + j, none⟩ (.int .u8 y)) (some g)) := HG.out.trans (HO.out.stored (lo + j) (.int .u8 y)).2
      have HE : Hid (∀ d : Nat, d = 8 * (m - 1 - j) → n / 2 ^ d % 256 = y) := by
        intro d hd
        subst hd
        rw [pow_256]
        exact hy
      clear hz n1 hst hll hy
      go_wp2
      rw [HE.out _ (by omega)]
      go_roundw
      case rel => exact ⟨j + 1, by omega, by go_num, HN1.out, HN2.out⟩
      case measure => simp [intOf]; omega
    · have hjm : j = m := by omega
      subst hjm
      have hfin := HO.out
      rw [List.take_of_length_le (by rw [putB_length]; exact Nat.le_refl _)] at hfin
      have HFIN := Lib.hid hfin
      clear hfin
      go_wp2
      go_end0
      exact ⟨rfl, HFIN.out, HG.out⟩
end Go.Proofs.Ytfeceamhlphelaa
