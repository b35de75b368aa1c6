
/-
  The reference of layer 51: Zeros, number, Pages, Good, put.
-/
import Derived.Test.YtjdknddnanopaaaMe
namespace Go.Proofs.Ytjdknddnanopaaa
open Go.RowKit
set_option linter.unusedVariables false
set_option linter.unusedSimpArgs false

/-- The bits that are 0 among the first j. -/
def zcN (x : Int) : Nat → Int
  | 0 => 0
  | j + 1 => zcN x j + (if x / 2 ^ j % 2 = 0 then 1 else 0)
theorem zcN_all : ∀ n : Fin 256, zcN n.val 8 = zcB n.val := by decide +kernel
theorem zcN_8 {x : Int} (h : 0 ≤ x ∧ x < 256) : zcN x 8 = zcB x := by
  have := zcN_all ⟨x.toNat, by omega⟩
  rw [show ((⟨x.toNat, by omega⟩ : Fin 256).val : Int) = x by simp; omega] at this
  exact this
theorem and1_all : ∀ n : Fin 256, bits .and .u8 (n.val : Int) 1 = (n.val : Int) % 2 := by decide +kernel
theorem and1_u8 {x : Int} (h : 0 ≤ x ∧ x < 256) : bits .and .u8 x 1 = x % 2 := by
  have := and1_all ⟨x.toNat, by omega⟩
  rw [show ((⟨x.toNat, by omega⟩ : Fin 256).val : Int) = x by simp; omega] at this
  exact this
theorem zcN_range (x : Int) (j : Nat) : 0 ≤ zcN x j ∧ zcN x j ≤ j := by
  induction j with
  | zero => unfold zcN; omega
  | succ j ih =>
    unfold zcN
    split <;> omega
set_option maxRecDepth 100000 in
theorem zeros_r (A : Option Addr) (n c : Nat) (b : List Int) (w : World) (hA : Rd w w.heap.size A (kcells .u8 b)) (hn : b.length = n) (hb : Bytes b) (hn2 : n ≤ 1000000) :
    Calls Try.prog 136 #[.slice A n c] w fun e w' => e = .returned (.int .i64 (zerosB b)) ∧ w = w' := by
  have HA := Lib.hid hA
  have HN := Lib.hid hn
  have HB := Lib.hid hb
  clear hA hn hb
  go_enter Try.func136, Try.ntmps136
  go_wp2
  go_loopw [3, 9] (fun z i wr => ∃ k : Nat, k ≤ n ∧ i = .int .i64 k ∧ z = .int .i64 (zerosB (b.take k)) ∧ w = wr) (fun _ i _ => n - (intOf i).toNat)
  case atStart => exact ⟨0, by omega, rfl, by simp [zerosB], rfl⟩
  case round =>
    obtain ⟨k, hk, rfl, rfl, rfl⟩ := hrel
    by_cases hlt : k < n
    · obtain ⟨x, hx⟩ := getElem?_of_lt (l := b) (k := k) (by rw [HN.out]; exact hlt)
      have hxb := HB.out x (List.mem_of_getElem? hx)
      obtain ⟨ba, off, rfl, _, c0⟩ := HA.out.kint hx
      have HT : Hid (zerosB (b.take (k + 1)) = zerosB (b.take k) + zcN x 8) := by rw [Hid, take_snoc_get b k x hx, zeros_step, zcN_8 hxb]
      have hz := zeros_range (b.take k)
      rw [List.length_take, HN.out] at hz
      generalize zerosB (b.take k) = Z at *
      have HXB := Lib.hid hxb
      clear hx hxb
      go_wp2
      go_loopw [3, 13] (fun z i wr => ∃ j : Nat, j ≤ 8 ∧ i = .int .i64 j ∧ z = .int .i64 (Z + zcN x j) ∧ w = wr) (fun _ i _ => 8 - (intOf i).toNat)
      case atStart => exact ⟨0, by omega, rfl, by unfold zcN; simp, rfl⟩
      case round =>
        obtain ⟨j, hj, rfl, rfl, rfl⟩ := hrel
        by_cases hltj : j < 8
        · have hs : zcN x (j + 1) = zcN x j + (if x / 2 ^ j % 2 = 0 then 1 else 0) := rfl
          have hr := zcN_range x j
          obtain ⟨x0, x1⟩ := HXB.out
          have y0 : 0 ≤ x / 2 ^ j := Int.ediv_nonneg x0 (Int.pow_nonneg (by omega))
          have y1 : x / 2 ^ j < 256 := Int.lt_of_le_of_lt (Int.ediv_le_self _ x0) x1
          have ha := and1_u8 ⟨y0, y1⟩
          by_cases hb : x / 2 ^ j % 2 = 0
          · rw [if_pos hb] at hs
            rw [hb] at ha
            have HS := Lib.hid hs
            clear hs hb y0 y1
            go_wp2
            go_roundw
            case rel => exact ⟨j + 1, by omega, by go_num, by rw [HS.out, Int.add_assoc], by first | rfl | trivial⟩
            case measure => simp [intOf]; omega
          · have hb1 : x / 2 ^ j % 2 = 1 := by omega
            rw [if_neg hb, Int.add_zero] at hs
            rw [hb1] at ha
            have HS := Lib.hid hs
            clear hs hb hb1 y0 y1
            go_wp2
            go_roundw
            case rel => exact ⟨j + 1, by omega, by go_num, by rw [HS.out], by first | rfl | trivial⟩
            case measure => simp [intOf]; omega
        · obtain rfl : j = 8 := by omega
          go_wp2
          go_roundw
          case rel => exact ⟨k + 1, by omega, by go_num, by rw [HT.out], by first | rfl | trivial⟩
          case measure => simp [intOf]; omega
    · have hkn : k = n := by omega
      subst hkn
      have e : b.take k = b := by rw [← HN.out]; exact List.take_length
      rw [e]
      go_wp2
      go_ret
      exact ⟨rfl, rfl⟩
theorem pages_r (n : Nat) (hn : n < 1000000000000) (w : World) : Calls Try.prog 102 #[.int .i64 (n : Int)] w fun e w' => e = .returned (.int .i64 (pgs n : Nat)) ∧ w = w' := by
  have h1 : ((n : Int) + 5).tdiv 6 = ((pgs n : Nat) : Int) := by
    rw [Int.tdiv_eq_ediv_of_nonneg (by omega)]
    unfold pgs
    omega
  have h2 : ((n : Int) + 5) / 6 = ((pgs n : Nat) : Int) := by unfold pgs; omega
  have h3 : pgs n ≤ 1000000000000 := by unfold pgs; omega
  generalize pgs n = P at *
  go_enter Try.func102, Try.ntmps102
  go_wp2
  go_ret
  exact ⟨rfl, rfl⟩

set_option maxRecDepth 100000 in
theorem number_r (A : Option Addr) (n c : Nat) (b : List Int) (w : World) (hA : Rd w w.heap.size A (kcells .u8 b)) (hn : b.length = n) (hb : Bytes b) (hn2 : n ≤ 1000000) :
    Calls Try.prog 129 #[.slice A n c] w fun e w' => e = .returned (.int .i64 (asI (numB b))) ∧ w = w' := by
  have HA := Lib.hid hA
  have HN := Lib.hid hn
  have HB := Lib.hid hb
  clear hA hn hb
  go_enter Try.func129, Try.ntmps129
  go_wp2
  go_loopw [3, 8] (fun z i wr => ∃ k : Nat, k ≤ n ∧ i = .int .i64 k ∧ z = .int .u64 (numB (b.take k)) ∧ w = wr) (fun _ i _ => n - (intOf i).toNat)
  case atStart => exact ⟨0, by omega, rfl, by simp [numB], rfl⟩
  case round =>
    obtain ⟨k, hk, rfl, rfl, rfl⟩ := hrel
    by_cases hlt : k < n
    · obtain ⟨x, hx⟩ := getElem?_of_lt (l := b) (k := k) (by rw [HN.out]; exact hlt)
      have hxb := HB.out x (List.mem_of_getElem? hx)
      obtain ⟨ba, off, rfl, _, c0⟩ := HA.out.kint hx
      have HT : Hid (numB (b.take (k + 1)) = (numB (b.take k) * 256 + x) % 18446744073709551616) := by rw [Hid, take_snoc_get b k x hx, num_step]
      have hz := num_range (b.take k)
      generalize numB (b.take k) = Z at *
      have q1 := hxb.1
      have q2 := hxb.2
      clear hx hxb
      go_wp2
      go_roundw
      case rel => exact ⟨k + 1, by omega, by go_num, by rw [HT.out, IntKind.wrap_u64, IntKind.wrap_u64]; congr 1; omega, by first | rfl | trivial⟩
      case measure => simp [intOf]; omega
    · have hkn : k = n := by omega
      subst hkn
      have e : b.take k = b := by rw [← HN.out]; exact List.take_length
      rw [e]
      have E2 : Hid (asI (numB b) = wrap64 (numB b)) := by unfold asI; rw [Hid, IntKind.wrap_i64]; unfold wrap64; rfl
      go_wp2
      go_ret
      exact ⟨by rw [E2.out]; rfl, rfl⟩

theorem num_two64 {b : List Int} {x y : Int} (hx : 0 ≤ x ∧ x < 256) (hy : 0 ≤ y ∧ y < 256) (h : b = [x, y]) : numB b = x * 256 + y := by
  subst h
  show ((0 * 256 + x) % 18446744073709551616 * 256 + y) % 18446744073709551616 = _
  omega
set_option maxHeartbeats 2000000 in
theorem good_r (A : Option Addr) (n c : Nat) (b : List Int) (w : World) (hA : Rd w w.heap.size A (kcells .u8 b)) (hn : b.length = n) (hnc : n ≤ c) (hcm : c ≤ maxLen) (hb : Bytes b) :
    Calls Try.prog 128 #[.slice A n c] w fun e w' => e = .returned (.bool (goodP b)) ∧ ∃ q, w' = w.drewN q := by
  unfold maxLen at hcm
  by_cases h64 : n = 64
  · subst h64
    have HG := Lib.hid (goodP_64 hn)
    obtain ⟨x, hx⟩ := getElem?_of_lt (l := b) (k := 62) (by omega)
    obtain ⟨y, hy⟩ := getElem?_of_lt (l := b) (k := 63) (by omega)
    have hxb := hb x (List.mem_of_getElem? hx)
    have hyb := hb y (List.mem_of_getElem? hy)
    have hd : b.drop 62 = [x, y] := by
      rw [drop_cons_get b 62 x hx, drop_cons_get b 63 y hy, List.drop_of_length_le (by omega)]
    have HNU := Lib.hid (num_two64 hxb hyb hd)
    obtain ⟨ba, off, rfl, _, e0⟩ := hA.kint hx
    obtain ⟨ba', off', e', _, e1⟩ := hA.kint hy
    injection e' with e'
    injection e' with e2 e3 _
    subst e2 e3
    have r2 : Rd w w.heap.size (some ⟨ba, off, none⟩) (kcells .u8 (b.take 62)) := by
      have := hA.part 0 62
      rw [List.drop_zero] at this
      exact this
    have H86 : Hid (∀ q, Calls Try.prog 136 #[.slice (some ⟨ba, off, none⟩) 62 c] (w.drewN q) fun e w' => e = .returned (.int .i64 (zerosB (b.take 62))) ∧ w' = w.drewN q) :=
      fun q => (zeros_r _ 62 c _ _ (r2.drew (Nat.le_refl _) q) (by rw [List.length_take, hn]; rfl) (fun x hx => hb x (List.mem_of_mem_take hx)) (by omega)).mono fun _ _ h => ⟨h.1, h.2.symm⟩
    have hz := zeros_range (b.take 62)
    rw [List.length_take, hn] at hz
    obtain ⟨z1, z2⟩ := hz
    generalize zerosB (b.take 62) = Z at *
    have z3 : Z < 1000 := by omega
    have t1 : IntKind.i64.wrap (x * 256) = x * 256 := wrap_i64_small _ (by omega) (by omega)
    have t2 : IntKind.i64.wrap (x * 256 + y) = x * 256 + y := wrap_i64_small _ (by omega) (by omega)
    obtain ⟨x0, x1⟩ := hxb
    obtain ⟨y0, y1⟩ := hyb
    have q9 : (62 : Int) ≤ (c : Int) := by omega
    clear hA hn hb r2 z2 hx hy hd
    go_enter Try.func128, Try.ntmps128
    go_wp2
    go_quiet ((go_at_call 136; with_reducible exact Calls.quiet_of_same (H86.out _)))
    go_wp2
    go_ret
    exact ⟨by rw [HG.out, HNU.out]; rfl, _, rfl⟩
  · have HG := Lib.hid (goodP_no (b := b) (by omega))
    have d : ((n : Int) == 64) = false := by simp; omega
    clear hA hn hb h64
    go_enter Try.func128, Try.ntmps128
    go_wp2
    go_quiet (fail)
    go_wp2
    go_ret
    exact ⟨by rw [HG.out]; rfl, _, rfl⟩

set_option maxRecDepth 100000 in
theorem put_r (n : Int) (m : Nat) (w : World) (h1 : 1 ≤ m) (h8 : m ≤ 8) :
    Calls Try.prog 140 #[.int .i64 n, .int .i64 (m : Int)] w fun e w' => ∃ v, e = .returned v ∧ w'.ownsRow w.heap.size 5 1 v m (kcells .u8 (putB (asU n) m)) ∧ Below w.heap.size w w' := by
  obtain ⟨i5, hi5, hz50, hz51, hz52⟩ := info_parts info5
  have hU := asU_range n
  have HU : Hid (asU n = IntKind.u64.wrap n) := rfl
  go_enter Try.func140, Try.ntmps140
  go_wp2
  go_loopw [5, 6] (fun v i wr => ((∃ d : Nat, d < m ∧ i = .int .i64 (d : Int) ∧ wr.ownsRow w.heap.size 5 1 v (m - 1 - d) (kcells .u8 ((putB (asU n) m).take (m - 1 - d)))) ∨ (i = .int .i64 (-1) ∧ wr.ownsRow w.heap.size 5 1 v m (kcells .u8 (putB (asU n) m)))) ∧ Below w.heap.size w wr) (fun _ i _ => (intOf i + 1).toNat)
  case atStart => exact ⟨.inl ⟨m - 1, by omega, by congr 1; omega, by rw [show m - 1 - (m - 1) = 0 by omega, List.take_zero]; exact World.ownsRow_nil _ _ _ _⟩, Below.refl _ _⟩
  case round =>
    obtain ⟨hc, hB⟩ := hrel
    have HB := Lib.hid hB
    clear hB
    rcases hc with ⟨d, hd, rfl, hO⟩ | ⟨rfl, hO⟩
    · have HO := Lib.hid hO
      have HT : Hid ((putB (asU n) m).take (m - 1 - d + 1) = (putB (asU n) m).take (m - 1 - d) ++ [asU n / 256 ^ d % 256]) := by
        have := take_snoc_get (putB (asU n) m) (m - 1 - d) _ (putB_get (asU n) m (m - 1 - d) (by omega))
        rw [Hid, this, show m - 1 - (m - 1 - d) = d by omega]
      obtain ⟨y, hy⟩ : ∃ y, asU n / 256 ^ d % 256 = y := ⟨_, rfl⟩
      rw [hy] at HT
      have HE : Hid (∀ k : Nat, k = 8 * d → asU n / 2 ^ k % 256 = y) := by
        intro k hk
        subst hk
        rw [pow_256]
        exact hy
      have HY : Hid (IntKind.u64.wrap n / 2 ^ (8 * d) % 256 = y) := HE.out (8 * d) rfl
      clear hO hy
      go_wp2_with (at_builtin; refine wpList_append_own _ rfl _ _ 22 rfl w.heap.size 5 i5 (.int .u8 0) 1 1 Try.underlying22 hi5 hz50 hz51 hz52 rfl (by omega) _ _ _ rfl (own_below HO.out ((Below.refl _ _).alloc (Nat.le_refl _) _)) ⟨wr.heap.size, 0, none⟩ 1 1 [.int .u8 (IntKind.u64.wrap n / 2 ^ (8 * d) % 256)] rfl rfl (cell_one_new _ _ _) (by simp [Value.oneCell']) (by unfold maxLen; omega) (by omega) (by have := HB.out.size; simp; omega) ?_)
      intro v' w8 hown8 hgrow8 _
      have HO8 : Hid (w8.ownsRow w.heap.size 5 1 v' (m - 1 - d + 1) (kcells .u8 ((putB (asU n) m).take (m - 1 - d + 1)))) := by
        rw [Hid, HT.out, ← HY.out, kcells_append]
        exact hown8
      have HB8 : Hid (Below w.heap.size w w8) := (HB.out.alloc HB.out.size _).grown hgrow8 (by have := HB.out.size; simp; omega) (fun k hk => (HO.out.lt k hk).1)
      clear hown8 hgrow8
      by_cases hd0 : d = 0
      · subst hd0
        go_wp2
        go_roundw
        case rel => exact ⟨.inr ⟨by go_num, by
          have := HO8.out
          rw [show m - 1 - 0 + 1 = m by omega, List.take_of_length_le (by rw [putB_length]; exact Nat.le_refl _)] at this
          exact this⟩, HB8.out⟩
        case measure => simp [intOf]
      · obtain ⟨d', rfl⟩ : ∃ d', d = d' + 1 := ⟨d - 1, by omega⟩
        go_wp2
        go_roundw
        case rel => exact ⟨.inl ⟨d', by omega, by go_num, by
          have := HO8.out
          rw [show m - 1 - (d' + 1) + 1 = m - 1 - d' by omega] at this
          exact this⟩, HB8.out⟩
        case measure => simp [intOf]; omega
    · have HO := Lib.hid hO
      clear hO
      go_wp2
      go_ret
      exact ⟨_, rfl, HO.out, HB.out⟩
end Go.Proofs.Ytjdknddnanopaaa
