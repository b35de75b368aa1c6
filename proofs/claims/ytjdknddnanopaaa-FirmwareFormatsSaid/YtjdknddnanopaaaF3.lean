/-
  Firmware: the checksum, and what the statements' Content is.
-/
import Derived.Test.YtjdknddnanopaaaF2
namespace Go.Proofs.Ytjdknddnanopaaa
open Go.RowKit
set_option linter.unusedVariables false

/-- A step of CRC-32. -/
def crcI (x : Int) : Int := if x % 2 = 1 then bits .xor .u32 (x / 2) 3988292384 else x / 2
def crcN : Nat → Int → Int
  | 0, x => x
  | n + 1, x => crcI (crcN n x)
def sumS (c x : Int) : Int := crcN 8 (bits .xor .u32 c x)
def sumW (b : List Int) : Int := b.foldl sumS 4294967295
def sumZ (b : List Int) : Int := bits .xor .u32 IntKind.u32.max (sumW b)
def U32 (x : Int) : Prop := 0 ≤ x ∧ x < 4294967296

theorem u32_xor (a b : Int) : U32 (bits .xor .u32 a b) := by
  obtain ⟨z, hz⟩ : ∃ z, bits .xor .u32 a b = IntKind.u32.wrap z := ⟨_, rfl⟩
  rw [hz]
  have e : IntKind.u32.wrap z = z % 4294967296 := rfl
  rw [e]
  exact ⟨Int.emod_nonneg _ (by omega), Int.emod_lt_of_pos _ (by omega)⟩
theorem u32_and_one (a : Int) (h : U32 a) : bits .and .u32 a 1 = a % 2 := by
  obtain ⟨A, rfl⟩ := Int.eq_ofNat_of_zero_le h.1
  have h2 := h.2
  show IntKind.u32.wrap ((BitVec.ofInt 32 (A : Int) &&& BitVec.ofInt 32 1).toNat : Int) = _
  have e : (BitVec.ofInt 32 (1 : Int)).toNat = 1 := by decide
  have e2 : (BitVec.ofInt 32 (A : Int)).toNat = A := by
    rw [BitVec.ofInt_natCast, BitVec.toNat_ofNat]; exact Nat.mod_eq_of_lt (by omega)
  rw [BitVec.toNat_and, e, Nat.and_one_is_mod, e2]
  show ((A % 2 : Nat) : Int) % 4294967296 = _
  omega
theorem crcI_u32 {x : Int} (h : U32 x) : U32 (crcI x) := by
  unfold crcI
  split
  · exact u32_xor _ _
  · unfold U32 at *; omega
theorem crcN_u32 : ∀ (n : Nat) {x : Int}, U32 x → U32 (crcN n x)
  | 0, x, h => h
  | n + 1, x, h => crcI_u32 (crcN_u32 n h)
theorem sumW_snoc (b : List Int) (x : Int) : sumW (b ++ [x]) = sumS (sumW b) x := by unfold sumW; rw [List.foldl_append]; rfl
theorem sumW_u32 (b : List Int) : U32 (sumW b) := by
  unfold sumW
  suffices h : ∀ c, U32 c → U32 (b.foldl sumS c) from h _ (by unfold U32; omega)
  induction b with
  | nil => exact fun c h => h
  | cons x b ih => exact fun c h => ih _ (crcN_u32 8 (u32_xor _ _))
theorem sumZ_u32 (b : List Int) : U32 (sumZ b) := u32_xor _ _

set_option maxHeartbeats 1000000 in
theorem fsum_any (A : Option Addr) (n c : Nat) (b : List Int) (w : World) (hA : Rd w w.heap.size A (kcells .u8 b)) (hn : b.length = n) (hb : Bytes b) (hm : n ≤ 140737488351232) :
    Calls Try.prog 10 #[.slice A n c] w fun e w' => e = .returned (.int .u32 (sumZ b)) ∧ ∃ q, w' = w.drewN q := by
  have HN := Lib.hid hn
  have HB := Lib.hid hb
  have HA := Lib.hid hA
  clear hn hA hb
  go_enter Try.func10, Try.ntmps10
  go_wp2
  go_loopw [3, 8] (fun s i wr => ∃ k : Nat, k ≤ n ∧ i = .int .i64 k ∧ s = .int .u32 (sumW (b.take k)) ∧ ∃ q, wr = w.drewN q) (fun _ i _ => n - (intOf i).toNat)
  case atStart => exact ⟨0, Nat.zero_le _, rfl, rfl, 0, rfl⟩
  case round =>
    obtain ⟨k, hk, rfl, rfl, q, rfl⟩ := hrel
    by_cases hlt : k < n
    · obtain ⟨x, hx⟩ := getElem?_of_lt (l := b) (k := k) (by rw [HN.out]; exact hlt)
      obtain ⟨bb, off, rfl, hbl, e0⟩ := HA.out.kint hx
      have hxb := HB.out x (List.mem_of_getElem? hx)
      have HT : Hid (sumW (b.take (k + 1)) = crcN 8 (bits .xor .u32 (sumW (b.take k)) x)) := by
        rw [Hid, take_snoc_get b k x hx, sumW_snoc]; rfl
      obtain ⟨C, hC⟩ : ∃ C, sumW (b.take k) = C := ⟨_, rfl⟩
      rw [hC] at HT ⊢
      have hx2 : x % 4294967296 = x := Int.emod_eq_of_lt hxb.1 (by omega)
      obtain ⟨Y, hY⟩ : ∃ Y, bits .xor .u32 C x = Y := ⟨_, rfl⟩
      have HU : Hid (U32 Y) := by rw [← hY]; exact u32_xor _ _
      rw [hY] at HT
      clear hx hC
      go_wp2
      go_loopw [3, 16] (fun s i wr => ∃ j : Nat, j ≤ 8 ∧ i = .int .i64 j ∧ s = .int .u32 (crcN j Y) ∧ ∃ q, wr = w.drewN q) (fun _ i _ => 8 - (intOf i).toNat)
      case atStart => exact ⟨0, Nat.zero_le _, rfl, rfl, _, rfl⟩
      case round =>
        obtain ⟨j, hj, rfl, rfl, q, rfl⟩ := hrel
        by_cases hj8 : j < 8
        · have HJ := Lib.hid (crcN_u32 j HU.out)
          have HJ1 : Hid (crcN (j + 1) Y = crcI (crcN j Y)) := rfl
          obtain ⟨Z, hZ⟩ : ∃ Z, crcN j Y = Z := ⟨_, rfl⟩
          rw [hZ] at HJ HJ1 ⊢
          have ha := u32_and_one Z HJ.out
          obtain ⟨z1, z2⟩ := HJ.out
          have hd : Z / 2 % 4294967296 = Z / 2 := Int.emod_eq_of_lt (by omega) (by omega)
          by_cases ho : Z % 2 = 1
          · have HI : Hid (crcI Z = bits .xor .u32 (Z / 2) 3988292384) := by unfold crcI; rw [Hid, if_pos ho]
            rw [ho] at ha
            clear hZ
            go_wp2
            go_roundw
            case rel => exact ⟨j + 1, by omega, by go_num, by rw [HJ1.out, HI.out], _, rfl⟩
            case measure => simp [intOf]; omega
          · have HI : Hid (crcI Z = Z / 2) := by unfold crcI; rw [Hid, if_neg ho]
            have ho2 : Z % 2 = 0 := by omega
            rw [ho2] at ha
            clear hZ ho
            go_wp2
            go_roundw
            case rel => exact ⟨j + 1, by omega, by go_num, by rw [HJ1.out, HI.out], _, rfl⟩
            case measure => simp [intOf]; omega
        · have hj9 : j = 8 := by omega
          subst hj9
          go_wp2
          go_roundw
          case rel => exact ⟨k + 1, by omega, by go_num, by rw [HT.out], _, rfl⟩
          case measure => simp [intOf]; omega
    · have hkn : k = n := by omega
      subst hkn
      have HE : Hid (b.take k = b) := List.take_of_length_le (by rw [HN.out]; omega)
      rw [HE.out]
      have HS : Hid (sumZ b = bits .xor .u32 IntKind.u32.max (sumW b)) := rfl
      generalize sumW b = C at *
      go_wp2
      go_ret
      exact ⟨by rw [HS.out]; rfl, _, rfl⟩
set_option maxHeartbeats 1000000 in
theorem rsum_any (A : Option Addr) (n c : Nat) (b : List Int) (w : World) (hA : Rd w w.heap.size A (kcells .u8 b)) (hn : b.length = n) (hb : Bytes b) (hm : n ≤ 140737488351232) :
    Calls Try.prog 11 #[.slice A n c] w fun e w' => e = .returned (.int .u32 (sumZ b)) ∧ ∃ q, w' = w.drewN q := by
  have HN := Lib.hid hn
  have HB := Lib.hid hb
  have HA := Lib.hid hA
  clear hn hA hb
  go_enter Try.func11, Try.ntmps11
  go_wp2
  go_loopw [3, 8] (fun s i wr => ∃ k : Nat, k ≤ n ∧ i = .int .i64 k ∧ s = .int .u32 (sumW (b.take k)) ∧ ∃ q, wr = w.drewN q) (fun _ i _ => n - (intOf i).toNat)
  case atStart => exact ⟨0, Nat.zero_le _, rfl, rfl, 0, rfl⟩
  case round =>
    obtain ⟨k, hk, rfl, rfl, q, rfl⟩ := hrel
    by_cases hlt : k < n
    · obtain ⟨x, hx⟩ := getElem?_of_lt (l := b) (k := k) (by rw [HN.out]; exact hlt)
      obtain ⟨bb, off, rfl, hbl, e0⟩ := HA.out.kint hx
      have hxb := HB.out x (List.mem_of_getElem? hx)
      have HT : Hid (sumW (b.take (k + 1)) = crcN 8 (bits .xor .u32 (sumW (b.take k)) x)) := by
        rw [Hid, take_snoc_get b k x hx, sumW_snoc]; rfl
      obtain ⟨C, hC⟩ : ∃ C, sumW (b.take k) = C := ⟨_, rfl⟩
      rw [hC] at HT ⊢
      have hx2 : x % 4294967296 = x := Int.emod_eq_of_lt hxb.1 (by omega)
      obtain ⟨Y, hY⟩ : ∃ Y, bits .xor .u32 C x = Y := ⟨_, rfl⟩
      have HU : Hid (U32 Y) := by rw [← hY]; exact u32_xor _ _
      rw [hY] at HT
      clear hx hC
      go_wp2
      go_loopw [3, 16] (fun s i wr => ∃ j : Nat, j ≤ 8 ∧ i = .int .i64 j ∧ s = .int .u32 (crcN j Y) ∧ ∃ q, wr = w.drewN q) (fun _ i _ => 8 - (intOf i).toNat)
      case atStart => exact ⟨0, Nat.zero_le _, rfl, rfl, _, rfl⟩
      case round =>
        obtain ⟨j, hj, rfl, rfl, q, rfl⟩ := hrel
        by_cases hj8 : j < 8
        · have HJ := Lib.hid (crcN_u32 j HU.out)
          have HJ1 : Hid (crcN (j + 1) Y = crcI (crcN j Y)) := rfl
          obtain ⟨Z, hZ⟩ : ∃ Z, crcN j Y = Z := ⟨_, rfl⟩
          rw [hZ] at HJ HJ1 ⊢
          have ha := u32_and_one Z HJ.out
          obtain ⟨z1, z2⟩ := HJ.out
          have hd : Z / 2 % 4294967296 = Z / 2 := Int.emod_eq_of_lt (by omega) (by omega)
          by_cases ho : Z % 2 = 1
          · have HI : Hid (crcI Z = bits .xor .u32 (Z / 2) 3988292384) := by unfold crcI; rw [Hid, if_pos ho]
            have hb : Z.tmod 2 = 1 := by rw [Int.tmod_eq_emod_of_nonneg z1]; exact ho
            clear hZ
            go_wp2
            go_roundw
            case rel => exact ⟨j + 1, by omega, by go_num, by rw [HJ1.out, HI.out], _, rfl⟩
            case measure => simp [intOf]; omega
          · have HI : Hid (crcI Z = Z / 2) := by unfold crcI; rw [Hid, if_neg ho]
            have ho2 : Z % 2 = 0 := by omega
            have hb : Z.tmod 2 = 0 := by rw [Int.tmod_eq_emod_of_nonneg z1]; exact ho2
            clear hZ ho
            go_wp2
            go_roundw
            case rel => exact ⟨j + 1, by omega, by go_num, by rw [HJ1.out, HI.out], _, rfl⟩
            case measure => simp [intOf]; omega
        · have hj9 : j = 8 := by omega
          subst hj9
          go_wp2
          go_roundw
          case rel => exact ⟨k + 1, by omega, by go_num, by rw [HT.out], _, rfl⟩
          case measure => simp [intOf]; omega
    · have hkn : k = n := by omega
      subst hkn
      have HE : Hid (b.take k = b) := List.take_of_length_le (by rw [HN.out]; omega)
      rw [HE.out]
      have HS : Hid (sumZ b = bits .xor .u32 IntKind.u32.max (sumW b)) := rfl
      generalize sumW b = C at *
      go_wp2
      go_ret
      exact ⟨by rw [HS.out]; rfl, _, rfl⟩
end Go.Proofs.Ytjdknddnanopaaa
