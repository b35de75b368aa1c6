/-
  Firmware: saved, ready, work, fail, block, set of a bank; Open.
-/
import Derived.Test.YtjdknddnanopaaaF6
import Derived.Test.YtjdknddnanopaaaF11
namespace Go.Proofs.Ytjdknddnanopaaa
open Go.RowKit
set_option linter.unusedVariables false
set_option linter.unusedSimpArgs false

theorem eqb_some (d : Nat) (w : World) : (binOp .eql 40 (.pointer (some ⟨d, 0, none⟩)) (.pointer none)).run Try.prog w = .ok (.bool false) w := by kernel_rfl
section
variable {w0 w w' : World} {L : Lc} {S : Sc} {K : Kc} {f : Fl} {b : Bk}
theorem fsaved_any (h : BkAt w0 w L S K f b) (ho : StOk f b.st) (ii : Int) (i : Nat) (hii : ii = i) (hi : i < b.st.spec.length) :
    Calls Try.prog 57 #[.pointer (some ⟨K.D, 0, none⟩), .int .i64 ii] w fun e w' => e = .returned (.int .i64 (savB b i)) ∧ Below w.heap.size w w' := by
  have c3 := h.row 3 _ rfl
  have HS := Lib.hid (saved_any h.st ho)
  obtain ⟨x, hx⟩ := getElem?_of_lt (l := b.st.saved) (k := i) (by rw [ho.sl]; exact hi)
  have HX : Hid (savB b i = x) := by unfold savB; rw [Hid, hx]; rfl
  have hn : i < b.st.spec.length := hi
  have hn2 := ho.n2
  have HXX := Lib.hid hx
  generalize b.st.spec.length = n at *
  clear h ho hx
  subst hii
  go_enter Try.func57, Try.ntmps57
  go_wp2_with (fail)
  (with_reducible refine HS.out.mono ?_)
  rintro e w1 ⟨v1, rfl, hO, hB⟩
  obtain ⟨A, c, rfl, h1, h2, h3⟩ := own_read hO
  obtain ⟨bb, off, rfl, hbl, e0⟩ := h3.int HXX.out
  have HB := Lib.hid hB
  clear hO hB h3
  go_wp2
  go_ret
  exact ⟨by rw [HX.out]; rfl, HB.out⟩

theorem fready_any (h : BkAt w0 w L S K f b) : Calls Try.prog 77 #[.pointer (some ⟨K.D, 0, none⟩)] w fun e w' => e = .returned (errV (if (rdyB b f).broken = true then 20 else 0)) ∧ BkAt w0 w' L S K f (rdyB b f) ∧ OnlyX (fun g => g = K.D) w w' := by
  have e1 := eqb_some K.D
  have c0 := h.row 0 _ rfl
  have c4 := h.row 4 _ rfl
  have z4 := h.fz 4
  have HD := Lib.hid (down_any h.st.fl)
  obtain ⟨r, hr⟩ : ∃ r, (rdyB b f).broken = r := ⟨_, rfl⟩
  have HC := Lib.hid (h.cell' 4 (.bool r) (rdyB b f) rfl rfl rfl (by unfold Kc.cells; rw [hr]; rfl))
  rw [hr]
  obtain ⟨W, hW⟩ : ∃ W, w.setCell ⟨K.D, 4, none⟩ (.bool r) = W := ⟨_, rfl⟩
  rw [hW] at HC
  have d4 : W.cell? ⟨K.D, 4, none⟩ = some (.bool r) := by have := HC.out.1.row 4 _ rfl; rw [hr] at this; exact this
  have hrr : r = (b.broken || f.down) := hr.symm
  clear hr h
  by_cases hb : b.broken = true
  · have hrt : r = true := by rw [hrr, hb]; rfl
    subst hrt
    rw [hb] at c4
    clear hb hrr
    go_enter Try.func77, Try.ntmps77
    go_wp2
    go_ret
    exact ⟨rfl, HC.out⟩
  · have hb' : b.broken = false := by simpa using hb
    rw [hb'] at c4
    have hrd : f.down = r := by rw [hrr, hb']; rfl
    rw [hrd] at HD
    clear hb hb' hrr hrd
    cases r with
    | true =>
      go_enter Try.func77, Try.ntmps77
      go_wp2_with (fail)
      (with_reducible refine HD.out.mono ?_)
      rintro e w1 ⟨rfl, rfl⟩
      go_wp2
      go_ret
      exact ⟨rfl, HC.out⟩
    | false =>
      go_enter Try.func77, Try.ntmps77
      go_wp2_with (fail)
      (with_reducible refine HD.out.mono ?_)
      rintro e w1 ⟨rfl, rfl⟩
      go_wp2
      go_ret
      exact ⟨rfl, HC.out⟩
theorem ffail_any (h : BkAt w0 w L S K f b) : Calls Try.prog 79 #[.pointer (some ⟨K.D, 0, none⟩)] w fun e w' => e = .returned (.iface 77 (.int .i64 20)) ∧ BkAt w0 w' L S K f { b with broken := true } ∧ OnlyX (fun g => g = K.D) w w' := by
  have c4 := h.row 4 _ rfl
  have z4 := h.fz 4
  have HC := Lib.hid (h.cell' 4 (.bool true) { b with broken := true } rfl rfl rfl rfl)
  clear h
  go_enter Try.func79, Try.ntmps79
  go_wp2
  go_ret
  exact ⟨rfl, HC.out⟩

theorem fblock_any (h : BkAt w0 w L S K f b) (hbk : b.blocks = 2 * b.k + 2) (hk8 : b.k ≤ 8) (hfi : b.first ≤ 64) (si : Int) (s : Nat) (hsi : si = s) (hs : s ≤ 2) : Calls Try.prog 83 #[.pointer (some ⟨K.D, 0, none⟩), .int .i64 si] w fun e w' => e = .returned (.int .i64 (blkB b s : Nat)) ∧ ∃ q, w' = w.drewN q := by
  have c1 := h.row 1 _ rfl
  have c2 := h.row 2 _ rfl
  obtain ⟨k, hk⟩ : ∃ k, b.k = k := ⟨_, rfl⟩
  obtain ⟨F, hF⟩ : ∃ F, b.first = F := ⟨_, rfl⟩
  obtain ⟨M, hM⟩ : ∃ M, s * k = M := ⟨_, rfl⟩
  have HB : Hid (((blkB b s : Nat) : Int) = (F : Int) + 2 + (M : Int)) := by unfold blkB; rw [Hid, hk, hF, hM]; push_cast; rfl
  rw [hk] at hbk hk8
  obtain ⟨B, hB⟩ : ∃ B : Int, (b.blocks : Int) = B := ⟨_, rfl⟩
  rw [hB] at c2
  rw [hF] at c1 hfi
  have hB2 : B = 2 * (k : Int) + 2 := by rw [← hB, hbk]; push_cast; rfl
  have hM16 : M ≤ 16 := by rw [← hM]; have := Nat.mul_le_mul hs hk8; omega
  have e1 : (s : Int) * (B - 2) = 2 * (M : Int) := by
    rw [hB2, ← hM, show 2 * (k : Int) + 2 - 2 = 2 * (k : Int) by omega, ← Int.mul_assoc, Int.mul_comm (s : Int) 2, Int.mul_assoc]
    push_cast
    rfl
  have q0 : IntKind.i64.wrap (B - 2) = B - 2 := IntWalk.i64_in _ (by omega)
  have q1 : IntKind.i64.wrap ((s : Int) * (B - 2)) = 2 * (M : Int) := by rw [e1]; exact IntWalk.i64_in _ (by omega)
  have q2 : (2 * (M : Int)).tdiv 2 = (M : Int) := by rw [Int.tdiv_eq_ediv_of_nonneg (by omega)]; omega
  have q2' : 2 * (M : Int) / 2 = (M : Int) := by omega
  have q3 : IntKind.i64.wrap ((F : Int) + 2) = (F : Int) + 2 := IntWalk.i64_in _ (by omega)
  have q4 : IntKind.i64.wrap ((F : Int) + 2 + (M : Int)) = (F : Int) + 2 + (M : Int) := IntWalk.i64_in _ (by omega)
  subst hsi
  clear h hbk hk hF hM hB hB2 e1
  go_enter Try.func83, Try.ntmps83
  go_wp2_with (fail)
  go_quiet (fail)
  go_wp2
  go_ret
  exact ⟨by rw [HB.out]; rfl, _, rfl⟩

theorem fset_any {A : Option Addr} {n c : Nat} {l : List Int} (h : BkAt w0 w L S K f b) (ho : StOk f b.st) (ii : Int) (i : Nat) (hii : ii = i) (hi : i ≤ 9) (hn : l.length = n) (hn9 : n ≤ 9) (hA : RdX (Own5 L S) w A (icells l)) (hok : setOk b.st i l) (hl : ∀ x ∈ l, I64 x) :
    Calls Try.prog 78 #[.pointer (some ⟨K.D, 0, none⟩), .int .i64 ii, .slice A n c] w fun e w' => e = .returned .nilIface ∧ BkAt w0 w' L S K f { b with st := setN b.st i l } ∧ OnlyX (Own5 L S) w w' := by
  have g1 := ne_nil
  have HA := Lib.hid hA
  have HOK := Lib.hid hok
  have HL := Lib.hid hl
  have HO := Lib.hid ho
  have HH := Lib.hid h
  have HN := Lib.hid hn
  clear hA hok hl ho h hn
  subst hii
  go_enter Try.func78, Try.ntmps78
  go_wp2_with (fail)
  go_loopw [12] (fun v wr => ∃ j : Nat, j ≤ n ∧ v = .int .i64 j ∧ BkAt w0 wr L S K f { b with st := setN b.st i (l.take j) } ∧ OnlyX (Own5 L S) w wr) (fun v _ => n - (intOf v).toNat)
  case atStart => exact ⟨0, Nat.zero_le _, rfl, HH.out, OnlyX.refl _ _⟩
  case round =>
    obtain ⟨r, hr, rfl, hS, hX⟩ := hrel
    have HS6 := Lib.hid hS
    have HX6 := Lib.hid hX
    clear hS hX
    by_cases hr3 : r < n
    · obtain ⟨x, hx⟩ := getElem?_of_lt (l := l) (k := r) (by rw [HN.out]; exact hr3)
      obtain ⟨bb, off, rfl, hbl, e0⟩ := (HA.out.onlyX HX6.out).rd.int hx
      obtain ⟨t1, t2⟩ := setOk_take HOK.out hx
      have c3 := HS6.out.row 3 _ rfl
      have HST := Lib.hid (set_anyI HS6.out.st (setN_ok HO.out (fun y hy => HL.out y (List.mem_of_mem_take hy))) ((i : Int) + (r : Int)) (i + r) (by push_cast; rfl) x t1)
      rw [← t2] at HST
      clear hx hbl t1 t2
      go_wp2_with (fail)
      (with_reducible refine HST.out.mono ?_)
      rintro e w7 ⟨rfl, hS, hX⟩
      have HS7 : Hid (BkAt w0 w7 L S K f { b with st := setN b.st i (l.take (r + 1)) }) := HS6.out.prog hS rfl rfl hX
      have HX7 : Hid (OnlyX (Own5 L S) w w7) := HX6.out.trans hX
      clear hS hX c3
      go_wp2_with (fail)
      go_roundw
      case rel => exact ⟨r + 1, by omega, by go_num, HS7.out, HX7.out⟩
      case measure => simp [intOf]; omega
    · have hr4 : r = n := by omega
      subst hr4
      have HT : Hid (l.take r = l) := List.take_of_length_le (by rw [HN.out]; exact Nat.le_refl _)
      have HS7 : Hid (BkAt w0 wr L S K f { b with st := setN b.st i l }) := by have := HS6.out; rw [HT.out] at this; exact this
      go_wp2
      go_ret
      exact ⟨rfl, HS7.out, HX6.out⟩
end
end Go.Proofs.Ytjdknddnanopaaa
