
/-
  Several texts in one: W1, W2, W3, W4, W5, W6, W7, W8, W9, Str, W10, W12, W16.
-/
import Derived.Test.YtjdknddnanopaaaChecked
import Derived.Test.YtjdknddnanopaaaMa
import Derived.Deep.DeepCutAuto
import Derived.Lib.MinMax
import Derived.Deep.RegionLaw
import Derived.Deep.OwnRows
import Derived.Laws.BytesArg
import Derived.Lib.Bytes
import Derived.Deep.RegionHeld3
/-
  Errors, pointers, within, Clone.
-/
namespace Go.Proofs.Ytjdknddnanopaaa
open Go.RowKit
set_option linter.unusedVariables false

theorem ta_err (c : Int) (w : World) : (Instr.typeAssert (.iface 77 (.int .i64 c)) 32 77 true).run Try.prog w = .ok (.tuple #[.int .i64 c, .bool true]) w := by kernel_rfl
theorem ta_nil (w : World) : (Instr.typeAssert .nilIface 32 77 true).run Try.prog w = .ok (.tuple #[.int .i64 0, .bool false]) w := by kernel_rfl
theorem ne_err (c : Int) (w : World) : (binOp .neq 32 (.iface 77 (.int .i64 c)) .nilIface).run Try.prog w = .ok (.bool true) w := by kernel_rfl
theorem ne_nil (w : World) : (binOp .neq 32 .nilIface .nilIface).run Try.prog w = .ok (.bool false) w := by kernel_rfl
theorem eq_err (c : Int) (w : World) : (binOp .eql 32 (.iface 77 (.int .i64 c)) .nilIface).run Try.prog w = .ok (.bool false) w := by kernel_rfl
theorem eq_nil (w : World) : (binOp .eql 32 .nilIface .nilIface).run Try.prog w = .ok (.bool true) w := by kernel_rfl
theorem eqp_some (d : Nat) (w : World) : (binOp .eql 30 (.pointer (some ⟨d, 0, none⟩)) (.pointer none)).run Try.prog w = .ok (.bool false) w := by kernel_rfl
theorem eqp_none (w : World) : (binOp .eql 30 (.pointer none) (.pointer none)).run Try.prog w = .ok (.bool true) w := by kernel_rfl
theorem nep_some (d : Nat) (w : World) : (binOp .neq 30 (.pointer (some ⟨d, 0, none⟩)) (.pointer none)).run Try.prog w = .ok (.bool true) w := by kernel_rfl
theorem nep_none (w : World) : (binOp .neq 30 (.pointer none) (.pointer none)).run Try.prog w = .ok (.bool false) w := by kernel_rfl

theorem num_nil (w : World) : Calls Try.prog 17 #[.nilIface] w fun e w' => e = .returned (.int .i64 0) ∧ w = w' := by
  go_enter Try.func17, Try.ntmps17
  go_wp2
  go_ret
  exact ⟨rfl, rfl⟩
theorem num_err (c : Int) (w : World) : Calls Try.prog 17 #[.iface 77 (.int .i64 c)] w fun e w' => e = .returned (.int .i64 c) ∧ w = w' := by
  have h1 := ta_err c
  go_enter Try.func17, Try.ntmps17
  go_wp2
  go_ret
  exact ⟨rfl, rfl⟩
theorem num_any (k : Int) (w : World) : Calls Try.prog 17 #[errV k] w fun e w' => e = .returned (.int .i64 k) ∧ w = w' := by
  by_cases h : k = 0
  · subst h
    exact num_nil w
  · rw [errV_ne h]
    exact num_err k w
theorem is_err (c d : Int) (w : World) : Calls Try.prog 33 #[.iface 77 (.int .i64 c), .int .i64 d] w fun e w' => e = .returned (.bool (c == d)) ∧ w = w' := by
  have h1 := ta_err c
  go_enter Try.func33, Try.ntmps33
  go_wp2
  go_ret
  exact ⟨rfl, rfl⟩
theorem is_nil (d : Int) (w : World) : Calls Try.prog 33 #[.nilIface, .int .i64 d] w fun e w' => e = .returned (.bool false) ∧ w = w' := by
  have h1 := ta_nil
  go_enter Try.func33, Try.ntmps33
  go_wp2
  go_ret
  exact ⟨rfl, rfl⟩

theorem within_yes (n lo hi : Int) (w : World) (h1 : lo ≤ n) (h2 : n ≤ hi) : Calls Try.prog 52 #[.int .i64 n, .int .i64 lo, .int .i64 hi] w fun e w' => e = .returned (.bool true) ∧ w = w' := by
  go_enter Try.func52, Try.ntmps52
  go_wp2
  go_ret
  refine ⟨?_, rfl⟩
  first | rfl | (simp; omega)
theorem within_no (n lo hi : Int) (w : World) (h : n < lo ∨ hi < n) : Calls Try.prog 52 #[.int .i64 n, .int .i64 lo, .int .i64 hi] w fun e w' => e = .returned (.bool false) ∧ w = w' := by
  by_cases h1 : n < lo
  · clear h
    go_enter Try.func52, Try.ntmps52
    go_wp2
    go_ret
    refine ⟨?_, rfl⟩
    first | rfl | (simp; omega)
  · have h2 : hi < n := by omega
    have h3 : lo ≤ n := by omega
    clear h h1
    go_enter Try.func52, Try.ntmps52
    go_wp2
    go_ret
    refine ⟨?_, rfl⟩
    first | rfl | (simp; omega)
theorem within_any (n lo hi : Int) (w : World) : Calls Try.prog 52 #[.int .i64 n, .int .i64 lo, .int .i64 hi] w fun e w' => e = .returned (.bool (decide (lo ≤ n ∧ n ≤ hi))) ∧ w = w' := by
  by_cases h : lo ≤ n ∧ n ≤ hi
  · rw [decide_eq_true h]
    exact within_yes n lo hi w h.1 h.2
  · rw [decide_eq_false h]
    exact within_no n lo hi w (by omega)

theorem info5 : (Try.prog.info? 5).map (fun i => (i.zero, i.size, i.bytes)) = some (some (.int .u8 0), 1, 1) := by kernel_rfl
theorem info3 : (Try.prog.info? 3).map (fun i => (i.zero, i.size, i.bytes)) = some (some (.int .i64 0), 1, 8) := by kernel_rfl
theorem cell_one_new (w : World) (u : Value) (t : TypeId) : ∀ j x, [u][j]? = some x → (w.alloc (.cells #[u] t)).cell? ((⟨w.heap.size, 0, none⟩ : Addr).add j) = some x := cells_new w #[u] t [u] rfl
theorem kcells_append (k : IntKind) (a b : List Int) : kcells k (a ++ b) = kcells k a ++ kcells k b := by simp [kcells]
theorem kcells_length (k : IntKind) (l : List Int) : (kcells k l).length = l.length := by simp [kcells]
theorem icells_length (l : List Int) : (icells l).length = l.length := by simp [icells]
theorem kcells_one (k : IntKind) (l : List Int) : ∀ u ∈ kcells k l, u.oneCell' = true := by
  intro u hu
  simp only [kcells, List.mem_map] at hu
  obtain ⟨x, _, rfl⟩ := hu
  rfl
theorem icells_one (l : List Int) : ∀ u ∈ icells l, u.oneCell' = true := by
  intro u hu
  simp only [icells, List.mem_map] at hu
  obtain ⟨x, _, rfl⟩ := hu
  rfl

theorem eqs8_some (a : Addr) (n c : Nat) (w : World) : (binOp .eql 22 (.slice (some a) n c) (.slice none 0 0)).run Try.prog w = .ok (.bool false) w := by kernel_rfl
theorem eqs8_none (n c : Nat) (w : World) : (binOp .eql 22 (.slice none n c) (.slice none 0 0)).run Try.prog w = .ok (.bool true) w := by kernel_rfl
theorem eqs3_some (a : Addr) (n c : Nat) (w : World) : (binOp .eql 35 (.slice (some a) n c) (.slice none 0 0)).run Try.prog w = .ok (.bool false) w := by kernel_rfl
theorem eqs3_none (n c : Nat) (w : World) : (binOp .eql 35 (.slice none n c) (.slice none 0 0)).run Try.prog w = .ok (.bool true) w := by kernel_rfl

set_option maxHeartbeats 2000000 in
theorem clone8_any (A : Option Addr) (n c B : Nat) (b : List Int) (w : World) (hA : Rd w B A (kcells .u8 b)) (hB : B ≤ w.heap.size) (hn : b.length = n) (hm : n ≤ 140737488351232) :
    Calls Try.prog 75 #[.slice A n c] w fun e w' => ∃ v', e = .returned v' ∧ w'.ownsRow w.heap.size 5 1 v' n (kcells .u8 b) ∧ Below w.heap.size w w' := by
  cases A with
  | none =>
    have hb : b = [] := by
      cases hbb : b with
      | nil => rfl
      | cons x r =>
        obtain ⟨_, _, e, _⟩ := hA (by rw [hbb]; simp [kcells])
        cases e
    subst hb
    simp at hn
    subst hn
    have h1 := eqs8_none 0 c
    clear hA
    go_enter Try.func75, Try.ntmps75
    go_wp2
    go_ret
    exact ⟨_, rfl, World.ownsRow_nil .., Below.refl _ _⟩
  | some a =>
    have h1 := eqs8_some a n c
    have HA := Lib.hid hA
    have HKL : Hid ((kcells .u8 b).length = n * 1) := by rw [Hid, kcells_length, hn]; omega
    obtain ⟨i5, hi5, hz50, hz51, hz52⟩ := info_parts info5
    have hm0 : 0 ≤ maxLen := Nat.zero_le _
    clear hA hn
    go_enter Try.func75, Try.ntmps75
    go_wp2_with (at_builtin; refine wpList_append_rd _ rfl _ _ 22 rfl w.heap.size 5 i5 (.int .u8 0) 1 1 Try.underlying22 hi5 hz50 hz51 hz52 rfl (by omega) _ 0 [] rfl (World.ownsRow_lit w #[] 0 (Nat.le_refl _) hm0 rfl) B _ n c (kcells .u8 b) rfl (HA.out.below ((Below.refl w.heap.size w).alloc (Nat.le_refl _) _) hB) HKL.out (kcells_one _ _) (by unfold maxLen; omega) (by omega) (by simp) ?_)
    intro v' w2 hown hgrow hat
    have HB2 : Hid (Below w.heap.size w w2) := ((Below.refl w.heap.size w).alloc (Nat.le_refl _) _).grown hgrow (by simp) (fun k hk => by have hk' : some w.heap.size = some k := hk; injection hk'; omega)
    try simp only [Nat.zero_add, List.nil_append] at hown
    have HO := Lib.hid hown
    clear hown hgrow hat
    go_wp2
    go_ret
    exact ⟨_, rfl, by simpa using HO.out, HB2.out⟩

set_option maxHeartbeats 2000000 in
theorem clone3_any (A : Option Addr) (n c B : Nat) (b : List Int) (w : World) (hA : Rd w B A (icells b)) (hB : B ≤ w.heap.size) (hn : b.length = n) (hm : n ≤ 1000000) :
    Calls Try.prog 76 #[.slice A n c] w fun e w' => ∃ v', e = .returned v' ∧ w'.ownsRow w.heap.size 3 1 v' n (icells b) ∧ Below w.heap.size w w' := by
  cases A with
  | none =>
    have hb : b = [] := by
      cases hbb : b with
      | nil => rfl
      | cons x r =>
        obtain ⟨_, _, e, _⟩ := hA (by rw [hbb]; simp [icells])
        cases e
    subst hb
    simp at hn
    subst hn
    have h1 := eqs3_none 0 c
    clear hA
    go_enter Try.func76, Try.ntmps76
    go_wp2
    go_ret
    exact ⟨_, rfl, World.ownsRow_nil .., Below.refl _ _⟩
  | some a =>
    have h1 := eqs3_some a n c
    have HA := Lib.hid hA
    have HKL : Hid ((icells b).length = n * 1) := by rw [Hid, icells_length, hn]; omega
    obtain ⟨i3, hi3, hz30, hz31, hz32⟩ := info_parts info3
    have hm0 : 0 ≤ maxLen := Nat.zero_le _
    clear hA hn
    go_enter Try.func76, Try.ntmps76
    go_wp2_with (at_builtin; refine wpList_append_rd _ rfl _ _ 35 rfl w.heap.size 3 i3 (.int .i64 0) 1 8 Try.underlying35 hi3 hz30 hz31 hz32 rfl (by omega) _ 0 [] rfl (World.ownsRow_lit w #[] 0 (Nat.le_refl _) hm0 rfl) B _ n c (icells b) rfl (HA.out.below ((Below.refl w.heap.size w).alloc (Nat.le_refl _) _) hB) HKL.out (icells_one _) (by unfold maxLen; omega) (by omega) (by simp) ?_)
    intro v' w2 hown hgrow hat
    have HB2 : Hid (Below w.heap.size w w2) := ((Below.refl w.heap.size w).alloc (Nat.le_refl _) _).grown hgrow (by simp) (fun k hk => by have hk' : some w.heap.size = some k := hk; injection hk'; omega)
    try simp only [Nat.zero_add, List.nil_append] at hown
    have HO := Lib.hid hown
    clear hown hgrow hat
    go_wp2
    go_ret
    exact ⟨_, rfl, by simpa using HO.out, HB2.out⟩
end Go.Proofs.Ytjdknddnanopaaa

/-
  The flash's small methods.
-/
namespace Go.Proofs.Ytjdknddnanopaaa
open Go.RowKit
set_option linter.unusedVariables false

section
variable {w0 w : World} {L : Lc} {f : Fl}

theorem FlAt.img_len (h : FlAt w0 w L f) : f.img.length ≤ 65536 := by
  rw [h.ok.len]
  have h1 := h.ok.b2
  have h2 := h.ok.p2
  have := Nat.mul_le_mul h1 h2
  omega

theorem blocks_any (h : FlAt w0 w L f) : Calls Try.prog 95 #[.pointer (some ⟨L.d, 0, none⟩)] w fun e w' => e = .returned (.int .i64 (f.wear.length : Nat)) ∧ w = w' := by
  have h1 := eqp_some L.d
  have c2 := h.c2
  generalize f.wear.length = n at *
  clear h
  go_enter Try.func95, Try.ntmps95
  go_wp2
  go_ret
  exact ⟨rfl, rfl⟩
theorem pages_any (h : FlAt w0 w L f) : Calls Try.prog 64 #[.pointer (some ⟨L.d, 0, none⟩)] w fun e w' => e = .returned (.int .i64 (f.pg : Nat)) ∧ w = w' := by
  have h1 := eqp_some L.d
  have c0 := h.c0
  clear h
  go_enter Try.func64, Try.ntmps64
  go_wp2
  go_ret
  exact ⟨rfl, rfl⟩
theorem down_any (h : FlAt w0 w L f) : Calls Try.prog 40 #[.pointer (some ⟨L.d, 0, none⟩)] w fun e w' => e = .returned (.bool f.down) ∧ w = w' := by
  have h1 := eqp_some L.d
  have c3 := h.c3
  clear h
  go_enter Try.func40, Try.ntmps40
  go_wp2
  go_ret
  exact ⟨rfl, rfl⟩

theorem image_any (h : FlAt w0 w L f) : Calls Try.prog 20 #[.pointer (some ⟨L.d, 0, none⟩)] w fun e w' => ∃ v', e = .returned v' ∧ w'.ownsRow w.heap.size 5 1 v' f.img.length (kcells .u8 f.img) ∧ Below w.heap.size w w' := by
  have h1 := eqp_some L.d
  have c1 := h.c1
  have hl := h.img_len
  obtain ⟨A, c, hv, _, _, hr⟩ := own_read h.oi
  injection hv with e1 e2 e3
  subst e1
  have HC := Lib.hid (clone8_any (some ⟨L.gi, 0, none⟩) f.img.length L.ci w.heap.size f.img w hr (Nat.le_refl _) rfl (by omega))
  generalize f.img.length = n at *
  clear h hr e3
  go_enter Try.func20, Try.ntmps20
  go_wp2_with (fail)
  (with_reducible refine HC.out.mono ?_)
  rintro e w1 ⟨v', rfl, ho, hb⟩
  have HO := Lib.hid ho
  have HB := Lib.hid hb
  clear ho hb
  go_wp2
  go_ret
  exact ⟨v', rfl, HO.out, HB.out⟩
theorem wear_any (h : FlAt w0 w L f) : Calls Try.prog 22 #[.pointer (some ⟨L.d, 0, none⟩)] w fun e w' => ∃ v', e = .returned v' ∧ w'.ownsRow w.heap.size 3 1 v' f.wear.length (icells f.wear) ∧ Below w.heap.size w w' := by
  have h1 := eqp_some L.d
  have c2 := h.c2
  have hl := h.ok.b2
  obtain ⟨A, c, hv, _, _, hr⟩ := own_read h.ow
  injection hv with e1 e2 e3
  subst e1
  have HC := Lib.hid (clone3_any (some ⟨L.gw, 0, none⟩) f.wear.length L.cw w.heap.size f.wear w hr (Nat.le_refl _) rfl (by omega))
  generalize f.wear.length = n at *
  clear h hr e3
  go_enter Try.func22, Try.ntmps22
  go_wp2_with (fail)
  (with_reducible refine HC.out.mono ?_)
  rintro e w1 ⟨v', rfl, ho, hb⟩
  have HO := Lib.hid ho
  have HB := Lib.hid hb
  clear ho hb
  go_wp2
  go_ret
  exact ⟨v', rfl, HO.out, HB.out⟩

theorem cut_any (h : FlAt w0 w L f) : Calls Try.prog 106 #[.pointer (some ⟨L.d, 0, none⟩)] w fun e w' => e = .returned (.bool (cutF f).2) ∧ FlAt w0 w' L (cutF f).1 ∧ Only L w w' ∧ w'.heap.size = w.heap.size := by
  have c4 := h.c4
  have c3 := h.c3
  have f3 := h.fz 3
  have f4 := h.fz 4
  have hf1 := h.ok.fu1
  have hf2 := h.ok.fu2
  by_cases h0 : f.fuse = 0
  · have HC : Hid (cutF f = ({ f with down := true }, true)) := by unfold cutF; rw [Hid, if_pos h0]
    have HD := Lib.hid (h.dn true)
    rw [h0] at c4
    clear h h0
    go_enter Try.func106, Try.ntmps106
    go_wp2
    go_ret
    rw [HC.out]
    exact ⟨rfl, HD.out.1, HD.out.2, by simp [World.setCell]⟩
  · by_cases hp : 0 < f.fuse
    · have HC : Hid (cutF f = ({ f with fuse := f.fuse - 1 }, false)) := by unfold cutF; rw [Hid, if_neg h0, if_pos hp]
      have HD := Lib.hid (h.fu (f.fuse - 1) (by omega) (by omega))
      clear h h0
      go_enter Try.func106, Try.ntmps106
      go_wp2
      go_ret
      rw [HC.out]
      exact ⟨rfl, HD.out.1, HD.out.2, by simp [World.setCell]⟩
    · have HC : Hid (cutF f = (f, false)) := by unfold cutF; rw [Hid, if_neg h0, if_neg hp]
      have H := Lib.hid h
      have h0' : (f.fuse == 0) = false := by simpa using h0
      clear h h0
      go_enter Try.func106, Try.ntmps106
      go_wp2
      go_ret
      rw [HC.out]
      exact ⟨rfl, H.out, Only.refl _ _, rfl⟩

theorem pick_any (h : FlAt w0 w L f) (i : Nat) (hi : i < 100000) : Calls Try.prog 107 #[.pointer (some ⟨L.d, 0, none⟩), .int .i64 i] w fun e w' => e = .returned (.int .u8 (pickF f.picks i)) ∧ w = w' := by
  have c5 := h.c5
  have hpc := h.pc
  have hpm := h.pm
  unfold maxLen at hpm
  by_cases hlt : i < f.picks.length
  · obtain ⟨y, hy⟩ := getElem?_of_lt hlt
    obtain ⟨b, off, hA, _, d0⟩ := h.pk.rd.kint hy
    have HP : Hid (pickF f.picks i = y) := by unfold pickF; rw [Hid, hy]; rfl
    rw [hA] at c5
    generalize f.picks.length = n at *
    clear h hy hA
    go_enter Try.func107, Try.ntmps107
    go_wp2
    go_ret
    exact ⟨by rw [HP.out]; rfl, rfl⟩
  · have HP : Hid (pickF f.picks i = 0) := by unfold pickF; rw [Hid, List.getElem?_eq_none (by omega)]; rfl
    generalize f.picks.length = n at *
    clear h
    go_enter Try.func107, Try.ntmps107
    go_wp2
    go_ret
    exact ⟨by rw [HP.out]; rfl, rfl⟩

/-- What at returns. -/
def atV (L : Lc) (f : Fl) (page : Int) : Value := if atF f page = 0 then .tuple #[.slice (some ⟨L.gi, 64 * page.toNat, none⟩) 64 (L.ci - 64 * page.toNat), .nilIface] else .tuple #[.slice none 0 0, errV (atF f page)]
end
end Go.Proofs.Ytjdknddnanopaaa

/-
  A page of a flash: at, Read.
-/
namespace Go.Proofs.Ytjdknddnanopaaa
open Go.RowKit
set_option linter.unusedVariables false

section
variable {w0 w : World} {L : Lc} {f : Fl}

theorem FlAt.ci (h : FlAt w0 w L f) : f.img.length ≤ L.ci ∧ L.ci ≤ maxLen := by
  obtain ⟨A, c, hv, h1, h2, hr⟩ := own_read h.oi
  injection hv with e1 e2 e3
  subst e3
  exact ⟨h1, h2⟩
theorem FlAt.cw (h : FlAt w0 w L f) : f.wear.length ≤ L.cw ∧ L.cw ≤ maxLen := by
  obtain ⟨A, c, hv, h1, h2, hr⟩ := own_read h.ow
  injection hv with e1 e2 e3
  subst e3
  exact ⟨h1, h2⟩

set_option maxRecDepth 100000 in
set_option maxHeartbeats 2000000 in
theorem at_any (h : FlAt w0 w L f) (page : Int) : Calls Try.prog 108 #[.pointer (some ⟨L.d, 0, none⟩), .int .i64 page] w fun e w' => e = .returned (atV L f page) ∧ ∃ q, w' = w.drewN q := by
  have h1 := eqp_some L.d
  have c0 := h.c0
  have c1 := h.c1
  have c2 := h.c2
  have c3 := h.c3
  by_cases hd : f.down = true
  · have HV : Hid (atV L f page = .tuple #[.slice none 0 0, .iface 77 (.int .i64 20)]) := by unfold atV atF; simp [Hid, hd, errV]
    rw [hd] at c3
    clear h hd
    go_enter Try.func108, Try.ntmps108
    go_wp2
    go_ret2
    exact ⟨by rw [HV.out]; rfl, 0, rfl⟩
  have hd' : f.down = false := by simpa using hd
  rw [hd'] at c3
  obtain ⟨M, hM⟩ : ∃ M, f.wear.length * f.pg = M := ⟨_, rfl⟩
  have hn64 := h.ok.b2
  have hp16 := h.ok.p2
  have hn1 := h.ok.b1
  have hp1 := h.ok.p1
  have e1 : ((f.wear.length : Nat) : Int) * (f.pg : Int) = (M : Int) := by rw [← hM]; push_cast; rfl
  have hM1 : 1 ≤ M := by rw [← hM]; exact Nat.mul_le_mul hn1 hp1
  have hM2 : M ≤ 1024 := by rw [← hM]; exact Nat.mul_le_mul hn64 hp16
  have hlen : f.img.length = M * 64 := by rw [h.ok.len, hM]
  have hci := h.ci
  unfold maxLen at hci
  obtain ⟨hci1, hci2⟩ := hci
  by_cases hin : 0 ≤ page ∧ page ≤ (M : Int) - 1
  · obtain ⟨pn, rfl⟩ := Int.eq_ofNat_of_zero_le hin.1
    have hpn : pn < M := by omega
    have HV : Hid (atV L f pn = .tuple #[.slice (some ⟨L.gi, 64 * pn, none⟩) 64 (L.ci - 64 * pn), .nilIface]) := by
      have h0 : atF f pn = 0 := by unfold atF; rw [if_neg hd, hM, if_neg (by omega)]
      show _ = _
      unfold atV
      rw [if_pos h0]
      rfl
    have HW : Hid (∀ wx, Calls Try.prog 52 #[.int .i64 pn, .int .i64 0, .int .i64 ((M : Int) - 1)] wx fun e w' => e = .returned (.bool true) ∧ w' = wx) := fun wx => (within_yes pn 0 ((M : Int) - 1) wx hin.1 hin.2).mono fun _ _ ⟨a, b⟩ => ⟨a, b.symm⟩
    rw [hlen] at c1
    generalize f.wear.length = n at *
    generalize f.pg = p at *
    have k1 : (pn : Int) * 64 ≤ ((pn : Int) + 1) * 64 := by omega
    have k2 : ((pn : Int) + 1) * 64 ≤ (L.ci : Int) := by omega
    have k3 : (0 : Int) ≤ (pn : Int) * 64 := by omega
    have k4 : ((pn : Int) * 64).toNat = 64 * pn := by omega
    have k5 : (((pn : Int) + 1) * 64).toNat = 64 * pn + 64 := by omega
    have k6 : ¬ (L.ci = 64 * pn) := by omega
    clear h hd hd' hin hM hlen
    go_enter Try.func108, Try.ntmps108
    go_upto_region 5 with (fail)
    go_quiet ((go_at_call 52; with_reducible exact Calls.quiet_of_same (HW.out _)))
    go_wp2
    go_ret2
    exact ⟨by rw [HV.out]; rfl, _, rfl⟩
  · have HV : Hid (atV L f page = .tuple #[.slice none 0 0, .iface 77 (.int .i64 10)]) := by
      have h0 : atF f page = 10 := by unfold atF; rw [if_neg hd, hM, if_pos (by omega)]
      unfold atV
      simp [Hid, h0, errV]
    have HW : Hid (∀ wx, Calls Try.prog 52 #[.int .i64 page, .int .i64 0, .int .i64 ((M : Int) - 1)] wx fun e w' => e = .returned (.bool false) ∧ w' = wx) := fun wx => (within_no page 0 ((M : Int) - 1) wx (by omega)).mono fun _ _ ⟨a, b⟩ => ⟨a, b.symm⟩
    generalize f.wear.length = n at *
    generalize f.pg = p at *
    clear h hd hd' hin hM hlen c1
    go_enter Try.func108, Try.ntmps108
    go_upto_region 5 with (fail)
    go_quiet ((go_at_call 52; with_reducible exact Calls.quiet_of_same (HW.out _)))
    go_wp2
    go_ret2
    exact ⟨by rw [HV.out]; rfl, _, rfl⟩
end
end Go.Proofs.Ytjdknddnanopaaa

/-
  A flash: Read, Start, Fuse.
-/
namespace Go.Proofs.Ytjdknddnanopaaa
open Go.RowKit
set_option linter.unusedVariables false

/-- Part of a slice. -/
theorem Rd.part {w : World} {B bb off : Nat} {k : IntKind} {b : List Int} (h : Rd w B (some ⟨bb, off, none⟩) (kcells k b)) (i n : Nat) : Rd w B (some ⟨bb, off + i, none⟩) (kcells k ((b.drop i).take n)) := by
  intro hne
  have hb : kcells k b ≠ [] := by
    intro e
    apply hne
    have : b = [] := by simpa [kcells] using e
    subst this
    simp [kcells]
  obtain ⟨b', off', e, hlt, hc⟩ := h hb
  obtain ⟨rfl, rfl⟩ : bb = b' ∧ off = off' := by simpa using e
  refine ⟨bb, off + i, rfl, hlt, fun j u hu => ?_⟩
  rw [Nat.add_assoc]
  refine hc _ _ ?_
  simp only [kcells, List.map_take, List.map_drop, List.getElem?_take] at hu ⊢
  split at hu
  · rw [List.getElem?_drop] at hu
    exact hu
  · cases hu
theorem own_rd {w : World} {base e size n c : Nat} {A : Option Addr} {xs : List Value} (h : w.ownsRow base e size (.slice A n c) n xs) : Rd w w.heap.size A xs := by
  obtain ⟨A', c', hv, _, _, hr⟩ := own_read h
  injection hv with e1 e2 e3
  subst e1
  exact hr

section
variable {w0 w : World} {L : Lc} {f : Fl}

theorem FlAt.page_len (h : FlAt w0 w L f) {page : Int} (h0 : atF f page = 0) : (pageF f page.toNat).length = 64 ∧ 64 * page.toNat + 64 ≤ f.img.length := by
  obtain ⟨_, a1, a2⟩ := atF_zero h0
  have hl : 64 * page.toNat + 64 ≤ f.img.length := by
    rw [h.ok.len]
    have : page.toNat + 1 ≤ f.wear.length * f.pg := by omega
    omega
  refine ⟨?_, hl⟩
  unfold pageF
  rw [List.length_take, List.length_drop]
  omega

set_option maxHeartbeats 2000000 in
theorem read_any (h : FlAt w0 w L f) (page : Int) : Calls Try.prog 115 #[.pointer (some ⟨L.d, 0, none⟩), .int .i64 page] w fun e w' => ∃ v', e = .returned (.tuple #[v', errV (readF f page).2]) ∧ w'.ownsRow w.heap.size 5 1 v' (readF f page).1.length (kcells .u8 (readF f page).1) ∧ Below w.heap.size w w' := by
  have HA := Lib.hid (at_any h page)
  by_cases h0 : atF f page = 0
  · have HV : Hid (atV L f page = .tuple #[.slice (some ⟨L.gi, 64 * page.toNat, none⟩) 64 (L.ci - 64 * page.toNat), .nilIface]) := by unfold atV; rw [Hid, if_pos h0]
    have HR : Hid (readF f page = (pageF f page.toNat, 0)) := by unfold readF; rw [Hid, if_neg (by simp [h0])]
    obtain ⟨hl, _⟩ := h.page_len h0
    have hrp : Rd w w.heap.size (some ⟨L.gi, 64 * page.toNat, none⟩) (kcells .u8 (pageF f page.toNat)) := by
      have := (own_rd h.oi).part (64 * page.toNat) 64
      rw [Nat.zero_add] at this
      exact this
    have HRP := Lib.hid hrp
    have HL := Lib.hid hl
    clear h h0 hl hrp
    generalize pageF f page.toNat = b at *
    go_enter Try.func115, Try.ntmps115
    go_wp2_with (fail)
    (with_reducible refine HA.out.mono ?_)
    rintro e w1 ⟨rfl, q, rfl⟩
    rw [HV.out]
    go_wp2_with (fail)
    (with_reducible refine (clone8_any _ 64 _ w.heap.size b (w.drewN q) (HRP.out.below (Below.drewN (Below.refl _ _) q) (Nat.le_refl _)) (Nat.le_refl _) HL.out (by omega)).mono ?_)
    rintro e w2 ⟨v', rfl, ho, hb⟩
    have HO := Lib.hid ho
    have HB : Hid (Below w.heap.size w w2) := (Below.drewN (Below.refl w.heap.size w) q).trans hb
    clear ho hb
    go_wp2
    go_ret2
    refine ⟨v', by rw [HR.out]; rfl, ?_, HB.out⟩
    rw [HR.out, HL.out]
    exact HO.out
  · have HV : Hid (atV L f page = .tuple #[.slice none 0 0, errV (atF f page)]) := by unfold atV; rw [Hid, if_neg h0]
    have HR : Hid (readF f page = ([], atF f page)) := by unfold readF; rw [Hid, if_pos h0]
    have HE : Hid (Rd w w.heap.size none (kcells .u8 [])) := fun h => absurd rfl h
    clear h h0
    generalize atF f page = k at *
    generalize hek : errV k = ek at *
    have HEK := Lib.hid hek
    clear hek
    go_enter Try.func115, Try.ntmps115
    go_wp2_with (fail)
    (with_reducible refine HA.out.mono ?_)
    rintro e w1 ⟨rfl, q, rfl⟩
    rw [HV.out]
    go_wp2_with (fail)
    (with_reducible refine (clone8_any none 0 0 w.heap.size [] (w.drewN q) (HE.out.below (Below.drewN (Below.refl _ _) q) (Nat.le_refl _)) (Nat.le_refl _) rfl (by omega)).mono ?_)
    rintro e w2 ⟨v', rfl, ho, hb⟩
    have HO := Lib.hid ho
    have HB : Hid (Below w.heap.size w w2) := (Below.drewN (Below.refl w.heap.size w) q).trans hb
    clear ho hb
    go_wp2
    go_ret2
    refine ⟨v', by rw [HR.out, HEK.out]; rfl, ?_, HB.out⟩
    rw [HR.out]
    exact HO.out

theorem start_any (h : FlAt w0 w L f) : Calls Try.prog 41 #[.pointer (some ⟨L.d, 0, none⟩)] w fun e w' => e = .returned (.tuple #[]) ∧ (∃ Ap cp, FlAt w0 w' { L with Ap := Ap, cp := cp } (startF f)) ∧ Only L w w' := by
  have h1 := eqp_some L.d
  have c3 := h.c3
  have c4 := h.c4
  have c5 := h.c5
  have f3 := h.fz 3
  have f4 := h.fz 4
  have f5 := h.fz 5
  by_cases hd : f.down = true
  · have HS : Hid (startF f = { f with down := false, fuse := -1, picks := [] }) := by unfold startF; rw [Hid, if_pos hd]
    obtain ⟨a1, a2⟩ := h.dn false
    obtain ⟨b1, b2⟩ := a1.fu (-1) (by omega) (by omega)
    obtain ⟨d1, d2⟩ := b1.pi none 0 [] (Nat.le_refl _) (Nat.zero_le _) (fun x hx => by simp at hx) (fun hx => absurd rfl hx)
    have HD := Lib.hid d1
    have HO : Hid (Only L w _) := (a2.trans b2).trans d2
    rw [hd] at c3
    clear h hd a1 a2 b1 b2 d1 d2
    go_enter Try.func41, Try.ntmps41
    go_wp2
    first
      | go_end0
      | ((try simp only [Exit.inBlock, Exit.then]); refine bodyPost_ret (results_none rfl _ _ _) rfl ?_)
    rw [HS.out]
    exact ⟨rfl, ⟨none, 0, HD.out⟩, HO.out⟩
  · have hd' : f.down = false := by simpa using hd
    have HS : Hid (startF f = f) := by unfold startF; rw [Hid, if_neg hd]
    have H := Lib.hid h
    rw [hd'] at c3
    clear h hd hd'
    go_enter Try.func41, Try.ntmps41
    go_wp2
    first
      | go_end0
      | ((try simp only [Exit.inBlock, Exit.then]); refine bodyPost_ret (results_none rfl _ _ _) rfl ?_)
    rw [HS.out]
    exact ⟨rfl, ⟨L.Ap, L.cp, H.out⟩, Only.refl _ _⟩

set_option maxHeartbeats 2000000 in
theorem fuse_any (h : FlAt w0 w L f) (n : Int) (hn1 : -9223372036854775808 ≤ n) (hn2 : n < 9223372036854775808) (A : Option Addr) (m c : Nat) (p : List Int) (hA : Rd w w.heap.size A (kcells .u8 p)) (hm : p.length = m) (hm2 : m ≤ 140737488351232) (hp : Bytes p) :
    Calls Try.prog 39 #[.pointer (some ⟨L.d, 0, none⟩), .int .i64 n, .slice A m c] w fun e w' => e = .returned (.tuple #[]) ∧ (∃ Ap cp, FlAt w0 w' { L with Ap := Ap, cp := cp } (fuseF f n p)) ∧ Only L w w' := by
  have h1 := eqp_some L.d
  have HC := Lib.hid (clone8_any A m c w.heap.size p w hA (Nat.le_refl _) hm hm2)
  have H := Lib.hid h
  have HM := Lib.hid hm
  have HP := Lib.hid hp
  clear h hA hm hp
  go_enter Try.func39, Try.ntmps39
  go_wp2_with (fail)
  (with_reducible refine HC.out.mono ?_)
  rintro e w1 ⟨v', rfl, ho, hb⟩
  obtain ⟨A', c', rfl, g1, g2, g3⟩ := own_form ho
  have h2 := H.out.later hb
  have c4 := h2.c4
  have c5 := h2.c5
  have f4 := h2.fz 4
  have f5 := h2.fz 5
  have hap : Apart L w1 A' (kcells .u8 p) := by
    intro hne
    have hm0 : 0 < m := by
      rw [← HM.out]
      cases p with
      | nil => simp [kcells] at hne
      | cons x r => simp
    obtain ⟨g, rfl, q1, q2⟩ := g3 hm0
    obtain ⟨b, off, e, hlt, hc⟩ := own_rd ho hne
    obtain ⟨rfl, rfl⟩ : g = b ∧ 0 = off := by simpa using e
    have hd := H.out.ld
    have hi := H.out.bi.2
    have hw := H.out.bw.2
    exact ⟨g, 0, rfl, q2, by omega, by omega, by omega, hc⟩
  obtain ⟨a1, a2⟩ := h2.fu (max n (-1)) (by omega) (by omega)
  obtain ⟨d1, d2⟩ := a1.pi A' c' p (by rw [HM.out]; exact g1) g2 HP.out (hap.only a2)
  rw [HM.out] at d1 d2
  have HD := Lib.hid d1
  have HO : Hid (Only L w _) := ((Only.of_below hb).trans a2).trans d2
  clear ho hb g3 h2 hap a1 a2 d1 d2
  go_wp2
  go_end0
  exact ⟨rfl, ⟨A', c', HD.out⟩, HO.out⟩
end
end Go.Proofs.Ytjdknddnanopaaa

/-
  A flash: Program.
-/
namespace Go.Proofs.Ytjdknddnanopaaa
open Go.RowKit
set_option linter.unusedVariables false

theorem lay_nil (img : List Int) (a : Nat) : lay img a [] = img := by simp [lay]
theorem lay_step {img b : List Int} {a i : Nat} {x : Int} (ha : a + b.length ≤ img.length) (hx : b[i]? = some x) : (lay img a (b.take i)).set (a + i) x = lay img a (b.take (i + 1)) := by
  have hi : i < b.length := (List.getElem?_eq_some_iff.1 hx).1
  have l1 : (b.take i).length = i := by rw [List.length_take]; omega
  have l2 : (b.take (i + 1)).length = i + 1 := by rw [List.length_take]; omega
  apply List.ext_getElem?
  intro k
  rw [lay_get _ _ _ (by omega), List.getElem?_set, lay_length _ _ _ (by omega), lay_get _ _ _ (by omega), l1, l2]
  by_cases h1 : a + i = k
  · subst h1
    rw [if_pos rfl, if_pos (by omega), if_pos (by omega), List.getElem?_take, if_pos (by omega), show a + i - a = i by omega, hx]
  · rw [if_neg h1]
    by_cases h2 : a ≤ k ∧ k < a + i
    · rw [if_pos h2, if_pos (by omega), List.getElem?_take, if_pos (by omega), List.getElem?_take, if_pos (by omega)]
    · rw [if_neg h2, if_neg (by omega)]

theorem blankF_step {b : List Int} {j : Nat} {x : Int} (hx : b[j]? = some x) (h : blankF (b.take j) = true) (he : x = 255) : blankF (b.take (j + 1)) = true := by
  rw [take_snoc_get b j x hx]
  unfold blankF at h ⊢
  rw [List.all_append, h, he]
  rfl
theorem blankF_no {b : List Int} {j : Nat} {x : Int} (hx : b[j]? = some x) (he : x ≠ 255) : blankF b = false := by
  unfold blankF
  rw [List.all_eq_false]
  exact ⟨x, List.mem_of_getElem? hx, by simpa using he⟩

section
variable {w0 w : World} {L : Lc} {f : Fl}

theorem FlAt.byte (h : FlAt w0 w L f) {k : Nat} {x : Int} (hx : f.img[k]? = some x) : w.cell? ⟨L.gi, k, none⟩ = some (.int .u8 x) := by
  have := (List.getElem?_eq_some_iff.1 hx).1
  rw [h.oi.cellAt k (by omega)]
  simp [kcells, hx]
theorem FlAt.bfz (h : FlAt w0 w L f) (k : Nat) : w.frozen? ⟨L.gi, k, none⟩ = false := h.oi.frozenAt _
theorem FlAt.num (h : FlAt w0 w L f) {k : Nat} {x : Int} (hx : f.wear[k]? = some x) : w.cell? ⟨L.gw, k, none⟩ = some (.int .i64 x) := by
  have := (List.getElem?_eq_some_iff.1 hx).1
  rw [h.ow.cellAt k (by omega)]
  simp [icells, hx]
theorem FlAt.nfz (h : FlAt w0 w L f) (k : Nat) : w.frozen? ⟨L.gw, k, none⟩ = false := h.ow.frozenAt _

set_option maxRecDepth 100000 in
set_option maxHeartbeats 4000000 in
theorem program_any (h : FlAt w0 w L f) (page : Int) (A : Option Addr) (m c : Nat) (b : List Int) (hA : Apart L w A (kcells .u8 b)) (hm : b.length = m) (hc : m ≤ c) (hcc : c ≤ maxLen) (hb : Bytes b) :
    Calls Try.prog 65 #[.pointer (some ⟨L.d, 0, none⟩), .int .i64 page, .slice A m c] w fun e w' => e = .returned (errV (progF f page b).2) ∧ FlAt w0 w' L (progF f page b).1 ∧ Only L w w' := by
  have HAT := Lib.hid (at_any h page)
  have g1 := ne_nil
  have g2 := ne_err
  unfold maxLen at hcc
  obtain ⟨Q, hQ⟩ : ∃ q, progF f page b = q := ⟨_, rfl⟩
  rw [hQ]
  have HM := Lib.hid hm
  have HAP := Lib.hid hA
  have HBY := Lib.hid hb
  unfold progF at hQ
  by_cases h0 : atF f page = 0
  case neg =>
    have HV : Hid (atV L f page = .tuple #[.slice none 0 0, errV (atF f page)]) := by unfold atV; rw [Hid, if_neg h0]
    rw [if_pos h0] at hQ
    subst hQ
    have HE := Lib.hid (errV_ne h0)
    have H := Lib.hid h
    clear h h0 hA hm hb
    generalize atF f page = k at *
    go_enter Try.func65, Try.ntmps65
    go_wp2_with (fail)
    (with_reducible refine HAT.out.mono ?_)
    rintro e w1 ⟨rfl, q, rfl⟩
    rw [HV.out, HE.out]
    have H1 := Lib.hid (H.out.drewN q)
    go_wp2
    go_ret
    exact ⟨by rw [HE.out]; rfl, H1.out, Only.of_below (Below.drewN (Below.refl _ _) q)⟩
  rw [if_neg (by simp [h0])] at hQ
  have HV : Hid (atV L f page = .tuple #[.slice (some ⟨L.gi, 64 * page.toNat, none⟩) 64 (L.ci - 64 * page.toNat), .nilIface]) := by unfold atV; rw [Hid, if_pos h0]
  obtain ⟨hpl, hpe⟩ := h.page_len h0
  have hil := h.img_len
  obtain ⟨a, ha⟩ : ∃ a, 64 * page.toNat = a := ⟨_, rfl⟩
  have HPG : Hid (∀ j, j < 64 → (pageF f page.toNat)[j]? = f.img[a + j]?) := by
    intro j hj
    unfold pageF
    rw [List.getElem?_take, if_pos hj, List.getElem?_drop, ha]
  rw [ha] at hQ HV hpe
  generalize pageF f page.toNat = pg at *
  rw [hm] at hQ
  by_cases hlen : m = 64
  case neg =>
    rw [if_pos hlen] at hQ
    subst hQ
    have H := Lib.hid h
    have hlen' : ((m : Int) != 64) = true := by simp; omega
    clear h h0 hA hm hb hlen
    go_enter Try.func65, Try.ntmps65
    go_wp2_with (fail)
    (with_reducible refine HAT.out.mono ?_)
    rintro e w1 ⟨rfl, q, rfl⟩
    rw [HV.out]
    have H1 := Lib.hid (H.out.drewN q)
    go_wp2
    go_ret
    exact ⟨rfl, H1.out, Only.of_below (Below.drewN (Below.refl _ _) q)⟩
  subst hlen
  rw [if_neg (by simp)] at hQ
  have HQ := Lib.hid hQ
  have H := Lib.hid h
  have HPL := Lib.hid hpl
  clear h h0 hA hm hb hQ hpl ha
  go_enter Try.func65, Try.ntmps65
  go_wp2_with (fail)
  (with_reducible refine HAT.out.mono ?_)
  rintro e w1 ⟨rfl, q, rfl⟩
  rw [HV.out]
  have H1 := Lib.hid (H.out.drewN q)
  have HO1 : Hid (Only L w (w.drewN q)) := Only.of_below (Below.drewN (Below.refl _ _) q)
  have HAP1 := Lib.hid (HAP.out.only HO1.out)
  generalize w.drewN q = w1 at *
  clear H HAP HAT
  go_wp2
  go_loopw [29] (fun i wr => ∃ j : Nat, j ≤ 64 ∧ i = .int .i64 j ∧ blankF (pg.take j) = true ∧ w1 = wr) (fun i _ => 64 - (intOf i).toNat)
  case atStart => exact ⟨0, by omega, rfl, by simp [blankF], rfl⟩
  case round =>
    obtain ⟨j, hj, rfl, hbl, rfl⟩ := hrel
    have HBL := Lib.hid hbl
    clear hbl
    by_cases hlt : j < 64
    · obtain ⟨x, hx⟩ := getElem?_of_lt (l := pg) (k := j) (by rw [HPL.out]; exact hlt)
      have hx2 : f.img[a + j]? = some x := by rw [← HPG.out j hlt]; exact hx
      have d0 := H1.out.byte hx2
      by_cases he : x = 255
      · have HBL2 := Lib.hid (blankF_step hx HBL.out he)
        have he' : (x != 255) = false := by simp [he]
        clear hx hx2 he
        go_wp2
        go_roundw
        case rel => exact ⟨j + 1, by omega, by go_num, HBL2.out, by first | rfl | trivial⟩
        case measure => simp [intOf]; omega
      · have HNB := Lib.hid (blankF_no hx he)
        have he' : (x != 255) = true := by simpa using he
        have hq := HQ.out
        rw [if_pos HNB.out] at hq
        subst hq
        clear hx hx2 he
        go_wp2
        go_ret
        exact ⟨rfl, H1.out, HO1.out⟩
    · have hj64 : j = 64 := by omega
      subst hj64
      have HNB : Hid (blankF pg = true) := by
        have h1 := HBL.out
        rw [List.take_of_length_le (by rw [HPL.out]; exact Nat.le_refl _)] at h1
        exact h1
      have hq := HQ.out
      rw [if_neg (by simp [HNB.out])] at hq
      have HQ2 := Lib.hid hq
      have HCUT := Lib.hid (cut_any H1.out)
      obtain ⟨s1, s2, s3, s4⟩ := cutF_same f
      have HS2 := Lib.hid s2
      have HS4 := Lib.hid s4
      obtain ⟨⟨g, fails⟩, hg⟩ : ∃ g, cutF f = g := ⟨_, rfl⟩
      rw [hg] at HCUT HQ2 HS2 HS4
      simp only at HCUT HQ2 HS2 HS4
      obtain ⟨b', hb'⟩ : ∃ b', (if fails = true then torn b f.picks else b) = b' := ⟨_, rfl⟩
      have hbl : b'.length = 64 := by rw [← hb']; split; rw [torn_length, HM.out]; exact HM.out
      have hbb : Bytes b' := by
        rw [← hb']
        split
        · exact torn_bytes HBY.out H1.out.ok.pby
        · exact HBY.out
      have HB' := Lib.hid hb'
      have HBL' := Lib.hid hbl
      have HBB := Lib.hid hbb
      clear s1 s2 s3 s4 hg hb' hbl hbb hq hlt HBL
      go_wp2_with (fail)
      (with_reducible refine HCUT.out.mono ?_)
      rintro e w2 ⟨rfl, hF, ho, _⟩
      have HF := Lib.hid hF
      have HO2 : Hid (Only L w w2) := HO1.out.trans ho
      have HAP2 := Lib.hid (HAP1.out.only ho)
      clear hF ho HAP1 H1 HCUT
      go_wp2
      go_loopw [41] (fun i wr => ∃ j : Nat, j ≤ 64 ∧ i = .int .i64 j ∧ FlAt w0 wr L { g with img := lay f.img a (b'.take j) } ∧ Only L w wr ∧ Only L w2 wr) (fun i _ => 64 - (intOf i).toNat)
      case atStart =>
        refine ⟨0, by omega, rfl, ?_, HO2.out, Only.refl _ _⟩
        rw [List.take_zero, lay_nil, ← HS2.out]
        exact HF.out
      case round =>
        obtain ⟨j, hj, rfl, hF, ho, ho2⟩ := hrel
        have HFj := Lib.hid hF
        have HOj := Lib.hid ho
        have HO2j := Lib.hid ho2
        clear hF ho ho2
        by_cases hlt : j < 64
        · obtain ⟨x, hx⟩ := getElem?_of_lt (l := b) (k := j) (by rw [HM.out]; exact hlt)
          obtain ⟨bb, oo, hA, hbs, d0⟩ := (HAP2.out.only HO2j.out).rd.kint hx
          subst hA
          obtain ⟨y, hy⟩ := getElem?_of_lt (l := b') (k := j) (by rw [HBL'.out]; exact hlt)
          obtain ⟨z, hz⟩ := getElem?_of_lt (l := lay f.img a (b'.take j)) (k := a + j) (by rw [lay_length _ _ _ (by rw [List.length_take, HBL'.out]; omega)]; omega)
          have c0 := HFj.out.byte hz
          have c1 := HFj.out.bfz (a + j)
          obtain ⟨n1, n2⟩ := HFj.out.img (a + j) y (HBB.out y (List.mem_of_getElem? hy))
          rw [lay_step (by rw [HBL'.out]; exact hpe) hy] at n1
          have HN1 := Lib.hid n1
          have HN2 := Lib.hid n2
          cases hfl : fails with
          | false =>
            have hxy : x = y := by
              have h1 := HB'.out
              rw [hfl, if_neg (by simp)] at h1
              rw [← h1, hx] at hy
              exact Option.some.inj hy
            subst hxy
            clear hx hy hz n1 n2
            go_wp2
            go_roundw
            case rel => exact ⟨j + 1, by omega, by go_num, HN1.out, HOj.out.trans HN2.out, HO2j.out.trans HN2.out⟩
            case measure => simp [intOf]; omega
          | true =>
            have HXY : Hid (bits .or .u8 x (pickF f.picks j) = y) := by
              have h1 := HB'.out
              rw [hfl, if_pos rfl] at h1
              rw [← h1, torn_get, hx] at hy
              show _ = _
              simpa [orB] using hy
            have HPK := Lib.hid (pick_any HFj.out j (by omega))
            simp only [HS4.out] at HPK
            clear hx hy hz n1 n2
            go_wp2_with (fail)
            (with_reducible refine HPK.out.mono ?_)
            rintro e w3 ⟨rfl, rfl⟩
            have hxy := HXY.out
            generalize pickF f.picks j = pk at *
            go_wp2
            go_roundw
            case rel => exact ⟨j + 1, by omega, by go_num, HN1.out, HOj.out.trans HN2.out, HO2j.out.trans HN2.out⟩
            case measure => simp [intOf]; omega
        · have hj64 : j = 64 := by omega
          subst hj64
          have hfin := HFj.out
          rw [List.take_of_length_le (by rw [HBL'.out]; exact Nat.le_refl _), ← HB'.out] at hfin
          have hq := HQ2.out
          cases hfl : fails with
          | false =>
            rw [hfl, if_neg (by simp)] at hfin hq
            subst hq
            have HFIN := Lib.hid hfin
            clear hfin
            go_wp2
            go_ret
            exact ⟨rfl, HFIN.out, HOj.out⟩
          | true =>
            rw [hfl, if_pos rfl] at hfin hq
            subst hq
            have HFIN := Lib.hid hfin
            clear hfin
            go_wp2
            go_ret
            exact ⟨rfl, HFIN.out, HOj.out⟩
end
end Go.Proofs.Ytjdknddnanopaaa

/-
  A flash: Erase.
-/
namespace Go.Proofs.Ytjdknddnanopaaa
open Go.RowKit
set_option linter.unusedVariables false

section
variable {w0 w : World} {L : Lc} {f : Fl}

set_option maxRecDepth 100000 in
set_option maxHeartbeats 4000000 in
theorem erase_any (h : FlAt w0 w L f) (block : Int) :
    Calls Try.prog 63 #[.pointer (some ⟨L.d, 0, none⟩), .int .i64 block] w fun e w' => e = .returned (errV (eraseF f block).2) ∧ FlAt w0 w' L (eraseF f block).1 ∧ Only L w w' := by
  have g1 := eqp_some L.d
  have c0 := h.c0
  have c1 := h.c1
  have c2 := h.c2
  have c3 := h.c3
  obtain ⟨Q, hQ⟩ : ∃ q, eraseF f block = q := ⟨_, rfl⟩
  rw [hQ]
  unfold eraseF at hQ
  by_cases hd : f.down = true
  · rw [if_pos hd] at hQ
    subst hQ
    have H := Lib.hid h
    rw [hd] at c3
    clear h hd
    go_enter Try.func63, Try.ntmps63
    go_wp2
    go_ret
    exact ⟨rfl, H.out, Only.refl _ _⟩
  rw [if_neg hd] at hQ
  have hd' : f.down = false := by simpa using hd
  rw [hd'] at c3
  obtain ⟨n, hn⟩ : ∃ n, f.wear.length = n := ⟨_, rfl⟩
  have hn64 := h.ok.b2
  have hn1 := h.ok.b1
  have hp16 := h.ok.p2
  have hp1 := h.ok.p1
  rw [hn] at hQ c2 hn64 hn1
  by_cases hout : block < 0 ∨ (n : Int) ≤ block
  · rw [if_pos hout] at hQ
    subst hQ
    have H := Lib.hid h
    clear h hd hd' hn
    go_enter Try.func63, Try.ntmps63
    go_wp2_with (fail)
    (with_reducible refine (within_no block 0 ((n : Int) - 1) w (by omega)).mono ?_)
    rintro e w1 ⟨rfl, rfl⟩
    go_wp2
    go_ret
    exact ⟨rfl, H.out, Only.refl _ _⟩
  rw [if_neg hout] at hQ
  obtain ⟨bn, rfl⟩ := Int.eq_ofNat_of_zero_le (by omega : 0 ≤ block)
  have hbn : bn < n := by omega
  simp only [Int.toNat_natCast] at hQ
  obtain ⟨N, hN⟩ : ∃ N, 64 * f.pg = N := ⟨_, rfl⟩
  obtain ⟨a, ha⟩ : ∃ a, N * bn = a := ⟨_, rfl⟩
  rw [hN, ha] at hQ
  have hN1 : 64 ≤ N := by omega
  have hN2 : N ≤ 1024 := by omega
  have hae : a + N ≤ f.img.length := by
    rw [h.ok.len, hn]
    have h1 : N * bn + N ≤ N * n := by
      have := Nat.mul_le_mul_left N (by omega : bn + 1 ≤ n)
      rw [Nat.mul_add, Nat.mul_one] at this
      exact this
    have h2 : n * f.pg * 64 = N * n := by rw [← hN, Nat.mul_comm (64 * f.pg), Nat.mul_assoc, Nat.mul_comm f.pg 64]
    omega
  have hil := h.img_len
  have hci := h.ci
  unfold maxLen at hci
  obtain ⟨hci1, hci2⟩ := hci
  have e1 : (f.pg : Int) * 64 = (N : Int) := by omega
  have e2 : (bn : Int) * (N : Int) = (a : Int) := by rw [← ha]; push_cast; exact Int.mul_comm _ _
  have e3 : ((bn : Int) + 1) * (N : Int) = (a : Int) + N := by rw [Int.add_mul, e2, Int.one_mul]
  have hbn64 : bn < 64 := by omega
  have k1 : (a : Int) ≤ (a : Int) + N := by omega
  have k2 : (a : Int) + N ≤ (L.ci : Int) := by omega
  have k4 : ((a : Int) + N).toNat = a + N := by omega
  have k6 : ¬ (L.ci = a) := by omega
  have hbn0 : (0 : Int) ≤ (bn : Int) := by omega
  have hbn1 : (bn : Int) < (n : Int) := by omega
  have HCUT := Lib.hid (cut_any h)
  obtain ⟨s1, s2, s3, s4⟩ := cutF_same f
  have HS2 := Lib.hid s2
  have HS3 := Lib.hid s3
  have HS4 := Lib.hid s4
  obtain ⟨⟨g, fails⟩, hg⟩ : ∃ g, cutF f = g := ⟨_, rfl⟩
  rw [hg] at HCUT hQ HS2 HS3 HS4
  simp only at HCUT hQ HS2 HS3 HS4
  obtain ⟨b', hb'⟩ : ∃ b', (if fails = true then torn ((f.img.drop a).take N) f.picks else List.replicate N 255) = b' := ⟨_, rfl⟩
  have hbl : b'.length = N := by
    rw [← hb']
    split
    · rw [torn_length, List.length_take, List.length_drop]; omega
    · rw [List.length_replicate]
  have hbb : Bytes b' := by
    rw [← hb']
    split
    · exact torn_bytes (fun x hx => h.ok.byt x (List.mem_of_mem_drop (List.mem_of_mem_take hx))) h.ok.pby
    · intro x hx
      rw [List.mem_replicate] at hx
      omega
  have HB' := Lib.hid hb'
  have HBL' := Lib.hid hbl
  have HBB := Lib.hid hbb
  have HQ := Lib.hid hQ
  obtain ⟨u, hu⟩ := getElem?_of_lt (l := f.wear) (k := bn) (by rw [hn]; exact hbn)
  have HU := Lib.hid hu
  have HWN := Lib.hid hn
  obtain ⟨il, hil0⟩ : ∃ il, f.img.length = il := ⟨_, rfl⟩
  have HIL := Lib.hid hil0
  rw [hil0] at hae hil hci1 c1
  clear hil0
  clear s1 s2 s3 s4 hg hb' hbl hbb hQ hu hn ha hN h hout hd hd'
  go_enter Try.func63, Try.ntmps63
  go_wp2_with (fail)
  (with_reducible refine (within_yes bn 0 ((n : Int) - 1) w (by omega) (by omega)).mono ?_)
  rintro e w1 ⟨rfl, rfl⟩
  go_wp2_with (fail)
  (with_reducible refine HCUT.out.mono ?_)
  rintro e w2 ⟨rfl, hF, ho, _⟩
  have HF := Lib.hid hF
  have HO2 := Lib.hid ho
  have d2 := hF.c2
  have dn : w2.cell? ⟨L.gw, bn, none⟩ = some (.int .i64 u) := hF.num (by rw [HS3.out]; exact HU.out)
  have df := hF.nfz bn
  rw [HS3.out, HWN.out] at d2
  clear hF ho HCUT c0 c1 c2 c3
  go_upto_region 11 with (fail)
  obtain ⟨x1, x2⟩ := HF.out.wr bn (wrap64 (u + 1))
  have HBU : Hid (g.wear.set bn (wrap64 (u + 1)) = bumpF f.wear bn) := by
    show _ = _
    unfold bumpF
    rw [HS3.out, HU.out]
    rfl
  rw [HBU.out] at x1
  have HF3 := Lib.hid x1
  have HO3 : Hid (Only L w _) := HO2.out.trans x2
  generalize w2.setCell ⟨L.gw, bn, none⟩ (.int .i64 (wrap64 (u + 1))) = w3 at *
  clear x1 x2 dn df d2 HF HO2
  go_wp2
  go_loopw [57] (fun i wr => ∃ j : Nat, j ≤ N ∧ i = .int .i64 j ∧ FlAt w0 wr L { g with img := lay f.img a (b'.take j), wear := bumpF f.wear bn } ∧ Only L w wr) (fun i _ => N - (intOf i).toNat)
  case atStart =>
    refine ⟨0, by omega, rfl, ?_, HO3.out⟩
    rw [List.take_zero, lay_nil, ← HS2.out]
    exact HF3.out
  case round =>
    obtain ⟨j, hj, rfl, hF, ho⟩ := hrel
    have HFj := Lib.hid hF
    have HOj := Lib.hid ho
    clear hF ho
    by_cases hlt : j < N
    · obtain ⟨y, hy⟩ := getElem?_of_lt (l := b') (k := j) (by rw [HBL'.out]; exact hlt)
      obtain ⟨z, hz⟩ := getElem?_of_lt (l := f.img) (k := a + j) (by rw [HIL.out]; omega)
      have hz2 : (lay f.img a (b'.take j))[a + j]? = some z := by
        rw [lay_get _ _ _ (by rw [List.length_take, HBL'.out, HIL.out]; omega), List.length_take, HBL'.out, if_neg (by omega)]
        exact hz
      have c0 := HFj.out.byte hz2
      have c1 := HFj.out.bfz (a + j)
      obtain ⟨n1, n2⟩ := HFj.out.img (a + j) y (HBB.out y (List.mem_of_getElem? hy))
      rw [lay_step (by rw [HBL'.out, HIL.out]; exact hae) hy] at n1
      have HN1 := Lib.hid n1
      have HN2 := Lib.hid n2
      cases hfl : fails with
      | false =>
        have hy255 : y = 255 := by
          have h1 := HB'.out
          rw [hfl, if_neg (by simp)] at h1
          rw [← h1, List.getElem?_replicate, if_pos hlt] at hy
          exact (Option.some.inj hy).symm
        subst hy255
        clear hy hz hz2 n1 n2
        go_wp2
        go_roundw
        case rel => exact ⟨j + 1, by omega, by go_num, HN1.out, HOj.out.trans HN2.out⟩
        case measure => simp [intOf]; omega
      | true =>
        have HXY : Hid (bits .or .u8 z (pickF f.picks j) = y) := by
          have h1 := HB'.out
          rw [hfl, if_pos rfl] at h1
          rw [← h1, torn_get, List.getElem?_take, if_pos hlt, List.getElem?_drop, hz] at hy
          show _ = _
          simpa [orB] using hy
        have hpk := pick_any (HFj.out.later (Below.drew (Below.refl _ _))) j (by omega)
        simp only [HS4.out] at hpk
        have HPK := Lib.hid hpk
        have HN3 := Lib.hid (HN1.out.later (Below.drew (Below.refl _ _)))
        have HN4 : Hid (Only L w _) := (HOj.out.trans HN2.out).trans (Only.of_below (Below.drew (Below.refl _ _)))
        clear hy hz hz2 n1 n2 hpk
        have hxy := HXY.out
        generalize pickF f.picks j = pk at *
        go_upto_region 15 with (fail)
        go_region_with (go_at_call 107; with_reducible refine HPK.out.mono ?_; rintro e w4 ⟨rfl, rfl⟩)
        all_goals
          go_wp2
          go_roundw
          case rel => exact ⟨j + 1, by omega, by go_num, HN3.out, HN4.out⟩
          case measure => simp [intOf]; omega
    · have hjn : j = N := by omega
      subst hjn
      have hfin := HFj.out
      rw [List.take_of_length_le (by rw [HBL'.out]; exact Nat.le_refl _), ← HB'.out] at hfin
      have hq := HQ.out
      cases hfl : fails with
      | false =>
        rw [hfl, if_neg (by simp)] at hfin hq
        subst hq
        have HFIN := Lib.hid hfin
        clear hfin
        go_wp2
        go_ret
        exact ⟨rfl, HFIN.out, HOj.out⟩
      | true =>
        rw [hfl, if_pos rfl] at hfin hq
        subst hq
        have HFIN := Lib.hid hfin
        clear hfin
        go_wp2
        go_ret
        exact ⟨rfl, HFIN.out, HOj.out⟩
end
end Go.Proofs.Ytjdknddnanopaaa

/-
  A new flash.
-/
namespace Go.Proofs.Ytjdknddnanopaaa
open Go.RowKit
set_option linter.unusedVariables false

theorem made_k (k : IntKind) (n : Nat) : (madeCells #[.int k 0] n).toList = kcells k (List.replicate n 0) := by
  apply List.ext_getElem?
  intro j
  simp only [madeCells, kcells, Array.toList_map, Array.toList_range, List.getElem?_map]
  by_cases hj : j < n
  · rw [List.getElem?_range hj, List.getElem?_replicate, if_pos hj]
    simp
    rw [Nat.mod_one]
    rfl
  · rw [List.getElem?_eq_none (by simp; omega), List.getElem?_replicate, if_neg hj]
    rfl

theorem frozen_row {w : World} {g j : Nat} {cs : Array Value} {t : TypeId} (h : w.heap[g]? = some (.cells cs t (0, 0))) : w.frozen? ⟨g, j, none⟩ = false := by
  simp [World.frozen?, h]

/-- A flash that was just made. -/
theorem FlAt.fresh {w w' : World} (L : Lc) (f : Fl) (hok : f.ok) (hp : f.picks = []) (hb : Below w.heap.size w w') (hd : w'.heap[L.d]? = some (.cells #[.int .i64 f.pg, .slice (some ⟨L.gi, 0, none⟩) f.img.length L.ci, .slice (some ⟨L.gw, 0, none⟩) f.wear.length L.cw, .bool f.down, .int .i64 f.fuse, .slice none 0 0] 112 (0, 0)))
    (hbd : w.heap.size ≤ L.d) (ni : L.d ≠ L.gi) (nw : L.d ≠ L.gw) (iw : L.gi ≠ L.gw)
    (oi : w'.ownsRow w.heap.size 5 1 (.slice (some ⟨L.gi, 0, none⟩) f.img.length L.ci) f.img.length (kcells .u8 f.img)) (ow : w'.ownsRow w.heap.size 3 1 (.slice (some ⟨L.gw, 0, none⟩) f.wear.length L.cw) f.wear.length (icells f.wear))
    (hA : L.Ap = none) (hc : L.cp = 0) (hE : ∀ b, ¬ L.E b) : FlAt w w' L f := by
  have hx : ∀ j, w'.cell? ⟨L.d, j, none⟩ = _ := fun j => cell_of_row w' L.d j _ 112 (0, 0) hd
  refine ⟨hok, hb, hbd, (Array.getElem?_eq_some_iff.1 hd).1, ni, nw, iw, ?_, ?_, ?_, ?_, ?_, ?_, fun j => frozen_row hd, oi, ow, ?_, ?_, ?_, fun b h => absurd h (hE b)⟩
  · rw [hx 0]; rfl
  · rw [hx 1]; rfl
  · rw [hx 2]; rfl
  · rw [hx 3]; rfl
  · rw [hx 4]; rfl
  · rw [hx 5, hp, hA, hc]; rfl
  · rw [hp, hc]; exact Nat.le_refl _
  · rw [hc]; exact Nat.zero_le _
  · rw [hp]; exact fun h => absurd rfl h

theorem own_alloc {w : World} {base e : Nat} {cs : Array Value} {xs : List Value} {n : Nat} (hc : cs.toList = xs) (hl : xs.length = n) (hb : base ≤ w.heap.size) (hm : n ≤ maxLen) :
    (w.alloc (.cells cs e)).ownsRow base e 1 (.slice (some ⟨w.heap.size, 0, none⟩) n n) n xs := by
  refine ⟨by omega, .inr ⟨w.heap.size, n, cs, rfl, hb, ?_, Nat.le_refl _, hm, ?_, ?_⟩⟩
  · show (w.heap.push _)[w.heap.size]? = _
    simp
  · rw [← Array.length_toList, hc]; omega
  · rw [hc, List.take_of_length_le (by omega)]

theorem heap_new (w : World) (cs : Array Value) (e : Nat) : (w.alloc (.cells cs e)).heap[w.heap.size]? = some (.cells cs e (0, 0)) := by
  show (w.heap.push _)[w.heap.size]? = _
  simp

set_option maxRecDepth 100000 in
set_option maxHeartbeats 4000000 in
theorem new_ok (b p : Nat) (w : World) (h1 : 1 ≤ b) (h2 : b ≤ 64) (h3 : 1 ≤ p) (h4 : p ≤ 16) :
    Calls Try.prog 13 #[.int .i64 b, .int .i64 p] w fun e w' => ∃ L, e = .returned (.tuple #[.pointer (some ⟨L.d, 0, none⟩), .nilIface]) ∧ FlAt w w' L (newF b p) := by
  obtain ⟨N, hN⟩ : ∃ N, b * p * 64 = N := ⟨_, rfl⟩
  have hN2 : N ≤ 65536 := by rw [← hN]; have := Nat.mul_le_mul h2 h4; omega
  have hN1 : 64 ≤ N := by rw [← hN]; have := Nat.mul_le_mul h1 h3; omega
  have e1 : (b : Int) * (p : Int) * 64 = (N : Int) := by rw [← hN]; push_cast; rfl
  go_enter Try.func13, Try.ntmps13
  go_wp2_with (fail)
  (with_reducible refine (within_yes b 1 64 w (by omega) (by omega)).mono ?_)
  rintro e w1 ⟨rfl, rfl⟩
  go_wp2_with (fail)
  (with_reducible refine (within_yes p 1 16 w (by omega) (by omega)).mono ?_)
  rintro e w1 ⟨rfl, rfl⟩
  go_upto_region 3 with (fail)
  obtain ⟨C8, hC8⟩ : ∃ C, madeCells #[.int .u8 0] N = C := ⟨_, rfl⟩
  obtain ⟨C3, hC3⟩ : ∃ C, madeCells #[.int .i64 0] b = C := ⟨_, rfl⟩
  have HC8 : Hid (C8.toList = kcells .u8 (List.replicate N 0)) := by rw [← hC8]; exact made_k .u8 N
  have HC3 : Hid (C3.toList = icells (List.replicate b 0)) := by rw [← hC3]; exact made_k .i64 b
  have hm8 : ∀ wx : World, (Instr.makeSlice 22 (.int .i64 (N : Int)) (.int .i64 (N : Int))).run Try.prog wx = .ok (.slice (some ⟨wx.heap.size, 0, none⟩) N N) (wx.alloc (.cells C8 5)) := by
    intro wx
    rw [← hC8]
    exact run_make_row' 22 5 (.int .u8 0) 1 Try.underlying22 info5 rfl .i64 .i64 N (by omega) (by omega) wx
  have hm3 : ∀ wx : World, (Instr.makeSlice 35 (.int .i64 (b : Int)) (.int .i64 (b : Int))).run Try.prog wx = .ok (.slice (some ⟨wx.heap.size, 0, none⟩) b b) (wx.alloc (.cells C3 3)) := by
    intro wx
    rw [← hC3]
    exact run_make_row' 35 3 (.int .i64 0) 8 Try.underlying35 info3 rfl .i64 .i64 b (by omega) (by omega) wx
  have HN := Lib.hid hN
  obtain ⟨BP, hBP⟩ : ∃ BP, b * p = BP := ⟨_, rfl⟩
  have q1 : (b : Int) * (p : Int) = (BP : Int) := by rw [← hBP]; push_cast; rfl
  have q2 : (BP : Int) * 64 = (N : Int) := by rw [← hN, hBP]; push_cast; rfl
  have hBP2 : BP ≤ 1024 := by omega
  have q3 : IntKind.i64.wrap (BP : Int) = BP := IntWalk.i64_in _ (by omega)
  have q4 : IntKind.i64.wrap (N : Int) = N := IntWalk.i64_in _ (by omega)
  clear hC8 hC3 hN hBP e1
  have hok : (⟨p, List.replicate N 0, List.replicate b 0, false, -1, []⟩ : Fl).ok := ⟨h3, h4, by simpa using h1, by simpa using h2, by simp only [List.length_replicate]; exact HN.out.symm, (by
    intro x hx
    rw [List.mem_replicate] at hx
    omega), (by intro x hx; simp at hx), by simp, by simp⟩
  have HOK := Lib.hid hok
  clear hok
  go_region
  · obtain ⟨W, hW⟩ : ∃ W, (((w.alloc (.cells C8 5)).alloc (.cells C3 3)).alloc (.cells #[.int .i64 p, .slice (some ⟨w.heap.size, 0, none⟩) N N, .slice (some ⟨w.heap.size + 1, 0, none⟩) b b, .bool false, .int .i64 (-1), .slice none 0 0] 112)).drew = W := ⟨_, rfl⟩
    have hF : FlAt w W ⟨w.heap.size + 1 + 1, w.heap.size, w.heap.size + 1, N, b, none, 0, fun _ => False⟩ ⟨p, List.replicate N 0, List.replicate b 0, false, -1, []⟩ := by
      have o1 := own_alloc (w := w) (base := w.heap.size) (e := 5) HC8.out (by rw [kcells_length, List.length_replicate]) (Nat.le_refl _) (by unfold maxLen; omega)
      have o2 := own_alloc (w := w.alloc (.cells C8 5)) (base := w.heap.size) (e := 3) HC3.out (by rw [icells_length, List.length_replicate]) (by simp) (by unfold maxLen; omega)
      rw [World.size_alloc] at o2
      rw [← hW]
      refine FlAt.fresh _ _ HOK.out rfl (Below.drew ((((Below.refl _ _).alloc (Nat.le_refl _) _).alloc (by simp) _).alloc (by simp; omega) _)) ?_ (by simp only; omega) (by simp only; omega) (by simp only; omega) (by simp only; omega) ?_ ?_ rfl rfl (fun _ h => h)
      · have := heap_new ((w.alloc (.cells C8 5)).alloc (.cells C3 3)) #[.int .i64 p, .slice (some ⟨w.heap.size, 0, none⟩) N N, .slice (some ⟨w.heap.size + 1, 0, none⟩) b b, .bool false, .int .i64 (-1), .slice none 0 0] 112
        simp only [World.size_alloc] at this
        simp only [List.length_replicate]
        exact this
      · simp only [List.length_replicate]
        exact own_below ((o1.alloc _).alloc _) (Below.drew (Below.refl _ _))
      · simp only [List.length_replicate]
        exact own_below (o2.alloc _) (Below.drew (Below.refl _ _))
    rw [hW]
    clear hW
    have HF := Lib.hid hF
    clear hF
    generalize w.heap.size + 1 + 1 = d at *
    generalize w.heap.size + 1 = gw at *
    generalize w.heap.size = gi at *
    have h0 := HF.out.c1
    simp only [List.length_replicate] at h0
    go_wp2
    go_loopw [32] (fun i wr => ∃ j : Nat, j ≤ N ∧ i = .int .i64 j ∧ FlAt w wr ⟨d, gi, gw, N, b, none, 0, fun _ => False⟩ ⟨p, lay (List.replicate N 0) 0 ((List.replicate N 255).take j), List.replicate b 0, false, -1, []⟩) (fun i _ => N - (intOf i).toNat)
    case atStart =>
      refine ⟨0, by omega, rfl, ?_⟩
      rw [List.take_zero, lay_nil]
      exact HF.out
    case round =>
      obtain ⟨j, hj, rfl, hF⟩ := hrel
      have HFj := Lib.hid hF
      clear hF
      have hll : (lay (List.replicate N 0) 0 ((List.replicate N 255).take j)).length = N := by rw [lay_length _ _ _ (by rw [List.length_take, List.length_replicate, List.length_replicate]; omega), List.length_replicate]
      have c1 := HFj.out.c1
      simp only [hll] at c1
      by_cases hlt : j < N
      · obtain ⟨z, hz⟩ := getElem?_of_lt (l := lay (List.replicate N 0) 0 ((List.replicate N 255).take j)) (k := j) (by rw [hll]; exact hlt)
        have d0 := HFj.out.byte hz
        have d1 := HFj.out.bfz j
        obtain ⟨n1, _⟩ := HFj.out.img j 255 (by omega)
        have hst := lay_step (img := List.replicate N 0) (b := List.replicate N 255) (a := 0) (i := j) (x := 255) (by rw [List.length_replicate, List.length_replicate]; omega) (by rw [List.getElem?_replicate, if_pos hlt])
        rw [Nat.zero_add] at hst
        simp only [hst] at n1
        have HN1 := Lib.hid n1
        clear hz n1 hst hll h0
        go_wp2
        go_roundw
        case rel => exact ⟨j + 1, by omega, by go_num, HN1.out⟩
        case measure => simp [intOf]; omega
      · have hjn : j = N := by omega
        subst hjn
        have hfin := HFj.out
        have hl2 : lay (List.replicate j 0) 0 ((List.replicate j 255).take j) = List.replicate j 255 := by
          rw [List.take_of_length_le (by rw [List.length_replicate]; exact Nat.le_refl _)]
          simp [lay]
        rw [hl2] at hfin
        have HFIN : Hid (FlAt w wr ⟨d, gi, gw, j, b, none, 0, fun _ => False⟩ (newF b p)) := by
          unfold newF
          rw [HN.out]
          exact hfin
        clear hfin hl2 hll c1 h0
        go_wp2
        go_ret2
        exact ⟨⟨d, gi, gw, j, b, none, 0, fun _ => False⟩, rfl, HFIN.out⟩
  · obtain ⟨W, hW⟩ : ∃ W, (((w.alloc (.cells C3 3)).alloc (.cells C8 5)).alloc (.cells #[.int .i64 p, .slice (some ⟨w.heap.size + 1, 0, none⟩) N N, .slice (some ⟨w.heap.size, 0, none⟩) b b, .bool false, .int .i64 (-1), .slice none 0 0] 112)).drew = W := ⟨_, rfl⟩
    have hF : FlAt w W ⟨w.heap.size + 1 + 1, w.heap.size + 1, w.heap.size, N, b, none, 0, fun _ => False⟩ ⟨p, List.replicate N 0, List.replicate b 0, false, -1, []⟩ := by
      have o1 := own_alloc (w := w) (base := w.heap.size) (e := 3) HC3.out (by rw [icells_length, List.length_replicate]) (Nat.le_refl _) (by unfold maxLen; omega)
      have o2 := own_alloc (w := w.alloc (.cells C3 3)) (base := w.heap.size) (e := 5) HC8.out (by rw [kcells_length, List.length_replicate]) (by simp) (by unfold maxLen; omega)
      rw [World.size_alloc] at o2
      rw [← hW]
      refine FlAt.fresh _ _ HOK.out rfl (Below.drew ((((Below.refl _ _).alloc (Nat.le_refl _) _).alloc (by simp) _).alloc (by simp; omega) _)) ?_ (by simp only; omega) (by simp only; omega) (by simp only; omega) (by simp only; omega) ?_ ?_ rfl rfl (fun _ h => h)
      · have := heap_new ((w.alloc (.cells C3 3)).alloc (.cells C8 5)) #[.int .i64 p, .slice (some ⟨w.heap.size + 1, 0, none⟩) N N, .slice (some ⟨w.heap.size, 0, none⟩) b b, .bool false, .int .i64 (-1), .slice none 0 0] 112
        simp only [World.size_alloc] at this
        simp only [List.length_replicate]
        exact this
      · simp only [List.length_replicate]
        exact own_below (o2.alloc _) (Below.drew (Below.refl _ _))
      · simp only [List.length_replicate]
        exact own_below ((o1.alloc _).alloc _) (Below.drew (Below.refl _ _))
    rw [hW]
    clear hW
    have HF := Lib.hid hF
    clear hF
    generalize w.heap.size + 1 + 1 = d at *
    generalize w.heap.size + 1 = gi at *
    generalize w.heap.size = gw at *
    have h0 := HF.out.c1
    simp only [List.length_replicate] at h0
    go_wp2
    go_loopw [32] (fun i wr => ∃ j : Nat, j ≤ N ∧ i = .int .i64 j ∧ FlAt w wr ⟨d, gi, gw, N, b, none, 0, fun _ => False⟩ ⟨p, lay (List.replicate N 0) 0 ((List.replicate N 255).take j), List.replicate b 0, false, -1, []⟩) (fun i _ => N - (intOf i).toNat)
    case atStart =>
      refine ⟨0, by omega, rfl, ?_⟩
      rw [List.take_zero, lay_nil]
      exact HF.out
    case round =>
      obtain ⟨j, hj, rfl, hF⟩ := hrel
      have HFj := Lib.hid hF
      clear hF
      have hll : (lay (List.replicate N 0) 0 ((List.replicate N 255).take j)).length = N := by rw [lay_length _ _ _ (by rw [List.length_take, List.length_replicate, List.length_replicate]; omega), List.length_replicate]
      have c1 := HFj.out.c1
      simp only [hll] at c1
      by_cases hlt : j < N
      · obtain ⟨z, hz⟩ := getElem?_of_lt (l := lay (List.replicate N 0) 0 ((List.replicate N 255).take j)) (k := j) (by rw [hll]; exact hlt)
        have d0 := HFj.out.byte hz
        have d1 := HFj.out.bfz j
        obtain ⟨n1, _⟩ := HFj.out.img j 255 (by omega)
        have hst := lay_step (img := List.replicate N 0) (b := List.replicate N 255) (a := 0) (i := j) (x := 255) (by rw [List.length_replicate, List.length_replicate]; omega) (by rw [List.getElem?_replicate, if_pos hlt])
        rw [Nat.zero_add] at hst
        simp only [hst] at n1
        have HN1 := Lib.hid n1
        clear hz n1 hst hll h0
        go_wp2
        go_roundw
        case rel => exact ⟨j + 1, by omega, by go_num, HN1.out⟩
        case measure => simp [intOf]; omega
      · have hjn : j = N := by omega
        subst hjn
        have hfin := HFj.out
        have hl2 : lay (List.replicate j 0) 0 ((List.replicate j 255).take j) = List.replicate j 255 := by
          rw [List.take_of_length_le (by rw [List.length_replicate]; exact Nat.le_refl _)]
          simp [lay]
        rw [hl2] at hfin
        have HFIN : Hid (FlAt w wr ⟨d, gi, gw, j, b, none, 0, fun _ => False⟩ (newF b p)) := by
          unfold newF
          rw [HN.out]
          exact hfin
        clear hfin hl2 hll c1 h0
        go_wp2
        go_ret2
        exact ⟨⟨d, gi, gw, j, b, none, 0, fun _ => False⟩, rfl, HFIN.out⟩

theorem new_no (b p : Int) (w : World) (h : (b < 1 ∨ 64 < b) ∨ (p < 1 ∨ 16 < p)) :
    Calls Try.prog 13 #[.int .i64 b, .int .i64 p] w fun e w' => e = .returned (.tuple #[.pointer none, .iface 77 (.int .i64 3)]) ∧ w = w' := by
  by_cases h1 : b < 1 ∨ 64 < b
  · clear h
    have H1 := Lib.hid h1
    clear h1
    go_enter Try.func13, Try.ntmps13
    go_wp2_with (fail)
    (with_reducible refine (within_no b 1 64 w H1.out).mono ?_)
    rintro e w1 ⟨rfl, rfl⟩
    go_wp2
    go_ret2
    exact ⟨rfl, rfl⟩
  · have H1 : Hid (1 ≤ b ∧ b ≤ 64) := by show _ ∧ _; omega
    have H2 : Hid (p < 1 ∨ 16 < p) := by
      rcases h with h | h
      · exact absurd h h1
      · exact h
    clear h h1
    go_enter Try.func13, Try.ntmps13
    go_wp2_with (fail)
    (with_reducible refine (within_yes b 1 64 w H1.out.1 H1.out.2).mono ?_)
    rintro e w1 ⟨rfl, rfl⟩
    go_wp2_with (fail)
    (with_reducible refine (within_no p 1 16 w H2.out).mono ?_)
    rintro e w1 ⟨rfl, rfl⟩
    go_wp2
    go_ret2
    exact ⟨rfl, rfl⟩
end Go.Proofs.Ytjdknddnanopaaa

/-
  The statements' helpers: Clip, size, fill.
-/
namespace Go.Proofs.Ytjdknddnanopaaa
open Go.RowKit
set_option linter.unusedVariables false

def clipI (x lo hi : Int) : Int := max lo (min x hi)

theorem clip_any (x lo hi : Int) (w : World) : Calls Try.prog 12 #[.int .i64 x, .int .i64 lo, .int .i64 hi] w fun e w' => e = .returned (.int .i64 (clipI x lo hi)) ∧ w = w' := by
  go_enter Try.func12, Try.ntmps12
  go_wp2
  go_ret
  exact ⟨rfl, rfl⟩

theorem own_k {w : World} {base e g n cap : Nat} {ki : IntKind} {l : List Int} (hl : l.length = n) (h : w.ownsRow base e 1 (.slice (some ⟨g, 0, none⟩) n cap) n (kcells ki l)) {k : Nat} {x : Int} (hx : l[k]? = some x) : w.cell? ⟨g, k, none⟩ = some (.int ki x) := by
  have := (List.getElem?_eq_some_iff.1 hx).1
  rw [h.cellAt k (by omega)]
  simp [kcells, hx]
theorem own_set_k {w : World} {base e g n cap : Nat} {ki : IntKind} {l : List Int} (h : w.ownsRow base e 1 (.slice (some ⟨g, 0, none⟩) n cap) n (kcells ki l)) (k : Nat) (x : Int) :
    (w.setCell ⟨g, k, none⟩ (.int ki x)).ownsRow base e 1 (.slice (some ⟨g, 0, none⟩) n cap) n (kcells ki (l.set k x)) := by
  have : kcells ki (l.set k x) = (kcells ki l).set k (.int ki x) := by simp [kcells]
  rw [this]
  exact (h.stored k (.int ki x)).1

theorem set_same {α : Type} {l : List α} {j : Nat} {z : α} (h : l[j]? = some z) : l.set j z = l := by
  apply List.ext_getElem?
  intro k
  rw [List.getElem?_set]
  split
  · rename_i e
    subst e
    rw [if_pos (List.getElem?_eq_some_iff.1 h).1, h]
  · rfl
theorem cell_new_at (w : World) (cs : Array Value) (t : TypeId) (j : Nat) (u : Value) (g : Nat) (hg : g = w.heap.size) (h : cs[j]? = some u) : (w.alloc (.cells cs t)).cell? ⟨g, j, none⟩ = some u := by
  subst hg
  rw [World.cell?_alloc_new]
  exact h

def pageO (n : Int) (b : List Int) : List Int := if n = 7 then b.take 100 else (List.range 64).map (fun i => b[i % b.length]?.getD 0)
theorem pageO_bytes {n : Int} {b : List Int} (hb : Bytes b) : Bytes (pageO n b) := by
  unfold pageO
  split
  · exact fun x hx => hb x (List.mem_of_mem_take hx)
  · intro x hx
    simp only [List.mem_map] at hx
    obtain ⟨i, _, rfl⟩ := hx
    cases e : b[i % b.length]? with
    | none => simp
    | some y => exact hb y (List.mem_of_getElem? e)

theorem apart_own {L : Lc} {w0 w w' : World} {f : Fl} (h : FlAt w0 w L f) {A : Option Addr} {n c e : Nat} {xs : List Value} (hn : xs.length = n) (ho : w'.ownsRow w.heap.size e 1 (.slice A n c) n xs) : Apart L w' A xs := by
  intro hne
  obtain ⟨b, off, hA, hlt, hc⟩ := own_rd ho hne
  obtain ⟨A', c', hv, _, _, hpos⟩ := own_form ho
  injection hv with e1 e2 e3
  obtain ⟨g, hg, hb1, hb2⟩ := hpos (by
    cases xs with
    | nil => exact absurd rfl hne
    | cons x r => simp at hn; omega)
  rw [← e1, hA] at hg
  injection hg with hg
  injection hg with hg1 hg2
  have hd := h.ld
  have hi := h.bi.2
  have hw := h.bw.2
  exact ⟨b, off, hA, hlt, by omega, by omega, by omega, hc⟩
theorem apart_rd {L : Lc} {w0 w : World} {f : Fl} (h : FlAt w0 w L f) {A : Option Addr} {xs : List Value} (hr : Rd w w0.heap.size A xs) : Apart L w A xs := by
  intro hne
  obtain ⟨b, off, hA, hlt, hc⟩ := hr hne
  have hd := h.bd
  have hi := h.bi.1
  have hw := h.bw.1
  exact ⟨b, off, hA, Nat.lt_of_lt_of_le hlt h.below.size, by omega, by omega, by omega, hc⟩

end Go.Proofs.Ytjdknddnanopaaa

/-
  awake of layer 50.
-/
namespace Go.Proofs.Ytjdknddnanopaaa
open Go.RowKit
set_option linter.unusedVariables false

def awF1 : Fl := (progF (newF 2 2) 3 (List.replicate 64 5)).1
def awF2 : Fl := fuseF awF1 0 [0, 0, 0, 2, 255]
def awF3 : Fl := (eraseF awF2 1).1
def awF4 : Fl := startF awF3
set_option maxRecDepth 100000 in
theorem aw1 : (progF (newF 2 2) 3 (List.replicate 64 5)).2 = 0 := by decide
set_option maxRecDepth 100000 in
theorem aw2 : (eraseF awF2 1).2 = 20 ∧ awF3.down = true := by decide
set_option maxRecDepth 100000 in
theorem aw3 : (readF awF4 3).2 = 0 ∧ (readF awF4 3).1.length = 64 ∧ (readF awF4 3).1[0]? = some 5 := by decide
set_option maxRecDepth 100000 in
theorem aw4 : awF4.wear = [0, 1] := by
  have h1 : awF4.wear = [0, wrap64 (0 + 1)] := rfl
  rw [h1, show wrap64 (0 + 1) = 1 by unfold wrap64; omega]

theorem bytes_rep (n : Nat) (x : Int) (hx : 0 ≤ x ∧ x < 256) : Bytes (List.replicate n x) := by
  intro y hy
  rw [List.mem_replicate] at hy
  omega
theorem aw5 : Bytes [0, 0, 0, 2, 255] := by
  intro x hx
  simp at hx
  omega

theorem new_okI (bi pi : Int) (b p : Nat) (hb : bi = b) (hp : pi = p) (w : World) (h1 : 1 ≤ b) (h2 : b ≤ 64) (h3 : 1 ≤ p) (h4 : p ≤ 16) :
    Calls Try.prog 13 #[.int .i64 bi, .int .i64 pi] w fun e w' => ∃ L, e = .returned (.tuple #[.pointer (some ⟨L.d, 0, none⟩), .nilIface]) ∧ FlAt w w' L (newF b p) := by
  subst hb hp
  exact new_ok b p w h1 h2 h3 h4

end Go.Proofs.Ytjdknddnanopaaa

/-
  A slice of bytes as a string.
-/
namespace Go.Proofs.Ytjdknddnanopaaa
open Go.RowKit

theorem str_of {w : World} {B : Nat} {A : Option Addr} {n c : Nat} {b : List Int} (hA : Rd w B A (kcells .u8 b)) (hn : b.length = n) : (convert 22 9 (.slice A n c)).run Try.prog w = .ok (.string (strOfNums b)) w := by
  by_cases h0 : n = 0
  · subst h0
    have hb : b = [] := List.eq_nil_of_length_eq_zero hn
    subst hb
    cases A with
    | none => exact run_convert_bytes_nil w 22 5 Try.underlying22 Try.underlying5 0 c 9 Try.underlying9
    | some a =>
      rw [run_convert_bytes_string w 22 9 5 _ 0 c Try.underlying22 Try.underlying5 Try.underlying9, run_bytesToString w a 0 c [] rfl]
      rfl
  · obtain ⟨g, off, rfl, _, hc⟩ := hA (by
      intro h
      have := congrArg List.length h
      simp [kcells] at this
      subst this
      simp at hn
      omega)
    refine run_convert_bytes_arg w 22 5 Try.underlying22 Try.underlying5 g off n c b hn (fun i hi => ?_) 9 Try.underlying9
    refine hc i _ ?_
    have hi' : i < b.length := by omega
    simp [kcells, List.getElem?_eq_getElem hi', List.getD_eq_getElem?_getD]

theorem strl {a : List Int} : (strOfNums a).toList = a.map (fun n => UInt8.ofNat n.toNat) := by
  rw [Go.Lib.strOfNums_toList]
  rfl
theorem str_inj {a b : List Int} (ha : Bytes a) (hb : Bytes b) (h : (strOfNums a).toList = (strOfNums b).toList) : a = b := by
  rw [strl, strl] at h
  have h2 := congrArg (List.map (fun u : UInt8 => (u.toNat : Int))) h
  rw [List.map_map, List.map_map] at h2
  have key : ∀ l : List Int, Bytes l → l.map ((fun u : UInt8 => (u.toNat : Int)) ∘ fun n => UInt8.ofNat n.toNat) = l := by
    intro l hl
    induction l with
    | nil => rfl
    | cons x l ih =>
      rw [List.map_cons, ih (fun y hy => hl y (List.mem_cons_of_mem _ hy))]
      have hx := hl x List.mem_cons_self
      congr 1
      show ((UInt8.ofNat x.toNat).toNat : Int) = x
      rw [UInt8.toNat_ofNat']
      omega
  rw [key a ha, key b hb] at h2
  exact h2
theorem str_beq {a b : List Int} (ha : Bytes a) (hb : Bytes b) : ((strOfNums a).toList == (strOfNums b).toList) = decide (a = b) := by
  by_cases h : a = b
  · rw [h, decide_eq_true rfl]
    simp
  · rw [decide_eq_false h]
    rw [beq_eq_false_iff_ne]
    exact fun e => h (str_inj ha hb e)
end Go.Proofs.Ytjdknddnanopaaa

/-
  FlashFuses.
-/
namespace Go.Proofs.Ytjdknddnanopaaa
open Go.RowKit
set_option linter.unusedVariables false

theorem apart_nil (L : Lc) (w : World) : Apart L w none (kcells .u8 []) := fun hx => absurd rfl hx

theorem rd_bool {w : World} {B : Nat} {A : Option Addr} {l : List Bool} (h : Rd w B A (l.map Value.bool)) {k : Nat} {x : Bool} (hx : l[k]? = some x) :
    ∃ b off, A = some ⟨b, off, none⟩ ∧ b < B ∧ w.cell? ⟨b, off + k, none⟩ = some (.bool x) := by
  have hl : (l.map Value.bool)[k]? = some (.bool x) := by simp [hx]
  have hne : l.map Value.bool ≠ [] := by
    intro e
    rw [e] at hl
    simp at hl
  obtain ⟨b, off, e, hlt, hc⟩ := h hne
  exact ⟨b, off, e, hlt, hc _ _ hl⟩

end Go.Proofs.Ytjdknddnanopaaa

/-
  large, a page of an act, do.
-/
namespace Go.Proofs.Ytjdknddnanopaaa
open Go.RowKit
set_option linter.unusedVariables false

theorem page0_eq : @page0 = @pageO := rfl

end Go.Proofs.Ytjdknddnanopaaa

/-
  Ints; more is held within a region; the memory against the specification's (is).
-/
namespace Go.Proofs.Ytjdknddnanopaaa
open Go.RowKit
set_option linter.unusedVariables false

section
variable {P : Program} {ops : Array Oper} {Q : Exit → Act → World → Prop} {md : Region.Mode} {S T : World → Prop}
/-- Within a region more may be held from here on. -/
theorem wpAnyH_more (h : ∀ w, T w → S w) : ∀ (fuel : Nat) (listed : Array Bool) (a : Act) (w : World), wpAnyH P md ops Q T fuel listed a w → wpAnyH P md ops Q S fuel listed a w
  | 0, _, _, _, hh => hh
  | fuel + 1, _, _, _, hh => ⟨hh.1, fun i hi => wpOp_mono (fun a' w' h' => ⟨h w' h'.1, wpAnyH_more h fuel _ a' w' h'.2⟩) (hh.2 i hi)⟩
end

theorem take_eq_step {l m : List Int} {k : Nat} {x y : Int} (hx : l[k]? = some x) (hy : m[k]? = some y) (h : l.take k = m.take k) (e : x = y) : l.take (k + 1) = m.take (k + 1) := by
  rw [take_snoc_get l k x hx, take_snoc_get m k y hy, h, e]

theorem ints_any (A A' : Option Addr) (n m c c' : Nat) (l l' : List Int) (w : World) (hA : Rd w w.heap.size A (icells l)) (hA' : Rd w w.heap.size A' (icells l')) (hn : l.length = n) (hm : l'.length = m) (hnm : n ≤ maxLen) (hmm : m ≤ maxLen) :
    Calls Try.prog 21 #[.slice A n c, .slice A' m c'] w fun e w' => e = .returned (.bool (decide (l = l'))) ∧ ∃ k, w.drewN k = w' := by
  unfold maxLen at hnm hmm
  have HN := Lib.hid hn
  have HM := Lib.hid hm
  clear hn hm
  by_cases hne : n = m
  · subst hne
    have HA := Lib.hid hA
    have HA' := Lib.hid hA'
    clear hA hA'
    have hne : ((n : Int) != (n : Int)) = false := by simp
    go_enter Try.func21, Try.ntmps21
    go_wp2
    go_loopw [13] (fun i wr => ∃ k : Nat, k ≤ n ∧ i = .int .i64 k ∧ l.take k = l'.take k ∧ ∃ q, wr = w.drewN q) (fun i wr => n - (intOf i).toNat)
    case atStart => exact ⟨0, Nat.zero_le _, rfl, rfl, 0, rfl⟩
    case round =>
      obtain ⟨k, hk, rfl, ht, q, rfl⟩ := hrel
      have HT := Lib.hid ht
      clear ht
      by_cases hlt : k < n
      · obtain ⟨x, hx⟩ := getElem?_of_lt (l := l) (k := k) (by rw [HN.out]; exact hlt)
        obtain ⟨y, hy⟩ := getElem?_of_lt (l := l') (k := k) (by rw [HM.out]; exact hlt)
        obtain ⟨b, off, rfl, hbl, e0⟩ := HA.out.int hx
        obtain ⟨b', off', rfl, hbl', e1⟩ := HA'.out.int hy
        have HX := Lib.hid hx
        have HY := Lib.hid hy
        clear hx hy
        by_cases he : x = y
        · have he' : (x != y) = false := by simpa using he
          have HE := Lib.hid he
          clear he
          go_wp2
          go_quiet (fail)
          go_wp2
          go_roundw
          case rel => exact ⟨k + 1, by omega, by go_num, take_eq_step HX.out HY.out HT.out HE.out, _, rfl⟩
          case measure => simp [intOf]; omega
        · have he' : (x != y) = true := by simpa using he
          have HE : Hid (decide (l = l') = false) := decide_eq_false (fun e => he (by
            have h1 := HX.out
            rw [e, HY.out] at h1
            exact (Option.some.inj h1).symm))
          clear he
          go_wp2
          go_quiet (fail)
          go_wp2
          go_ret
          exact ⟨by rw [HE.out]; rfl, _, (World.drewN_drewN ..).symm⟩
      · have hkn : k = n := by omega
        subst hkn
        have HE : Hid (decide (l = l') = true) := decide_eq_true (by
          have h1 := HT.out
          rwa [List.take_of_length_le (by rw [HN.out]; omega), List.take_of_length_le (by rw [HM.out]; omega)] at h1)
        go_wp2
        go_ret
        exact ⟨by rw [HE.out]; rfl, _, rfl⟩
  · have hne' : ((n : Int) != (m : Int)) = true := by simp; omega
    have HE : Hid (decide (l = l') = false) := decide_eq_false (fun e => hne (by rw [← HN.out, ← HM.out, e]))
    clear hne
    go_enter Try.func21, Try.ntmps21
    go_wp2
    go_ret
    exact ⟨by rw [HE.out]; rfl, 0, rfl⟩

end Go.Proofs.Ytjdknddnanopaaa
