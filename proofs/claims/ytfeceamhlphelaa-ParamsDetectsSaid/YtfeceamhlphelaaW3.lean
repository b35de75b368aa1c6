/-
  A page of a flash: at, Read.
-/
import Derived.Test.YtfeceamhlphelaaW2
namespace Go.Proofs.Ytfeceamhlphelaa
open Go.RowKit
set_option linter.unusedVariables false

section
variable {w0 w : World} {L : Lc} {f : Fl}

theorem FlAt.ci (h : FlAt w0 w L f) : f.img.length ≤ L.ci ∧ L.ci ≤ maxLen := by
  obtain ⟨A, c, hv, h1, h2, hr⟩ := own_read h.oi
  injection hv with e1 e2 e3
  subst e3
  exact ⟨h1, h2⟩
theorem FlAt.cw (h : FlAt w0 w L f) : f.wear.length ≤ L.cw ∧ L.cw ≤ maxLen := by
  obtain ⟨A, c, hv, h1, h2, hr⟩ := own_read h.ow
  injection hv with e1 e2 e3
  subst e3
  exact ⟨h1, h2⟩

set_option maxRecDepth 100000 in
set_option maxHeartbeats 2000000 in
theorem at_any (h : FlAt w0 w L f) (page : Int) : Calls Try.prog 76 #[.pointer (some ⟨L.d, 0, none⟩), .int .i64 page] w fun e w' => e = .returned (atV L f page) ∧ ∃ q, w' = w.drewN q := by
  have h1 := eqp_some L.d
  have c0 := h.c0
  have c1 := h.c1
  have c2 := h.c2
  have c3 := h.c3
  by_cases hd : f.down = true
  · have HV : Hid (atV L f page = .tuple #[.slice none 0 0, .iface 40 (.int .i64 20)]) := by unfold atV atF; simp [Hid, hd, errV]
    rw [hd] at c3
    clear h hd
    go_enter Try.func76, Try.ntmps76
    go_wp2
    go_ret2
    exact ⟨by rw [HV.out]; rfl, 0, rfl⟩
  have hd' : f.down = false := by simpa using hd
  rw [hd'] at c3
  obtain ⟨M, hM⟩ : ∃ M, f.wear.length * f.pg = M := ⟨_, rfl⟩
  have hn64 := h.ok.b2
  have hp16 := h.ok.p2
  have hn1 := h.ok.b1
  have hp1 := h.ok.p1
  have e1 : ((f.wear.length : Nat) : Int) * (f.pg : Int) = (M : Int) := by rw [← hM]; push_cast; rfl
  have hM1 : 1 ≤ M := by rw [← hM]; exact Nat.mul_le_mul hn1 hp1
  have hM2 : M ≤ 1024 := by rw [← hM]; exact Nat.mul_le_mul hn64 hp16
  have hlen : f.img.length = M * 64 := by rw [h.ok.len, hM]
  have hci := h.ci
  unfold maxLen at hci
  obtain ⟨hci1, hci2⟩ := hci
  by_cases hin : 0 ≤ page ∧ page ≤ (M : Int) - 1
  · obtain ⟨pn, rfl⟩ := Int.eq_ofNat_of_zero_le hin.1
    have hpn : pn < M := by omega
    have HV : Hid (atV L f pn = .tuple #[.slice (some ⟨L.gi, 64 * pn, none⟩) 64 (L.ci - 64 * pn), .nilIface]) := by
      have h0 : atF f pn = 0 := by unfold atF; rw [if_neg hd, hM, if_neg (by omega)]
      show _ = _
      unfold atV
      rw [if_pos h0]
      rfl
    have HW : Hid (∀ wx, Calls Try.prog 75 #[.int .i64 pn, .int .i64 0, .int .i64 ((M : Int) - 1)] wx fun e w' => e = .returned (.bool true) ∧ w' = wx) := fun wx => (within_yes pn 0 ((M : Int) - 1) wx hin.1 hin.2).mono fun _ _ ⟨a, b⟩ => ⟨a, b.symm⟩
    rw [hlen] at c1
    generalize f.wear.length = n at *
    generalize f.pg = p at *
    have k1 : (pn : Int) * 64 ≤ ((pn : Int) + 1) * 64 := by omega
    have k2 : ((pn : Int) + 1) * 64 ≤ (L.ci : Int) := by omega
    have k3 : (0 : Int) ≤ (pn : Int) * 64 := by omega
    have k4 : ((pn : Int) * 64).toNat = 64 * pn := by omega
    have k5 : (((pn : Int) + 1) * 64).toNat = 64 * pn + 64 := by omega
    have k6 : ¬ (L.ci = 64 * pn) := by omega
    clear h hd hd' hin hM hlen
    go_enter Try.func76, Try.ntmps76
    go_upto_region 5 with (fail)
    go_quiet ((go_at_call 75; with_reducible exact Calls.quiet_of_same (HW.out _)))
    go_wp2
    go_ret2
    exact ⟨by rw [HV.out]; rfl, _, rfl⟩
  · have HV : Hid (atV L f page = .tuple #[.slice none 0 0, .iface 40 (.int .i64 10)]) := by
      have h0 : atF f page = 10 := by unfold atF; rw [if_neg hd, hM, if_pos (by omega)]
      unfold atV
      simp [Hid, h0, errV]
    have HW : Hid (∀ wx, Calls Try.prog 75 #[.int .i64 page, .int .i64 0, .int .i64 ((M : Int) - 1)] wx fun e w' => e = .returned (.bool false) ∧ w' = wx) := fun wx => (within_no page 0 ((M : Int) - 1) wx (by omega)).mono fun _ _ ⟨a, b⟩ => ⟨a, b.symm⟩
    generalize f.wear.length = n at *
    generalize f.pg = p at *
    clear h hd hd' hin hM hlen c1
    go_enter Try.func76, Try.ntmps76
    go_upto_region 5 with (fail)
    go_quiet ((go_at_call 75; with_reducible exact Calls.quiet_of_same (HW.out _)))
    go_wp2
    go_ret2
    exact ⟨by rw [HV.out]; rfl, _, rfl⟩
end
end Go.Proofs.Ytfeceamhlphelaa
