/-
  The flash's small methods.
-/
import Derived.Test.YtfeceamhlphelaaW1
namespace Go.Proofs.Ytfeceamhlphelaa
open Go.RowKit
set_option linter.unusedVariables false

section
variable {w0 w : World} {L : Lc} {f : Fl}

theorem FlAt.img_len (h : FlAt w0 w L f) : f.img.length ≤ 65536 := by
  rw [h.ok.len]
  have h1 := h.ok.b2
  have h2 := h.ok.p2
  have := Nat.mul_le_mul h1 h2
  omega

theorem blocks_any (h : FlAt w0 w L f) : Calls Try.prog 42 #[.pointer (some ⟨L.d, 0, none⟩)] w fun e w' => e = .returned (.int .i64 (f.wear.length : Nat)) ∧ w = w' := by
  have h1 := eqp_some L.d
  have c2 := h.c2
  generalize f.wear.length = n at *
  clear h
  go_enter Try.func42, Try.ntmps42
  go_wp2
  go_ret
  exact ⟨rfl, rfl⟩
theorem pages_any (h : FlAt w0 w L f) : Calls Try.prog 43 #[.pointer (some ⟨L.d, 0, none⟩)] w fun e w' => e = .returned (.int .i64 (f.pg : Nat)) ∧ w = w' := by
  have h1 := eqp_some L.d
  have c0 := h.c0
  clear h
  go_enter Try.func43, Try.ntmps43
  go_wp2
  go_ret
  exact ⟨rfl, rfl⟩
theorem down_any (h : FlAt w0 w L f) : Calls Try.prog 33 #[.pointer (some ⟨L.d, 0, none⟩)] w fun e w' => e = .returned (.bool f.down) ∧ w = w' := by
  have h1 := eqp_some L.d
  have c3 := h.c3
  clear h
  go_enter Try.func33, Try.ntmps33
  go_wp2
  go_ret
  exact ⟨rfl, rfl⟩

theorem image_any (h : FlAt w0 w L f) : Calls Try.prog 36 #[.pointer (some ⟨L.d, 0, none⟩)] w fun e w' => ∃ v', e = .returned v' ∧ w'.ownsRow w.heap.size 5 1 v' f.img.length (kcells .u8 f.img) ∧ Below w.heap.size w w' := by
  have h1 := eqp_some L.d
  have c1 := h.c1
  have hl := h.img_len
  obtain ⟨A, c, hv, _, _, hr⟩ := own_read h.oi
  injection hv with e1 e2 e3
  subst e1
  have HC := Lib.hid (clone8_any (some ⟨L.gi, 0, none⟩) f.img.length L.ci w.heap.size f.img w hr (Nat.le_refl _) rfl (by omega))
  generalize f.img.length = n at *
  clear h hr e3
  go_enter Try.func36, Try.ntmps36
  go_wp2_with (fail)
  (with_reducible refine HC.out.mono ?_)
  rintro e w1 ⟨v', rfl, ho, hb⟩
  have HO := Lib.hid ho
  have HB := Lib.hid hb
  clear ho hb
  go_wp2
  go_ret
  exact ⟨v', rfl, HO.out, HB.out⟩
theorem wear_any (h : FlAt w0 w L f) : Calls Try.prog 31 #[.pointer (some ⟨L.d, 0, none⟩)] w fun e w' => ∃ v', e = .returned v' ∧ w'.ownsRow w.heap.size 3 1 v' f.wear.length (icells f.wear) ∧ Below w.heap.size w w' := by
  have h1 := eqp_some L.d
  have c2 := h.c2
  have hl := h.ok.b2
  obtain ⟨A, c, hv, _, _, hr⟩ := own_read h.ow
  injection hv with e1 e2 e3
  subst e1
  have HC := Lib.hid (clone3_any (some ⟨L.gw, 0, none⟩) f.wear.length L.cw w.heap.size f.wear w hr (Nat.le_refl _) rfl (by omega))
  generalize f.wear.length = n at *
  clear h hr e3
  go_enter Try.func31, Try.ntmps31
  go_wp2_with (fail)
  (with_reducible refine HC.out.mono ?_)
  rintro e w1 ⟨v', rfl, ho, hb⟩
  have HO := Lib.hid ho
  have HB := Lib.hid hb
  clear ho hb
  go_wp2
  go_ret
  exact ⟨v', rfl, HO.out, HB.out⟩

theorem cut_any (h : FlAt w0 w L f) : Calls Try.prog 77 #[.pointer (some ⟨L.d, 0, none⟩)] w fun e w' => e = .returned (.bool (cutF f).2) ∧ FlAt w0 w' L (cutF f).1 ∧ Only L w w' ∧ w'.heap.size = w.heap.size := by
  have c4 := h.c4
  have c3 := h.c3
  have f3 := h.fz 3
  have f4 := h.fz 4
  have hf1 := h.ok.fu1
  have hf2 := h.ok.fu2
  by_cases h0 : f.fuse = 0
  · have HC : Hid (cutF f = ({ f with down := true }, true)) := by unfold cutF; rw [Hid, if_pos h0]
    have HD := Lib.hid (h.dn true)
    rw [h0] at c4
    clear h h0
    go_enter Try.func77, Try.ntmps77
    go_wp2
    go_ret
    rw [HC.out]
    exact ⟨rfl, HD.out.1, HD.out.2, by simp [World.setCell]⟩
  · by_cases hp : 0 < f.fuse
    · have HC : Hid (cutF f = ({ f with fuse := f.fuse - 1 }, false)) := by unfold cutF; rw [Hid, if_neg h0, if_pos hp]
      have HD := Lib.hid (h.fu (f.fuse - 1) (by omega) (by omega))
      clear h h0
      go_enter Try.func77, Try.ntmps77
      go_wp2
      go_ret
      rw [HC.out]
      exact ⟨rfl, HD.out.1, HD.out.2, by simp [World.setCell]⟩
    · have HC : Hid (cutF f = (f, false)) := by unfold cutF; rw [Hid, if_neg h0, if_neg hp]
      have H := Lib.hid h
      have h0' : (f.fuse == 0) = false := by simpa using h0
      clear h h0
      go_enter Try.func77, Try.ntmps77
      go_wp2
      go_ret
      rw [HC.out]
      exact ⟨rfl, H.out, Only.refl _ _, rfl⟩

theorem pick_any (h : FlAt w0 w L f) (i : Nat) (hi : i < 100000) : Calls Try.prog 78 #[.pointer (some ⟨L.d, 0, none⟩), .int .i64 i] w fun e w' => e = .returned (.int .u8 (pickF f.picks i)) ∧ w = w' := by
  have c5 := h.c5
  have hpc := h.pc
  have hpm := h.pm
  unfold maxLen at hpm
  by_cases hlt : i < f.picks.length
  · obtain ⟨y, hy⟩ := getElem?_of_lt hlt
    obtain ⟨b, off, hA, _, d0⟩ := h.pk.rd.kint hy
    have HP : Hid (pickF f.picks i = y) := by unfold pickF; rw [Hid, hy]; rfl
    rw [hA] at c5
    generalize f.picks.length = n at *
    clear h hy hA
    go_enter Try.func78, Try.ntmps78
    go_wp2
    go_ret
    exact ⟨by rw [HP.out]; rfl, rfl⟩
  · have HP : Hid (pickF f.picks i = 0) := by unfold pickF; rw [Hid, List.getElem?_eq_none (by omega)]; rfl
    generalize f.picks.length = n at *
    clear h
    go_enter Try.func78, Try.ntmps78
    go_wp2
    go_ret
    exact ⟨by rw [HP.out]; rfl, rfl⟩

/-- What at returns. -/
def atV (L : Lc) (f : Fl) (page : Int) : Value := if atF f page = 0 then .tuple #[.slice (some ⟨L.gi, 64 * page.toNat, none⟩) 64 (L.ci - 64 * page.toNat), .nilIface] else .tuple #[.slice none 0 0, errV (atF f page)]
end
end Go.Proofs.Ytfeceamhlphelaa
