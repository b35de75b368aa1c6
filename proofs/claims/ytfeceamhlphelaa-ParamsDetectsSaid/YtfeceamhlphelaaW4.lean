/-
  A flash: Read, Start, Fuse.
-/
import Derived.Test.YtfeceamhlphelaaW3
import Derived.Lib.MinMax
namespace Go.Proofs.Ytfeceamhlphelaa
open Go.RowKit
set_option linter.unusedVariables false

/-- Part of a slice. -/
theorem Rd.part {w : World} {B bb off : Nat} {k : IntKind} {b : List Int} (h : Rd w B (some ⟨bb, off, none⟩) (kcells k b)) (i n : Nat) : Rd w B (some ⟨bb, off + i, none⟩) (kcells k ((b.drop i).take n)) := by
  intro hne
  have hb : kcells k b ≠ [] := by
    intro e
    apply hne
    have : b = [] := by simpa [kcells] using e
    subst this
    simp [kcells]
  obtain ⟨b', off', e, hlt, hc⟩ := h hb
  obtain ⟨rfl, rfl⟩ : bb = b' ∧ off = off' := by simpa using e
  refine ⟨bb, off + i, rfl, hlt, fun j u hu => ?_⟩
  rw [Nat.add_assoc]
  refine hc _ _ ?_
  simp only [kcells, List.map_take, List.map_drop, List.getElem?_take] at hu ⊢
  split at hu
  · rw [List.getElem?_drop] at hu
    exact hu
  · cases hu
theorem own_rd {w : World} {base e size n c : Nat} {A : Option Addr} {xs : List Value} (h : w.ownsRow base e size (.slice A n c) n xs) : Rd w w.heap.size A xs := by
  obtain ⟨A', c', hv, _, _, hr⟩ := own_read h
  injection hv with e1 e2 e3
  subst e1
  exact hr

section
variable {w0 w : World} {L : Lc} {f : Fl}

theorem FlAt.page_len (h : FlAt w0 w L f) {page : Int} (h0 : atF f page = 0) : (pageF f page.toNat).length = 64 ∧ 64 * page.toNat + 64 ≤ f.img.length := by
  obtain ⟨_, a1, a2⟩ := atF_zero h0
  have hl : 64 * page.toNat + 64 ≤ f.img.length := by
    rw [h.ok.len]
    have : page.toNat + 1 ≤ f.wear.length * f.pg := by omega
    omega
  refine ⟨?_, hl⟩
  unfold pageF
  rw [List.length_take, List.length_drop]
  omega

set_option maxHeartbeats 2000000 in
theorem read_any (h : FlAt w0 w L f) (page : Int) : Calls Try.prog 29 #[.pointer (some ⟨L.d, 0, none⟩), .int .i64 page] w fun e w' => ∃ v', e = .returned (.tuple #[v', errV (readF f page).2]) ∧ w'.ownsRow w.heap.size 5 1 v' (readF f page).1.length (kcells .u8 (readF f page).1) ∧ Below w.heap.size w w' := by
  have HA := Lib.hid (at_any h page)
  by_cases h0 : atF f page = 0
  · have HV : Hid (atV L f page = .tuple #[.slice (some ⟨L.gi, 64 * page.toNat, none⟩) 64 (L.ci - 64 * page.toNat), .nilIface]) := by unfold atV; rw [Hid, if_pos h0]
    have HR : Hid (readF f page = (pageF f page.toNat, 0)) := by unfold readF; rw [Hid, if_neg (by simp [h0])]
    obtain ⟨hl, _⟩ := h.page_len h0
    have hrp : Rd w w.heap.size (some ⟨L.gi, 64 * page.toNat, none⟩) (kcells .u8 (pageF f page.toNat)) := by
      have := (own_rd h.oi).part (64 * page.toNat) 64
      rw [Nat.zero_add] at this
      exact this
    have HRP := Lib.hid hrp
    have HL := Lib.hid hl
    clear h h0 hl hrp
    generalize pageF f page.toNat = b at *
    go_enter Try.func29, Try.ntmps29
    go_wp2_with (fail)
    (with_reducible refine HA.out.mono ?_)
    rintro e w1 ⟨rfl, q, rfl⟩
    rw [HV.out]
    go_wp2_with (fail)
    (with_reducible refine (clone8_any _ 64 _ w.heap.size b (w.drewN q) (HRP.out.below (Below.drewN (Below.refl _ _) q) (Nat.le_refl _)) (Nat.le_refl _) HL.out (by omega)).mono ?_)
    rintro e w2 ⟨v', rfl, ho, hb⟩
    have HO := Lib.hid ho
    have HB : Hid (Below w.heap.size w w2) := (Below.drewN (Below.refl w.heap.size w) q).trans hb
    clear ho hb
    go_wp2
    go_ret2
    refine ⟨v', by rw [HR.out]; rfl, ?_, HB.out⟩
    rw [HR.out, HL.out]
    exact HO.out
  · have HV : Hid (atV L f page = .tuple #[.slice none 0 0, errV (atF f page)]) := by unfold atV; rw [Hid, if_neg h0]
    have HR : Hid (readF f page = ([], atF f page)) := by unfold readF; rw [Hid, if_pos h0]
    have HE : Hid (Rd w w.heap.size none (kcells .u8 [])) := fun h => absurd rfl h
    clear h h0
    generalize atF f page = k at *
    generalize hek : errV k = ek at *
    have HEK := Lib.hid hek
    clear hek
    go_enter Try.func29, Try.ntmps29
    go_wp2_with (fail)
    (with_reducible refine HA.out.mono ?_)
    rintro e w1 ⟨rfl, q, rfl⟩
    rw [HV.out]
    go_wp2_with (fail)
    (with_reducible refine (clone8_any none 0 0 w.heap.size [] (w.drewN q) (HE.out.below (Below.drewN (Below.refl _ _) q) (Nat.le_refl _)) (Nat.le_refl _) rfl (by omega)).mono ?_)
    rintro e w2 ⟨v', rfl, ho, hb⟩
    have HO := Lib.hid ho
    have HB : Hid (Below w.heap.size w w2) := (Below.drewN (Below.refl w.heap.size w) q).trans hb
    clear ho hb
    go_wp2
    go_ret2
    refine ⟨v', by rw [HR.out, HEK.out]; rfl, ?_, HB.out⟩
    rw [HR.out]
    exact HO.out

theorem start_any (h : FlAt w0 w L f) : Calls Try.prog 34 #[.pointer (some ⟨L.d, 0, none⟩)] w fun e w' => e = .returned (.tuple #[]) ∧ (∃ Ap cp, FlAt w0 w' { L with Ap := Ap, cp := cp } (startF f)) ∧ Only L w w' := by
  have h1 := eqp_some L.d
  have c3 := h.c3
  have c4 := h.c4
  have c5 := h.c5
  have f3 := h.fz 3
  have f4 := h.fz 4
  have f5 := h.fz 5
  by_cases hd : f.down = true
  · have HS : Hid (startF f = { f with down := false, fuse := -1, picks := [] }) := by unfold startF; rw [Hid, if_pos hd]
    obtain ⟨a1, a2⟩ := h.dn false
    obtain ⟨b1, b2⟩ := a1.fu (-1) (by omega) (by omega)
    obtain ⟨d1, d2⟩ := b1.pi none 0 [] (Nat.le_refl _) (Nat.zero_le _) (fun x hx => by simp at hx) (fun hx => absurd rfl hx)
    have HD := Lib.hid d1
    have HO : Hid (Only L w _) := (a2.trans b2).trans d2
    rw [hd] at c3
    clear h hd a1 a2 b1 b2 d1 d2
    go_enter Try.func34, Try.ntmps34
    go_wp2
    first
      | go_end0
      | ((try simp only [Exit.inBlock, Exit.then]); refine bodyPost_ret (results_none rfl _ _ _) rfl ?_)
    rw [HS.out]
    exact ⟨rfl, ⟨none, 0, HD.out⟩, HO.out⟩
  · have hd' : f.down = false := by simpa using hd
    have HS : Hid (startF f = f) := by unfold startF; rw [Hid, if_neg hd]
    have H := Lib.hid h
    rw [hd'] at c3
    clear h hd hd'
    go_enter Try.func34, Try.ntmps34
    go_wp2
    first
      | go_end0
      | ((try simp only [Exit.inBlock, Exit.then]); refine bodyPost_ret (results_none rfl _ _ _) rfl ?_)
    rw [HS.out]
    exact ⟨rfl, ⟨L.Ap, L.cp, H.out⟩, Only.refl _ _⟩

set_option maxHeartbeats 2000000 in
theorem fuse_any (h : FlAt w0 w L f) (n : Int) (hn1 : -9223372036854775808 ≤ n) (hn2 : n < 9223372036854775808) (A : Option Addr) (m c : Nat) (p : List Int) (hA : Rd w w.heap.size A (kcells .u8 p)) (hm : p.length = m) (hm2 : m ≤ 140737488351232) (hp : Bytes p) :
    Calls Try.prog 32 #[.pointer (some ⟨L.d, 0, none⟩), .int .i64 n, .slice A m c] w fun e w' => e = .returned (.tuple #[]) ∧ (∃ Ap cp, FlAt w0 w' { L with Ap := Ap, cp := cp } (fuseF f n p)) ∧ Only L w w' := by
  have h1 := eqp_some L.d
  have HC := Lib.hid (clone8_any A m c w.heap.size p w hA (Nat.le_refl _) hm hm2)
  have H := Lib.hid h
  have HM := Lib.hid hm
  have HP := Lib.hid hp
  clear h hA hm hp
  go_enter Try.func32, Try.ntmps32
  go_wp2_with (fail)
  (with_reducible refine HC.out.mono ?_)
  rintro e w1 ⟨v', rfl, ho, hb⟩
  obtain ⟨A', c', rfl, g1, g2, g3⟩ := own_form ho
  have h2 := H.out.later hb
  have c4 := h2.c4
  have c5 := h2.c5
  have f4 := h2.fz 4
  have f5 := h2.fz 5
  have hap : Apart L w1 A' (kcells .u8 p) := by
    intro hne
    have hm0 : 0 < m := by
      rw [← HM.out]
      cases p with
      | nil => simp [kcells] at hne
      | cons x r => simp
    obtain ⟨g, rfl, q1, q2⟩ := g3 hm0
    obtain ⟨b, off, e, hlt, hc⟩ := own_rd ho hne
    obtain ⟨rfl, rfl⟩ : g = b ∧ 0 = off := by simpa using e
    have hd := H.out.ld
    have hi := H.out.bi.2
    have hw := H.out.bw.2
    exact ⟨g, 0, rfl, q2, by omega, by omega, by omega, hc⟩
  obtain ⟨a1, a2⟩ := h2.fu (max n (-1)) (by omega) (by omega)
  obtain ⟨d1, d2⟩ := a1.pi A' c' p (by rw [HM.out]; exact g1) g2 HP.out (hap.only a2)
  rw [HM.out] at d1 d2
  have HD := Lib.hid d1
  have HO : Hid (Only L w _) := ((Only.of_below hb).trans a2).trans d2
  clear ho hb g3 h2 hap a1 a2 d1 d2
  go_wp2
  go_end0
  exact ⟨rfl, ⟨A', c', HD.out⟩, HO.out⟩
end
end Go.Proofs.Ytfeceamhlphelaa
