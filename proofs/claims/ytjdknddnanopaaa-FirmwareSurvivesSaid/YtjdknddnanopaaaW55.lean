
/-
  Fuse and Start beside a store.
-/
import Derived.Test.YtjdknddnanopaaaW54
import Derived.Test.YtjdknddnanopaaaPlainK
namespace Go.Proofs.Ytjdknddnanopaaa
open Go.RowKit
set_option linter.unusedVariables false

section
variable {w0 w : World} {L : Lc} {S : Sc} {f : Fl} {s : St}

set_option maxHeartbeats 2000000 in
theorem fuse2_any (h : FlAt w0 w L f) (n : Int) (hn1 : -9223372036854775808 ≤ n) (hn2 : n < 9223372036854775808) (A : Option Addr) (m c : Nat) (p : List Int) (hA : Rd w w.heap.size A (kcells .u8 p)) (hm : p.length = m) (hm2 : m ≤ 140737488351232) (hp : Bytes p) :
    Calls Try.prog 39 #[.pointer (some ⟨L.d, 0, none⟩), .int .i64 n, .slice A m c] w fun e w' => e = .returned (.tuple #[]) ∧ (∃ Ap cp, FlAt w0 w' { L with Ap := Ap, cp := cp } (fuseF f n p) ∧ ∀ X : Nat → Prop, (∀ b, X b → b < w.heap.size) → RdX X w' Ap (kcells .u8 p)) ∧ Only L w w' := by
  have h1 := eqp_some L.d
  have HC := Lib.hid (clone8_any A m c w.heap.size p w hA (Nat.le_refl _) hm hm2)
  have H := Lib.hid h
  have HM := Lib.hid hm
  have HP := Lib.hid hp
  clear h hA hm hp
  go_enter Try.func39, Try.ntmps39
  go_wp2_with (fail)
  (with_reducible refine HC.out.mono ?_)
  rintro e w1 ⟨v', rfl, ho, hb⟩
  obtain ⟨A', c', rfl, g1, g2, g3⟩ := own_form ho
  have h2 := H.out.later hb
  have c4 := h2.c4
  have c5 := h2.c5
  have f4 := h2.fz 4
  have f5 := h2.fz 5
  have hap : Apart L w1 A' (kcells .u8 p) := by
    intro hne
    have hm0 : 0 < m := by
      rw [← HM.out]
      cases p with
      | nil => simp [kcells] at hne
      | cons x r => simp
    obtain ⟨g, rfl, q1, q2⟩ := g3 hm0
    obtain ⟨b, off, e, hlt, hc⟩ := own_rd ho hne
    obtain ⟨rfl, rfl⟩ : g = b ∧ 0 = off := by simpa using e
    have hd := H.out.ld
    have hi := H.out.bi.2
    have hw := H.out.bw.2
    exact ⟨g, 0, rfl, q2, by omega, by omega, by omega, hc⟩
  have hrx : ∀ X : Nat → Prop, (∀ b, X b → b < w.heap.size) → RdX (fun b => X b ∨ b = L.d) w1 A' (kcells .u8 p) := fun X hX => by
    refine RdX.new (N := w.heap.size) (fun b hb' => ?_) (Nat.le_refl _) (by rw [kcells_length, HM.out]) ho
    rcases hb' with h | h
    · exact hX b h
    · rw [h]; exact H.out.ld
  obtain ⟨a1, a2⟩ := h2.fu (max n (-1)) (by omega) (by omega)
  obtain ⟨d1, d2⟩ := a1.pi A' c' p (by rw [HM.out]; exact g1) g2 HP.out (hap.only a2)
  rw [HM.out] at d1 d2
  have HD := Lib.hid d1
  have HO : Hid (Only L w _) := ((Only.of_below hb).trans a2).trans d2
  have HRX : Hid (∀ X : Nat → Prop, (∀ b, X b → b < w.heap.size) → RdX X ((w1.setCell ⟨L.d, 4, none⟩ (.int .i64 (max n (-1)))).setCell ⟨L.d, 5, none⟩ (.slice A' m c')) A' (kcells .u8 p)) := fun X hX =>
    (((hrx X hX).onlyX (OnlyX.set (X := fun b => X b ∨ b = L.d) w1 ⟨L.d, 4, none⟩ _ (.inr rfl))).onlyX (OnlyX.set (X := fun b => X b ∨ b = L.d) _ ⟨L.d, 5, none⟩ _ (.inr rfl))).newX (fun b _ h => .inl h)
  clear ho hb g3 h2 hap a1 a2 d1 d2 hrx
  go_wp2
  go_end0
  exact ⟨rfl, ⟨A', c', HD.out, HRX.out⟩, HO.out⟩

/-- What Start leaves. -/
def Started (w0 w : World) (L : Lc) (f : Fl) (e : Ending) (w' : World) : Prop :=
  e = .returned (.tuple #[]) ∧ (∃ Ap cp, FlAt w0 w' { L with Ap := Ap, cp := cp } (startF f) ∧ ∀ X : Nat → Prop, RdX X w L.Ap (kcells .u8 f.picks) → RdX X w' Ap (kcells .u8 (startF f).picks)) ∧ Only L w w'
theorem start2_any (h : FlAt w0 w L f) : Calls Try.prog 41 #[.pointer (some ⟨L.d, 0, none⟩)] w (Started w0 w L f) := by
  have h1 := eqp_some L.d
  have c3 := h.c3
  have c4 := h.c4
  have c5 := h.c5
  have f3 := h.fz 3
  have f4 := h.fz 4
  have f5 := h.fz 5
  by_cases hd : f.down = true
  · have HS : Hid (startF f = { f with down := false, fuse := -1, picks := [] }) := by unfold startF; rw [Hid, if_pos hd]
    obtain ⟨a1, a2⟩ := h.dn false
    obtain ⟨b1, b2⟩ := a1.fu (-1) (by omega) (by omega)
    obtain ⟨d1, d2⟩ := b1.pi none 0 [] (Nat.le_refl _) (Nat.zero_le _) (fun x hx => by simp at hx) (fun hx => absurd rfl hx)
    have HD := Lib.hid d1
    have HO : Hid (Only L w _) := (a2.trans b2).trans d2
    rw [hd] at c3
    clear h hd a1 a2 b1 b2 d1 d2
    go_enter Try.func41, Try.ntmps41
    go_wp2
    first
      | go_end0
      | ((try simp only [Exit.inBlock, Exit.then]); refine bodyPost_ret (results_none rfl _ _ _) rfl ?_)
    unfold Started
    rw [HS.out]
    exact ⟨rfl, ⟨none, 0, HD.out, fun X _ => RdX.nil⟩, HO.out⟩
  · have hd' : f.down = false := by simpa using hd
    have HS : Hid (startF f = f) := by unfold startF; rw [Hid, if_neg hd]
    have H := Lib.hid h
    rw [hd'] at c3
    clear h hd hd'
    go_enter Try.func41, Try.ntmps41
    go_wp2
    first
      | go_end0
      | ((try simp only [Exit.inBlock, Exit.then]); refine bodyPost_ret (results_none rfl _ _ _) rfl ?_)
    unfold Started
    rw [HS.out]
    exact ⟨rfl, ⟨L.Ap, L.cp, H.out, fun X h => h⟩, Only.refl _ _⟩

/-- Fuse, beside a store. -/
theorem fuseS_any (h : StAt w0 w L S f s) (n : Int) (hn : I64 n) (A : Option Addr) (m c : Nat) (p : List Int) (hA : Rd w w.heap.size A (kcells .u8 p)) (hm : p.length = m) (hm2 : m ≤ 140737488351232) (hp : Bytes p) :
    Calls Try.prog 39 #[.pointer (some ⟨L.d, 0, none⟩), .int .i64 n, .slice A m c] w fun e w' => e = .returned (.tuple #[]) ∧ (∃ Ap cp, StAt w0 w' { L with Ap := Ap, cp := cp } S (fuseF f n p) s) ∧ OnlyX (Own5 L S) w w' := by
  refine (fuse2_any h.fl n hn.1 hn.2 A m c p hA hm hm2 hp).mono ?_
  rintro e w' ⟨rfl, ⟨Ap, cp, hf, hr⟩, ho⟩
  exact ⟨rfl, ⟨Ap, cp, h.flash2 hf ho (hr _ h.own_lt)⟩, .of_only ho (Own5.fl L S)⟩
/-- Start, beside a store. -/
theorem startS_any (h : StAt w0 w L S f s) :
    Calls Try.prog 41 #[.pointer (some ⟨L.d, 0, none⟩)] w fun e w' => e = .returned (.tuple #[]) ∧ (∃ Ap cp, StAt w0 w' { L with Ap := Ap, cp := cp } S (startF f) s) ∧ OnlyX (Own5 L S) w w' := by
  refine (start2_any h.fl).mono ?_
  rintro e w' ⟨rfl, ⟨Ap, cp, hf, hr⟩, ho⟩
  exact ⟨rfl, ⟨Ap, cp, h.flash2 hf ho (hr _ h.pk)⟩, .of_only ho (Own5.fl L S)⟩
/-- The other blocks, when another store is opened. -/
theorem own_new {S' : Sc} {N : Nat} (h1 : N ≤ S'.D) (h2 : N ≤ S'.G) : ∀ b, b < N → Own L S' b → Own L S b := by
  intro b hb h
  rcases h with (e | e | e | e | e) | e
  · exact .inl (.inl e)
  · exact .inl (.inr (.inl e))
  · exact .inl (.inr (.inr (.inl e)))
  · omega
  · omega
  · exact .inr e
end
end Go.Proofs.Ytjdknddnanopaaa
