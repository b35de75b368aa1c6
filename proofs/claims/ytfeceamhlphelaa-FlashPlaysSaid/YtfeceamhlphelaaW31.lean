/-
  Towards FlashPlays: what stays beside a flash; both sides alike.
-/
import Derived.Test.YtfeceamhlphelaaW28
import Derived.Test.YtfeceamhlphelaaW24
namespace Go.Proofs.Ytfeceamhlphelaa
open Go.RowKit
set_option linter.unusedVariables false

/-- No byte lies in a block. -/
def NoU8 (w : World) (B : Nat) : Prop := ∀ j x, w.cell? ⟨B, j, none⟩ ≠ some (.int .u8 x)
theorem NoU8.below {w w' : World} {B N : Nat} (h : NoU8 w B) (hb : Below N w w') (hB : B < N) : NoU8 w' B := fun j x e => h j x ((hb.cell (p := ⟨B, j, none⟩) hB).symm.trans e)
theorem NoU8.only {L : Lc} {w w' : World} {B : Nat} (h : NoU8 w B) (ho : Only L w w') (hB : B < w.heap.size) (hn : ¬ XL L B) : NoU8 w' B := fun j x e =>
  h j x ((cell_of_block (ho.block B hB (fun e => hn (.inl e)) (fun e => hn (.inr (.inl e))) (fun e => hn (.inr (.inr e))))).symm.trans e)
theorem NoU8.set {w : World} {B : Nat} (h : NoU8 w B) (p : Addr) (u : Value) (hu : ∀ x, u ≠ .int .u8 x) {v : Value} (hv : w.cell? p = some v) : NoU8 (w.setCell p u) B := fun j x e => by
  by_cases hp : p = ⟨B, j, none⟩
  · subst hp
    rw [World.cell?_setCell_same _ _ _ hv] at e
    injection e with e
    exact hu x e
  · rw [set_far _ _ _ _ hp] at e
    exact h j x e
theorem NoU8.put {w : World} {B : Nat} {a b c d e f : Value} (h : NoU8 w B) (h6 : six w B a b c d e f) (A : Option Addr) (n c1 : Nat) (p : Int) (A2 : Option Addr) (n2 c2 : Nat) (dn : Bool) (fu : Int) (A3 : Option Addr) (n3 c3 : Nat) :
    NoU8 (put6 w B (.slice A n c1) (.int .i64 p) (.slice A2 n2 c2) (.bool dn) (.int .i64 fu) (.slice A3 n3 c3)) B := by
  have s0 := h6.set0 (.slice A n c1)
  have s1 := s0.set1 (.int .i64 p)
  have s2 := s1.set2 (.slice A2 n2 c2)
  have s3 := s2.set3 (.bool dn)
  have s4 := s3.set4 (.int .i64 fu)
  exact (((((h.set _ _ (fun x e => by cases e) h6.1).set _ _ (fun x e => by cases e) s0.2.1).set _ _ (fun x e => by cases e) s1.2.2.1).set _ _ (fun x e => by cases e) s2.2.2.2.1).set _ _ (fun x e => by cases e) s3.2.2.2.2.1).set _ _ (fun x e => by cases e) s4.2.2.2.2.2.1
theorem noU8_new (w : World) (A : Option Addr) (n c1 : Nat) (p : Int) (A2 : Option Addr) (n2 c2 : Nat) (dn : Bool) (fu : Int) (A3 : Option Addr) (n3 c3 : Nat) (t : TypeId) :
    NoU8 (w.alloc (.cells #[.slice A n c1, .int .i64 p, .slice A2 n2 c2, .bool dn, .int .i64 fu, .slice A3 n3 c3] t)) w.heap.size := by
  intro j x e
  rw [World.cell?_alloc_new] at e
  match j, e with
  | 0, e => cases e
  | 1, e => cases e
  | 2, e => cases e
  | 3, e => cases e
  | 4, e => cases e
  | 5, e => cases e
  | n + 6, e => simp at e
/-- A list of bytes lies apart from such a block. -/
theorem rd_no8 {w : World} {N B : Nat} {A : Option Addr} {l : List Int} (h : Rd w N A (kcells .u8 l)) (hN : N ≤ w.heap.size) (h8 : NoU8 w B) : RdX (fun k => k = B) w A (kcells .u8 l) := fun hx => by
  obtain ⟨b, off, e, hlt, hc⟩ := h hx
  refine ⟨b, off, e, Nat.lt_of_lt_of_le hlt hN, fun hb => ?_, hc⟩
  cases l with
  | nil => exact hx rfl
  | cons z l =>
    have := hc 0 (.int .u8 z) rfl
    rw [hb] at this
    exact h8 _ _ this
theorem RdX.put6 {X : Nat → Prop} {w : World} {A : Option Addr} {xs : List Value} (h : RdX X w A xs) {C : Nat} (hC : X C) (a b c d e f : Value) : RdX X (put6 w C a b c d e f) A xs :=
  (((((h.setCell _ _ hC).setCell _ _ hC).setCell _ _ hC).setCell _ _ hC).setCell _ _ hC).setCell _ _ hC
theorem apart_no8 {L : Lc} {w : World} {A : Option Addr} {l : List Int} (h : Apart L w A (kcells .u8 l)) {p : Addr} {u : Value} (h8 : NoU8 w p.block) : Apart L (w.setCell p u) A (kcells .u8 l) := fun hx => by
  obtain ⟨b, off, e, hlt, h1, h2, h3, hc⟩ := h hx
  have hb : b ≠ p.block := by
    intro hb
    cases l with
    | nil => exact hx rfl
    | cons z l =>
      have := hc 0 (.int .u8 z) rfl
      rw [hb] at this
      exact h8 _ _ this
  exact ⟨b, off, e, by simpa [World.setCell] using hlt, h1, h2, h3, fun j v hv => (cell_of_block (Below.heap_setCell _ _ _ _ hb)).trans (hc j v hv)⟩
theorem FlAt.beside {w0 w : World} {L : Lc} {f : Fl} (h : FlAt w0 w L f) (p : Addr) (u : Value) (h0 : w0.heap.size ≤ p.block) (hX : ¬ XL L p.block) (h8 : NoU8 w p.block) : FlAt w0 (w.setCell p u) L f := by
  have h1 : p.block ≠ L.d := fun e => hX (.inl e)
  have h2 : p.block ≠ L.gi := fun e => hX (.inr (.inl e))
  have h3 : p.block ≠ L.gw := fun e => hX (.inr (.inr e))
  have k : ∀ j, (w.setCell p u).cell? ⟨L.d, j, none⟩ = w.cell? ⟨L.d, j, none⟩ := fun j => set_far _ _ _ _ (by intro e; exact h1 (by rw [e]))
  exact ⟨h.ok, h.below.setCell h0 _, h.bd, by simpa [World.setCell] using h.ld, h.ni, h.nw, h.iw, (k 0).trans h.c0, (k 1).trans h.c1, (k 2).trans h.c2, (k 3).trans h.c3, (k 4).trans h.c4, (k 5).trans h.c5, fun j => by rw [World.frozen?_setCell]; exact h.fz j, ownsRow_setCell_other h.oi (by simpa [Value.ownBlock] using fun e => h2 e.symm) _, ownsRow_setCell_other h.ow (by simpa [Value.ownBlock] using fun e => h3 e.symm) _, h.pc, h.pm, apart_no8 h.pk h8⟩
theorem flat_puts {w0 w : World} {L : Lc} {f : Fl} {B : Nat} {a b c d e g : Value} (h : FlAt w0 w L f) (h0 : w0.heap.size ≤ B) (hX : ¬ XL L B) (h8 : NoU8 w B) (h6 : six w B a b c d e g) (A : Option Addr) (n c1 : Nat) (p : Int) (A2 : Option Addr) (n2 c2 : Nat) (dn : Bool) (fu : Int) (A3 : Option Addr) (n3 c3 : Nat) :
    FlAt w0 (put6 w B (.slice A n c1) (.int .i64 p) (.slice A2 n2 c2) (.bool dn) (.int .i64 fu) (.slice A3 n3 c3)) L f := by
  have s0 := h6.set0 (.slice A n c1)
  have s1 := s0.set1 (.int .i64 p)
  have s2 := s1.set2 (.slice A2 n2 c2)
  have s3 := s2.set3 (.bool dn)
  have t0 := h8.set ⟨B, 0, none⟩ (.slice A n c1) (fun x e => by cases e) h6.1
  have t1 := t0.set ⟨B, 1, none⟩ (.int .i64 p) (fun x e => by cases e) s0.2.1
  have t2 := t1.set ⟨B, 2, none⟩ (.slice A2 n2 c2) (fun x e => by cases e) s1.2.2.1
  have t3 := t2.set ⟨B, 3, none⟩ (.bool dn) (fun x e => by cases e) s2.2.2.2.1
  have t4 := t3.set ⟨B, 4, none⟩ (.int .i64 fu) (fun x e => by cases e) s3.2.2.2.2.1
  exact (((((h.beside ⟨B, 0, none⟩ _ h0 hX h8).beside ⟨B, 1, none⟩ _ h0 hX t0).beside ⟨B, 2, none⟩ _ h0 hX t1).beside ⟨B, 3, none⟩ _ h0 hX t2).beside ⟨B, 4, none⟩ _ h0 hX t3).beside ⟨B, 5, none⟩ _ h0 hX t4

theorem sim_does {f g : Fl} (h : Sim f g) (x : Ac) (hk : 0 ≤ x.k) : (x.nexts g).2 = (x.does f).2 ∧ Sim (x.does f).1 (x.nexts g).1 := by
  unfold Ac.nexts Ac.does doF
  by_cases c1 : x.k % 6 = 0 ∨ x.k % 6 = 1
  · have d1 : x.k % 6 < 2 := by omega
    rw [if_pos c1, if_pos d1]
    exact ⟨by rw [(h.prog _ _).1], (h.prog _ _).2⟩
  · have d1 : ¬ x.k % 6 < 2 := by omega
    rw [if_neg c1, if_neg d1]
    by_cases c2 : x.k % 6 = 2
    · rw [if_pos c2, if_pos c2]
      exact ⟨by rw [(h.erase _).1], (h.erase _).2⟩
    · rw [if_neg c2, if_neg c2]
      by_cases c3 : x.k % 6 = 3
      · rw [if_pos c3, if_pos c3]
        exact ⟨by rw [h.read], h⟩
      · rw [if_neg c3, if_neg c3]
        by_cases c4 : x.k % 6 = 4
        · rw [if_pos c4, if_pos c4]
          exact ⟨rfl, h.fu _ _⟩
        · rw [if_neg c4, if_neg c4]
          exact ⟨rfl, h.start⟩
end Go.Proofs.Ytfeceamhlphelaa
