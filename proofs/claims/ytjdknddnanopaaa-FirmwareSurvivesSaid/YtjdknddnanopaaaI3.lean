/-
  Layer 52: a bank is opened beside slices; the rounds of the statement about tries, as values.
-/
import Derived.Test.YtjdknddnanopaaaI2
namespace Go.Proofs.Ytjdknddnanopaaa
open Go.RowKit
set_option linter.unusedVariables false
set_option linter.unusedSimpArgs false

section
variable {w0 w w' : World} {L : Lc} {S : Sc} {K : Kc} {f : Fl} {b : Bk} {d D : Nat} {l : List (Option Addr × List Value)}
theorem BkAt.own_lt (h : BkAt w0 w L S K f b) : ∀ g, OwnK L S K g → g < w.heap.size := by
  rintro g ((rfl | rfl | rfl | rfl | rfl) | rfl | hg)
  · exact h.st.fl.ld
  · exact h.st.fl.bi.2
  · exact h.st.fl.bw.2
  · exact h.st.dl
  · exact h.st.gl.2
  · exact h.lt
  · exact (h.er.lt hg).2
theorem Bx.add (h : Bx w0 w d D l f b) {A : Option Addr} {n c e : Nat} {xs : List Value} (hb : Below w.heap.size w w') (hn : xs.length = n) (ho : w'.ownsRow w.heap.size e 1 (.slice A n c) n xs) : Bx w0 w' d D ((A, xs) :: l) f b := by
  obtain ⟨L, S, K, h1, h2, hk, hl⟩ := h
  refine ⟨L, S, K, h1, h2, hk.later hb, fun p hp => ?_⟩
  rcases List.mem_cons.1 hp with rfl | hp
  · exact RdX.new (w := w) hk.own_lt (Nat.le_refl _) hn ho
  · exact (hl p hp).below hb
theorem Bx.open (h : Bx w0 w d D l f b) (first blocks : Int) (hE : regE f first blocks = 0) (hz : fwOpenE f first blocks = 0) : Calls Try.prog 15 #[.pointer (some ⟨d, 0, none⟩), .int .i64 first, .int .i64 blocks] w fun e w' => ∃ D', e = .returned (.tuple #[.pointer (some ⟨D', 0, none⟩), .nilIface]) ∧ Bx w0 w' d D' l f (fwOpenB f first blocks) := by
  obtain ⟨L, S, K, rfl, h2, hk, hl⟩ := h
  refine (fopen_yes hk.st.fl first blocks hE hz (hk.st.pk.newX (fun g _ hg => .inr hg))).mono ?_
  rintro e w' ⟨S', K', he, hk', hb, s1, s2, s3, s4⟩
  refine ⟨K'.D, he, { L with E := fun g => L.E g ∨ g = K'.D }, S', K', rfl, rfl, hk', fun p hp => ((hl p hp).newX (fun g hg hx => ?_)).below hb⟩
  rcases hx with (hx | hx | hx | hx | hx) | hx | hx
  · exact .inl (.inl hx)
  · exact .inl (.inr (.inl hx))
  · exact .inl (.inr (.inr (.inl hx)))
  · omega
  · omega
  · omega
  · rw [s4] at hx
    cases hx
end

/-- The state before round i, and whether it was confirmed. -/
def TrV (u : List Int) (i : Nat) (sure : Bool) : Prop :=
  (sure = true ∧ u[0]?.getD 0 = 1 ∧ u[1]?.getD 0 = 2) ∨ (sure = false ∧ u[0]?.getD 0 = 0 ∧ ((i ≤ 3 ∧ u[1]?.getD 0 = 1 ∧ u[2]?.getD 0 = 3 - (i : Int)) ∨ (4 ≤ i ∧ u[1]?.getD 0 = 2)))
theorem tr_boot {u : List Int} {i : Nat} {sure : Bool} (h : TrV u i sure) (hl : u.length = 9) :
    TrV (bootV u).1 (i + 1) sure ∧ ((sure = true ∨ i < 3) ∧ (bootV u).2 = 1 ∨ ¬ (sure = true ∨ i < 3) ∧ (bootV u).2 = 0 ∧ (bootV u).1[1]?.getD 0 = 2) ∧ (sure = false → i < 3 → (bootV u).1[0]?.getD 0 = 0 ∧ (bootV u).1[1]?.getD 0 = 1) := by
  rcases h with ⟨h1, h2, h3⟩ | ⟨h1, h2, ⟨h3, h4, h5⟩ | ⟨h3, h4⟩⟩
  · unfold bootV
    rw [if_pos h3]
    exact ⟨.inl ⟨h1, h2, h3⟩, .inl ⟨.inl h1, h2⟩, fun e => by rw [h1] at e; cases e⟩
  · by_cases hi : i = 3
    · unfold bootV
      rw [if_neg (by rw [h4]; decide), if_neg (by rw [h5]; omega)]
      refine ⟨.inr ⟨h1, ?_, .inr ⟨by omega, ?_⟩⟩, .inr ⟨?_, h2, ?_⟩, fun _ e => by omega⟩
      · simp only; rw [getD_set_ne (by omega)]; exact h2
      · simp only; rw [getD_set_eq (by omega)]
      · rintro (e | e)
        · rw [h1] at e; cases e
        · omega
      · simp only; rw [getD_set_eq (by omega)]
    · unfold bootV
      rw [if_neg (by rw [h4]; decide), if_pos (by rw [h5]; omega)]
      refine ⟨.inr ⟨h1, ?_, .inl ⟨by omega, ?_, ?_⟩⟩, .inl ⟨.inr (by omega), h4⟩, fun _ _ => ⟨?_, ?_⟩⟩
      · simp only; rw [getD_set_ne (by omega)]; exact h2
      · simp only; rw [getD_set_ne (by omega)]; exact h4
      · simp only; rw [getD_set_eq (by omega), h5]; omega
      · simp only; rw [getD_set_ne (by omega)]; exact h2
      · simp only; rw [getD_set_ne (by omega)]; exact h4
  · unfold bootV
    rw [if_pos h4]
    refine ⟨.inr ⟨h1, h2, .inr ⟨by omega, h4⟩⟩, .inr ⟨?_, h2, h4⟩, fun _ e => by omega⟩
    rintro (e | e)
    · rw [h1] at e; cases e
    · omega
/-- What is known before round i. -/
structure TrS (f : Fl) (k P : Nat) (C X : List Int) (n : Int) (u : List Int) (i : Nat) (sure : Bool) : Prop where
  rnd : Rnd f k P (fun x => x = u) n
  up : f.up
  h0 : Hd f k u 0 C
  h1 : Hd f k u 1 X
  tv : TrV u i sure
theorem bootV_len (u : List Int) : (bootV u).1.length = u.length := by
  unfold bootV
  split
  · rfl
  split
  · exact List.length_set ..
  · exact List.length_set ..
theorem bootV_get (u : List Int) {j : Nat} (hj : 3 ≤ j) : (bootV u).1[j]?.getD 0 = u[j]?.getD 0 := by
  unfold bootV
  split
  · rfl
  split
  · exact getD_set_ne (by omega)
  · exact getD_set_ne (by omega)

/-- A round of the statement about tries. -/
structure TrR (f : Fl) (k P : Nat) (C X : List Int) (n : Int) (i : Nat) (sure : Bool) (B : Int) (b : Bk) (q : Bk × Fl × Int × Int) (run : Nat) : Prop where
  reg : regE f 0 B = 0
  oe : fwOpenE f 0 B = 0
  ob : fwOpenB f 0 B = b
  J : BkJ f b (n + 1)
  bt : bootB b f = q
  qr : q.2.2 = ((run : Int), 0)
  J2 : BkJ q.2.1 q.1 (n + 2)
  im : imageB q.1 q.2.1 (run : Int) = (q.1, if run = 1 then X else C, 0)
  rn : (sure = true ∨ i < 3) ∧ run = 1 ∨ ¬ (sure = true ∨ i < 3) ∧ run = 0 ∧ savB q.1 1 = 2
  nx : ∃ v, TrS q.2.1 k P C X (n + 2) v (i + 1) sure
  cf : sure = false → run = 1 → (confirmB q.1 q.2.1).2 = 0 ∧ (stepsB 40 (confirmB q.1 q.2.1).1 q.2.1).2.2 = true ∧ ∃ v, TrS (stepsB 40 (confirmB q.1 q.2.1).1 q.2.1).2.1 k P C X (n + 42) v (i + 1) true
theorem tr_round {f : Fl} {k P : Nat} {C X : List Int} {n : Int} {u : List Int} {i : Nat} {sure : Bool} (h : TrS f k P C X n u i sure) (hn : n ≤ 900000) {B : Int} (hB : B = ((2 * k + 2 : Nat) : Int)) : ∃ b q run, TrR f k P C X n i sure B b q run := by
  have hG : Full (fun x => x = u) := by
    rintro x rfl
    rcases h.tv with ⟨_, e, _⟩ | ⟨_, e, _⟩
    · rw [e, show (1 : Int).toNat = 1 from rfl, h.h1.ln]
      have := h.h1.l1
      omega
    · rw [e, show (0 : Int).toNat = 0 from rfl, h.h0.ln]
      have := h.h0.l1
      omega
  obtain ⟨a1, a2, a3, a4, a5, a6⟩ := h.rnd.opens hG h.up.fu hB
  rw [startF_rest h.up.dn] at a1 a2 a3 a4 a5 a6
  obtain ⟨b, hb⟩ : ∃ b, fwOpenB f 0 B = b := ⟨_, rfl⟩
  rw [hb] at a4 a5 a6
  have a6 : b.st.saved = u := a6
  have hl := a4.len
  rw [a6] at hl
  obtain ⟨t1, t2, t3⟩ := tr_boot h.tv hl
  have hbu := boot_up a4.J a4.rs h.up a5 a4.bu a4.sg (by omega)
  obtain ⟨q, hq⟩ : ∃ q, bootB b f = q := ⟨_, rfl⟩
  rw [hq] at hbu
  have hfar : ∀ x, 2 * f.pg ≤ x → pageF q.2.1 x = pageF f x := fun x hx => hbu.far x (far0 hx a4.first)
  have hsv := hbu.sv
  rw [a6] at hsv
  obtain ⟨v, hv⟩ : ∃ v, (bootV u).1 = v := ⟨_, rfl⟩
  have k0 : Hd q.2.1 k v 0 C := h.h0.turn hbu.sh.p (by rw [← hv]; exact bootV_get u (by omega)) (by rw [← hv]; exact bootV_get u (by omega)) (fun x hx _ => hfar x (Nat.le_trans (Nat.mul_le_mul_right _ (by omega)) hx))
  have k1 : Hd q.2.1 k v 1 X := h.h1.turn hbu.sh.p (by rw [← hv]; exact bootV_get u (by omega)) (by rw [← hv]; exact bootV_get u (by omega)) (fun x hx _ => hfar x (Nat.le_trans (Nat.mul_le_mul_right _ (by omega)) hx))
  rw [hv] at t1 t2 t3 hsv
  have hrun := hbu.run
  have hslot := hbu.slot
  rw [a6] at hrun hslot
  have ho : Opn q.2.1 k P (n + 1 + 1) q.1 := ⟨hbu.J, hbu.rs, hbu.first.trans a4.first, hbu.blocks.trans a4.blocks, hbu.sh.p.trans a4.pg, hbu.sh.w.trans a4.wl, a4.k1, a4.k8, a4.p2, hbu.upl.trans a4.upl, hbu.bu, hbu.sg⟩
  have hbr := hbu.rs.br
  have him : ∀ (s : Nat) (Y : List Int), s ≤ 1 → Hd q.2.1 k v s Y → imageB q.1 q.2.1 (s : Int) = (q.1, Y, 0) := fun s Y hs hh =>
    image_plain hbr hbu.up.dn hs (by unfold savB; rw [hsv]; exact hh.ln) hh.l1 (.inl ho.upl) (by rw [imgB_slot ho.first ho.k]; exact hh.im) (by unfold savB; rw [hsv]; exact hh.sm)
  have hidle : TrS q.2.1 k P C X (n + 2) v (i + 1) sure := ⟨(ho.idle (G := fun x => x = v) hsv).more (by omega), hbu.up, k0, k1, t1⟩
  have h2 : q.2.2 = (q.2.2.1, 0) := by rw [← hbu.code]
  rcases t2 with ⟨r1, r2⟩ | ⟨r1, r2, r3⟩
  · refine ⟨b, q, 1, a2, a3, hb, a4.J, hq, by rw [h2, hrun, r2]; rfl, hbu.J.more (by omega), by rw [if_pos rfl]; exact him 1 X (by omega) k1, .inl ⟨r1, rfl⟩, ⟨v, hidle⟩, fun hs _ => ?_⟩
    have hi3 : i < 3 := by
      rcases r1 with e | e
      · rw [hs] at e; cases e
      · exact e
    obtain ⟨v0, v1⟩ := t3 hs hi3
    have hs1 : q.1.slot = 1 := by rw [r2] at hslot; omega
    obtain ⟨c1, c2⟩ := ho.confirm (by omega) (run := 1) (a := 0) hs1 (C := C) (X := X) (by omega) rfl (by rw [hsv]; exact v0) (by rw [hsv]; exact v1) (by rw [hsv]; exact k0) (by rw [hsv]; exact k1)
    obtain ⟨d1, d2, d3⟩ := c2.up hbu.up
    have hlv : v.length = 9 := by rw [← hv, bootV_len, hl]
    rw [hsv] at d3
    obtain ⟨g1, g2, g3⟩ := con_get hlv 1
    refine ⟨c1, d1, conV v 1, d3.more (by omega), d2, ?_, ?_, .inl ⟨rfl, g1, g2⟩⟩
    · exact k0.turn c2.pg (g3 _ (by omega)) (g3 _ (by omega)) (fun x hx _ => c2.far x (Nat.le_trans (Nat.mul_le_mul_right _ (by omega)) hx))
    · exact k1.turn c2.pg (g3 _ (by omega)) (g3 _ (by omega)) (fun x hx _ => c2.far x (Nat.le_trans (Nat.mul_le_mul_right _ (by omega)) hx))
  · refine ⟨b, q, 0, a2, a3, hb, a4.J, hq, by rw [h2, hrun, r2]; rfl, hbu.J.more (by omega), by rw [if_neg (by omega)]; exact him 0 C (by omega) k0, .inr ⟨r1, rfl, ?_⟩, ⟨v, hidle⟩, fun _ e => by cases e⟩
    unfold savB
    rw [hsv]
    exact r3
end Go.Proofs.Ytjdknddnanopaaa
