/-
  Firmware: what is known of a flash between two rounds, and how a round turns it. No program in sight.
-/
import Derived.Test.YtjdknddnanopaaaH6
namespace Go.Proofs.Ytjdknddnanopaaa
open Go.RowKit
set_option linter.unusedVariables false

/-- The first bytes of a slot, in a flash whose region begins at block 0. -/
def slotI (f : Fl) (k s n : Nat) : List Int := (f.img.drop (64 * ((2 + s * k) * f.pg))).take n
theorem imgB_slot {f : Fl} {b : Bk} {k s n : Nat} (h0 : b.first = 0) (hk : b.k = k) : imgB f b s n = slotI f k s n := by
  unfold imgB slotI blkB
  rw [h0, hk, Nat.zero_add]
/-- A slot that holds an image, by the saved state u. -/
structure Hd (f : Fl) (k : Nat) (u : List Int) (s : Nat) (X : List Int) : Prop where
  l1 : 1 ≤ X.length
  l2 : X.length ≤ k * f.pg * 64
  ln : u[4 + 3 * s]?.getD 0 = (X.length : Int)
  sm : u[5 + 3 * s]?.getD 0 = sumZ X
  im : slotI f k s X.length = X
theorem slotI_congr {f g : Fl} {k s n : Nat} (hp : g.pg = f.pg) (hn : n ≤ k * f.pg * 64) (h : ∀ x, (2 + s * k) * f.pg ≤ x → x < (2 + s * k) * f.pg + k * f.pg → pageF g x = pageF f x) : slotI g k s n = slotI f k s n := by
  unfold slotI
  rw [hp]
  exact img_congr (m := k * f.pg) (by omega) h
theorem Hd.turn {f g : Fl} {k : Nat} {u v : List Int} {s : Nat} {X : List Int} (h : Hd f k u s X) (hp : g.pg = f.pg) (h1 : v[4 + 3 * s]?.getD 0 = u[4 + 3 * s]?.getD 0) (h2 : v[5 + 3 * s]?.getD 0 = u[5 + 3 * s]?.getD 0) (hx : ∀ x, (2 + s * k) * f.pg ≤ x → x < (2 + s * k) * f.pg + k * f.pg → pageF g x = pageF f x) : Hd g k v s X :=
  ⟨h.l1, by rw [hp]; exact h.l2, h1.trans h.ln, h2.trans h.sm, by rw [slotI_congr hp h.l2 hx]; exact h.im⟩
/-- The saved state u, and the images C (confirmed) and T (on trial, where there is one). -/
inductive Gd (f : Fl) (k : Nat) (C : List Int) (T : Option (List Int)) (u : List Int) : Prop
  | quiet (a : Nat) (X : List Int) : a ≤ 1 → u[0]?.getD 0 = (a : Int) → u[1]?.getD 0 = 2 → Hd f k u a X → (X = C ∨ T = some X) → Gd f k C T u
  | trial (a t : Nat) (X : List Int) : a ≤ 1 → t = 1 - a → u[0]?.getD 0 = (a : Int) → u[1]?.getD 0 = (t : Int) → Hd f k u a C → T = some X → Hd f k u t X → Gd f k C T u
theorem Hd.far {f g : Fl} {k : Nat} {u : List Int} {s : Nat} {X : List Int} (h : Hd f k u s X) (hp : g.pg = f.pg) (hx : ∀ x, 2 * f.pg ≤ x → pageF g x = pageF f x) : Hd g k u s X :=
  h.turn hp rfl rfl (fun x h1 _ => hx x (by
    have := Nat.mul_le_mul_right f.pg (show 2 ≤ 2 + s * k by omega)
    omega))
theorem Gd.far {f g : Fl} {k : Nat} {C : List Int} {T : Option (List Int)} {u : List Int} (h : Gd f k C T u) (hp : g.pg = f.pg) (hx : ∀ x, 2 * f.pg ≤ x → pageF g x = pageF f x) : Gd g k C T u := by
  cases h with
  | quiet a X h1 h2 h3 h4 h5 => exact .quiet a X h1 h2 h3 (h4.far hp hx) h5
  | trial a t X h1 h2 h3 h4 h5 h6 h7 => exact .trial a t X h1 h2 h3 h4 (h5.far hp hx) h6 (h7.far hp hx)
theorem getD_set_ne {u : List Int} {i j : Nat} {x : Int} (h : i ≠ j) : (u.set i x)[j]?.getD 0 = u[j]?.getD 0 := by rw [List.getElem?_set, if_neg h]
theorem getD_set_eq {u : List Int} {i : Nat} {x : Int} (h : i < u.length) : (u.set i x)[i]?.getD 0 = x := by rw [List.getElem?_set, if_pos rfl, if_pos h]; rfl

theorem Hd.set {f : Fl} {k : Nat} {u : List Int} {s : Nat} {X : List Int} (h : Hd f k u s X) {i : Nat} (hi : i < 4) (x : Int) : Hd f k (u.set i x) s X :=
  h.turn rfl (getD_set_ne (by omega)) (getD_set_ne (by omega)) (fun _ _ _ => rfl)

/-- What runs behind Boot, by the state v that it left. -/
inductive Bt (f : Fl) (k : Nat) (C : List Int) (T : Option (List Int)) (v : List Int) (run : Nat) (X : List Int) : Prop
  | quiet : run ≤ 1 → v[0]?.getD 0 = (run : Int) → v[1]?.getD 0 = 2 → Hd f k v run X → (X = C ∨ T = some X) → Bt f k C T v run X
  | trial (a : Nat) : a ≤ 1 → run = 1 - a → v[0]?.getD 0 = (a : Int) → v[1]?.getD 0 = (run : Int) → Hd f k v a C → T = some X → Hd f k v run X → Bt f k C T v run X
theorem Gd.boot {f : Fl} {k : Nat} {C : List Int} {T : Option (List Int)} {u : List Int} (h : Gd f k C T u) (hl : u.length = 9) : ∃ (run : Nat) (X : List Int), run ≤ 1 ∧ (bootV u).2 = (run : Int) ∧ Bt f k C T (bootV u).1 run X := by
  cases h with
  | quiet a X h1 h2 h3 h4 h5 =>
    refine ⟨a, X, h1, ?_, ?_⟩
    · unfold bootV; rw [if_pos h3]; exact h2
    · unfold bootV; rw [if_pos h3]; exact .quiet h1 h2 h3 h4 h5
  | trial a t X h1 h2 h3 h4 h5 h6 h7 =>
    have hne : ¬ u[1]?.getD 0 = 2 := by rw [h4]; omega
    by_cases hk : (0 : Int) < u[2]?.getD 0
    · refine ⟨t, X, by omega, ?_, ?_⟩
      · unfold bootV; rw [if_neg hne, if_pos hk]; exact h4
      · unfold bootV; rw [if_neg hne, if_pos hk]
        exact .trial a h1 h2 (by rw [getD_set_ne (by omega)]; exact h3) (by rw [getD_set_ne (by omega)]; exact h4) (h5.set (by omega) _) h6 (h7.set (by omega) _)
    · refine ⟨a, C, h1, ?_, ?_⟩
      · unfold bootV; rw [if_neg hne, if_neg hk]; exact h3
      · unfold bootV; rw [if_neg hne, if_neg hk]
        exact .quiet h1 (by rw [getD_set_ne (by omega)]; exact h3) (getD_set_eq (by omega)) (h5.set (by omega) _) (.inl rfl)
theorem Bt.far {f g : Fl} {k : Nat} {C : List Int} {T : Option (List Int)} {v : List Int} {run : Nat} {X : List Int} (h : Bt f k C T v run X) (hp : g.pg = f.pg) (hx : ∀ x, 2 * f.pg ≤ x → pageF g x = pageF f x) : Bt g k C T v run X := by
  cases h with
  | quiet h1 h2 h3 h4 h5 => exact .quiet h1 h2 h3 (h4.far hp hx) h5
  | trial a h1 h2 h3 h4 h5 h6 h7 => exact .trial a h1 h2 h3 h4 (h5.far hp hx) h6 (h7.far hp hx)
theorem Bt.hd {f : Fl} {k : Nat} {C : List Int} {T : Option (List Int)} {v : List Int} {run : Nat} {X : List Int} (h : Bt f k C T v run X) : Hd f k v run X := by
  cases h with
  | quiet h1 h2 h3 h4 h5 => exact h4
  | trial a h1 h2 h3 h4 h5 h6 h7 => exact h7
theorem Bt.le {f : Fl} {k : Nat} {C : List Int} {T : Option (List Int)} {v : List Int} {run : Nat} {X : List Int} (h : Bt f k C T v run X) : run ≤ 1 := by
  cases h with
  | quiet h1 h2 h3 h4 h5 => exact h1
  | trial a h1 h2 h3 h4 h5 h6 h7 => omega

/-- A flash between two rounds: what may be saved in it. -/
structure Rnd (f : Fl) (k P : Nat) (G : List Int → Prop) (n : Int) : Prop where
  ok : f.ok
  pg : f.pg = P
  wl : f.wear.length = 2 * k + 2
  k1 : 1 ≤ k
  k8 : k ≤ 8
  p2 : 2 ≤ P
  st : ∃ s o, Sto f s o ∧ s.spec = fwSpec (k * P * 64) ∧ s.first = 0 ∧ s.blocks = 2 ∧ s.seq ≤ n ∧ G s.saved ∧ ∀ u, o = some u → G u
theorem Rnd.mono {f : Fl} {k P : Nat} {G H : List Int → Prop} {n : Int} (h : Rnd f k P G n) (hg : ∀ u, G u → H u) : Rnd f k P H n := by
  obtain ⟨s, o, h1, h2, h3, h4, h5, h6, h7⟩ := h.st
  exact ⟨h.ok, h.pg, h.wl, h.k1, h.k8, h.p2, s, o, h1, h2, h3, h4, h5, hg _ h6, fun u hu => hg _ (h7 u hu)⟩
theorem Rnd.more {f : Fl} {k P : Nat} {G : List Int → Prop} {n m : Int} (h : Rnd f k P G n) (hm : n ≤ m) : Rnd f k P G m := by
  obtain ⟨s, o, h1, h2, h3, h4, h5, h6, h7⟩ := h.st
  exact ⟨h.ok, h.pg, h.wl, h.k1, h.k8, h.p2, s, o, h1, h2, h3, h4, by omega, h6, h7⟩
theorem Rnd.fuse {f : Fl} {k P : Nat} {G : List Int → Prop} {n : Int} (h : Rnd f k P G n) {m : Int} {p : List Int} (hp : Bytes p) (hm : m < 9223372036854775808) : Rnd (fuseF f m p) k P G n := by
  obtain ⟨s, o, h1, h2, h3, h4, h5, h6, h7⟩ := h.st
  exact ⟨fuseF_ok h.ok hp hm, h.pg, h.wl, h.k1, h.k8, h.p2, s, o, h1.fuse h.ok hp hm, h2, h3, h4, h5, h6, h7⟩
/-- The active slot is not empty. -/
def Full (G : List Int → Prop) : Prop := ∀ u, G u → u[4 + 3 * (u[0]?.getD 0).toNat]?.getD 0 ≠ 0
theorem Gd.full {f : Fl} {k : Nat} {C : List Int} {T : Option (List Int)} : Full (Gd f k C T) := by
  intro u h
  cases h with
  | quiet a X b1 b2 b3 b4 b5 =>
    rw [b2, Int.toNat_natCast, b4.ln]
    have := b4.l1
    omega
  | trial a t X b1 b2 b3 b4 b5 b6 b7 =>
    rw [b3, Int.toNat_natCast, b5.ln]
    have := b5.l1
    omega
/-- A bank that was opened, without a failure so far. -/
structure Opn (f : Fl) (k P : Nat) (n : Int) (b : Bk) : Prop where
  J : BkJ f b n
  rs : Rest f b
  first : b.first = 0
  blocks : b.blocks = 2 * k + 2
  pg : f.pg = P
  wl : f.wear.length = 2 * k + 2
  k1 : 1 ≤ k
  k8 : k ≤ 8
  p2 : 2 ≤ P
  upl : b.upload = false
  bu : b.st.busy = false
  sg : b.st.staged = b.st.saved
theorem Opn.k {f : Fl} {k P : Nat} {n : Int} {b : Bk} (h : Opn f k P n b) : b.k = k := by unfold Bk.k; rw [h.blocks]; omega
theorem Opn.len {f : Fl} {k P : Nat} {n : Int} {b : Bk} (h : Opn f k P n b) : b.st.saved.length = 9 := by rw [h.J.ok.ok.sl, h.J.ok.sp]; rfl
theorem Opn.sp {f : Fl} {k P : Nat} {n : Int} {b : Bk} (h : Opn f k P n b) : b.st.spec = fwSpec (k * P * 64) := by
  rw [h.J.ok.sp, h.blocks]
  unfold sizeF
  rw [h.pg, show (2 * k + 2 - 2) / 2 = k by omega]
theorem Rnd.opens {f : Fl} {k P : Nat} {G : List Int → Prop} {n : Int} (h : Rnd f k P G n) (hG : Full G) (hf : f.fuse = -1) {B : Int} (hB : B = ((2 * k + 2 : Nat) : Int)) :
    (startF f).up ∧ regE (startF f) 0 B = 0 ∧ fwOpenE (startF f) 0 B = 0 ∧ Opn (startF f) k P (n + 1) (fwOpenB (startF f) 0 B) ∧ (fwOpenB (startF f) 0 B).slot = 2 ∧ G (fwOpenB (startF f) 0 B).st.saved := by
  subst hB
  obtain ⟨s, o, h1, h2, h3, h4, h5, h6, h7⟩ := h.st
  obtain ⟨i1, i2, i3, i4⟩ := startF_same f
  obtain ⟨g, hg⟩ : ∃ g, startF f = g := ⟨_, rfl⟩
  have hgu : g.up := by
    rw [← hg]
    refine ⟨startF_ok h.ok, i4, ?_⟩
    unfold startF
    split
    · rfl
    · exact hf
  have hbad : s.spec.any badP = false := by rw [h2]; exact fwSpec_bad _
  obtain ⟨a1, a2, a3, a4⟩ := h1.again h.ok hbad
  have a5 := h1.seq h.ok hbad h5
  rw [hg] at i1 i2 i3 i4 a1 a2 a3 a4 a5 ⊢
  have hsz : sizeF g (2 * k + 2) = k * P * 64 := by
    unfold sizeF
    rw [i2, h.pg, show (2 * k + 2 - 2) / 2 = k by omega]
  rw [h2, h3, h4] at a1 a2 a3 a5
  have hreg : regE g ((0 : Nat) : Int) ((2 * k + 2 : Nat) : Int) = 0 := by
    have := h.wl
    have := h.k1
    have := h.k8
    have := h.p2
    have := h.pg
    unfold regE
    rw [if_neg (by rw [i4]; decide), if_neg (by omega), if_neg (by rw [i3]; omega), if_neg (by rw [i2]; omega)]
  have hob : fwOpenB g ((0 : Nat) : Int) ((2 * k + 2 : Nat) : Int) = newB (openF g 0 2 (fwSpec (k * P * 64))) 0 (2 * k + 2) := by
    unfold fwOpenB
    rw [Int.toNat_natCast, Int.toNat_natCast, hsz]
  have hbok := fwOpen_ok hgu.ok hreg
  have hgd : G (openF g 0 2 (fwSpec (k * P * 64))).saved := by
    rcases a3 with e | e
    · rw [e]; exact h6
    · exact h7 _ e
  have hfr := openF_fresh (f := g) (fi := 0) (bl := 2) (sp := fwSpec (k * P * 64)) (fwSpec_ok (by
    have : k * P ≤ 8 * 16 := Nat.mul_le_mul h.k8 (by have := h.ok.p2; rw [h.pg] at this; exact this)
    omega)) a1 a2
  rw [hob] at hbok
  obtain ⟨z1, z2⟩ := hfr.sv.none_live
  have hJ : BkJ g (newB (openF g 0 2 (fwSpec (k * P * 64))) 0 (2 * k + 2)) (n + 1) :=
    ⟨hbok, hgu.ok, fun _ _ => ⟨z1, z2.symm⟩, fun _ => i4, ⟨_, hfr.sv.sto⟩, fun e he => (by cases he), fun d hd => (by cases hd), a5, fun e => (by cases e)⟩
  refine ⟨hgu, hreg, ?_, ?_, ?_, ?_⟩
  · have : fwOpenE g ((0 : Nat) : Int) ((2 * k + 2 : Nat) : Int) = 0 := by
      unfold fwOpenE
      rw [if_neg (by rw [hreg]; decide), Int.toNat_natCast, Int.toNat_natCast, hsz]
      simp only
      rw [if_neg]
      exact hG _ hgd
    exact this
  · show Opn g k P (n + 1) (fwOpenB g ((0 : Nat) : Int) ((2 * k + 2 : Nat) : Int))
    rw [hob]
    exact ⟨hJ, ⟨rfl, rfl, rfl, rfl⟩, rfl, rfl, i2.trans h.pg, by rw [i3]; exact h.wl, h.k1, h.k8, h.p2, rfl, z2, hfr.st⟩
  · show (fwOpenB g ((0 : Nat) : Int) ((2 * k + 2 : Nat) : Int)).slot = 2
    rw [hob]
    rfl
  · show G (fwOpenB g ((0 : Nat) : Int) ((2 * k + 2 : Nat) : Int)).st.saved
    rw [hob]
    exact hgd
end Go.Proofs.Ytjdknddnanopaaa
