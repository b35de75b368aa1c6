/-
  The reference's next.
-/
import Derived.Test.YtfeceamhlphelaaW22
import Derived.Test.YtfeceamhlphelaaW17
import Derived.Test.YtfeceamhlphelaaW13
import Derived.Deep.DeepCutAuto
namespace Go.Proofs.Ytfeceamhlphelaa
open Go.RowKit
set_option linter.unusedVariables false

/-- What next does. -/
def Ac.nexts (x : Ac) (g : Fl) : Fl × Int × List Int :=
  if x.k % 6 = 0 ∨ x.k % 6 = 1 then ((progF g x.a (page0 x.n x.b)).1, (progF g x.a (page0 x.n x.b)).2, []) else if x.k % 6 = 2 then ((eraseF g x.a).1, (eraseF g x.a).2, [])
  else if x.k % 6 = 3 then (g, (readF g x.a).2, (readF g x.a).1) else if x.k % 6 = 4 then (fuseF g x.n x.p, 0, []) else (startR g, 0, [])

def X3 (X : Nat → Prop) (N b : Nat) : Prop := X b ∨ (N ≤ b ∧ b ≤ N + 2)
theorem RdX.three {X : Nat → Prop} {w : World} {A : Option Addr} {xs : List Value} (h : RdX X w A xs) : RdX (X3 X w.heap.size) w A xs := fun hx => by
  obtain ⟨b, off, e, hlt, hn, hc⟩ := h hx
  exact ⟨b, off, e, hlt, fun h2 => by
    rcases h2 with h2 | ⟨h2, _⟩
    · exact hn h2
    · omega, hc⟩
theorem RAt.three {X : Nat → Prop} {w : World} {x : Rc} {g : Fl} (h : RAt X w x g) : RAt (X3 X w.heap.size) w x g :=
  ⟨h.ok, h.a.three, h.a1, h.a2, h.b.three, h.b1, h.b2, h.p.three, h.p1, h.p2⟩
theorem x3_lt {X : Nat → Prop} {N M : Nat} (h : ∀ b, X b → b < N) (hM : N + 2 < M) : ∀ b, X3 X N b → b < M := fun b hb => by
  rcases hb with hb | ⟨_, hb⟩
  · have := h b hb; omega
  · omega

theorem ac_more {x : Ac} {w : World} {B0 B1 : Nat} (h : x.ok w B0) (hB : B0 ≤ B1) : x.ok w B1 :=
  ⟨h.rb.more hB, h.lb, h.mb, h.cb, h.bb, h.rp.more hB, h.lp, h.mp, h.cp, h.bp, h.sq, h.k0, h.k1, h.wa, h.wn⟩

def five (w : World) (B : Nat) (x : Ac) : Prop :=
  w.cell? ⟨B, 0, none⟩ = some (.int .u8 x.k) ∧ w.cell? ⟨B, 1, none⟩ = some (.int .i64 x.a) ∧ w.cell? ⟨B, 2, none⟩ = some (.int .i64 x.n) ∧ w.cell? ⟨B, 3, none⟩ = some (.slice x.B x.m x.e) ∧ w.cell? ⟨B, 4, none⟩ = some (.slice x.P x.q x.r)
theorem five.below {w w' : World} {B N : Nat} {x : Ac} (h : five w B x) (hb : Below N w w') (hB : B < N) : five w' B x :=
  ⟨(hb.cell (p := ⟨B, 0, none⟩) hB).trans h.1, (hb.cell (p := ⟨B, 1, none⟩) hB).trans h.2.1, (hb.cell (p := ⟨B, 2, none⟩) hB).trans h.2.2.1, (hb.cell (p := ⟨B, 3, none⟩) hB).trans h.2.2.2.1, (hb.cell (p := ⟨B, 4, none⟩) hB).trans h.2.2.2.2⟩

theorem RdX.plus {X Y : Nat → Prop} {w : World} {A : Option Addr} {xs : List Value} (h : RdX X w A xs) (hY : ∀ b, Y b → w.heap.size ≤ b) : RdX (fun b => X b ∨ Y b) w A xs := fun hx => by
  obtain ⟨b, off, e, hlt, hn, hc⟩ := h hx
  exact ⟨b, off, e, hlt, fun h2 => h2.elim hn (fun h3 => by have := hY b h3; omega), hc⟩
theorem RAt.plus {X Y : Nat → Prop} {w : World} {x : Rc} {g : Fl} (h : RAt X w x g) (hY : ∀ b, Y b → w.heap.size ≤ b) : RAt (fun b => X b ∨ Y b) w x g :=
  ⟨h.ok, h.a.plus hY, h.a1, h.a2, h.b.plus hY, h.b1, h.b2, h.p.plus hY, h.p1, h.p2⟩

theorem six_past {w3 w4 : World} (hb : Below (w3.alloc (.cells #[.slice none 0 0, .int .i64 0, .slice none 0 0, .bool false, .int .i64 0, .slice none 0 0] 60)).heap.size (w3.alloc (.cells #[.slice none 0 0, .int .i64 0, .slice none 0 0, .bool false, .int .i64 0, .slice none 0 0] 60)) w4) : six w4 w3.heap.size (.slice none 0 0) (.int .i64 0) (.slice none 0 0) (.bool false) (.int .i64 0) (.slice none 0 0) :=
  (six_new w3 _ _ _ _ _ _ _ _ rfl).below hb (by rw [World.size_alloc]; omega)
theorem six_opens {w : World} {B : Nat} (h : six w B (.slice none 0 0) (.int .i64 0) (.slice none 0 0) (.bool false) (.int .i64 0) (.slice none 0 0)) : w.cell? ⟨B, 0, none⟩ = some (.slice none 0 0) ∧ w.cell? ⟨B, 1, none⟩ = some (.int .i64 0) ∧ w.cell? ⟨B, 2, none⟩ = some (.slice none 0 0) ∧ w.cell? ⟨B, 3, none⟩ = some (.bool false) ∧ w.cell? ⟨B, 4, none⟩ = some (.int .i64 0) ∧ w.cell? ⟨B, 5, none⟩ = some (.slice none 0 0) ∧ w.frozen? ⟨B, 0, none⟩ = false ∧ w.frozen? ⟨B, 1, none⟩ = false ∧ w.frozen? ⟨B, 2, none⟩ = false ∧ w.frozen? ⟨B, 3, none⟩ = false ∧ w.frozen? ⟨B, 4, none⟩ = false ∧ w.frozen? ⟨B, 5, none⟩ = false :=
  ⟨h.1, h.2.1, h.2.2.1, h.2.2.2.1, h.2.2.2.2.1, h.2.2.2.2.2.1, h.2.2.2.2.2.2 0, h.2.2.2.2.2.2 1, h.2.2.2.2.2.2 2, h.2.2.2.2.2.2 3, h.2.2.2.2.2.2 4, h.2.2.2.2.2.2 5⟩
theorem six_kept {w w' : World} {B : Nat} (h : six w B (.slice none 0 0) (.int .i64 0) (.slice none 0 0) (.bool false) (.int .i64 0) (.slice none 0 0)) (hb : Below w.heap.size w w') : w'.cell? ⟨B, 0, none⟩ = some (.slice none 0 0) ∧ w'.cell? ⟨B, 1, none⟩ = some (.int .i64 0) ∧ w'.cell? ⟨B, 2, none⟩ = some (.slice none 0 0) ∧ w'.cell? ⟨B, 3, none⟩ = some (.bool false) ∧ w'.cell? ⟨B, 4, none⟩ = some (.int .i64 0) ∧ w'.cell? ⟨B, 5, none⟩ = some (.slice none 0 0) ∧ w'.frozen? ⟨B, 0, none⟩ = false ∧ w'.frozen? ⟨B, 1, none⟩ = false ∧ w'.frozen? ⟨B, 2, none⟩ = false ∧ w'.frozen? ⟨B, 3, none⟩ = false ∧ w'.frozen? ⟨B, 4, none⟩ = false ∧ w'.frozen? ⟨B, 5, none⟩ = false := six_opens (h.below hb h.lt)
theorem six_past2 {w3 w4 : World} (hb : Below (w3.alloc (.cells #[.slice none 0 0, .int .i64 0, .slice none 0 0, .bool false, .int .i64 0, .slice none 0 0] 60)).heap.size (w3.alloc (.cells #[.slice none 0 0, .int .i64 0, .slice none 0 0, .bool false, .int .i64 0, .slice none 0 0] 60)) w4) : w4.cell? ⟨w3.heap.size, 0, none⟩ = some (.slice none 0 0) ∧ w4.cell? ⟨w3.heap.size, 1, none⟩ = some (.int .i64 0) ∧ w4.cell? ⟨w3.heap.size, 2, none⟩ = some (.slice none 0 0) ∧ w4.cell? ⟨w3.heap.size, 3, none⟩ = some (.bool false) ∧ w4.cell? ⟨w3.heap.size, 4, none⟩ = some (.int .i64 0) ∧ w4.cell? ⟨w3.heap.size, 5, none⟩ = some (.slice none 0 0) ∧ w4.frozen? ⟨w3.heap.size, 0, none⟩ = false ∧ w4.frozen? ⟨w3.heap.size, 1, none⟩ = false ∧ w4.frozen? ⟨w3.heap.size, 2, none⟩ = false ∧ w4.frozen? ⟨w3.heap.size, 3, none⟩ = false ∧ w4.frozen? ⟨w3.heap.size, 4, none⟩ = false ∧ w4.frozen? ⟨w3.heap.size, 5, none⟩ = false := six_opens (six_past hb)
theorem below_cells {w w' : World} {N : Nat} (hb : Below N w w') : ∀ b o, b < N → w'.cell? ⟨b, o, none⟩ = w.cell? ⟨b, o, none⟩ := fun b o h => hb.cell (p := ⟨b, o, none⟩) h
theorem below_froz {w w' : World} {N : Nat} (hb : Below N w w') : ∀ b o, b < N → w'.frozen? ⟨b, o, none⟩ = w.frozen? ⟨b, o, none⟩ := fun b o h => hb.frozen (p := ⟨b, o, none⟩) h
theorem page_rd (k a n : Int) (B : Option Addr) (m e : Nat) (b : List Int) (P : Option Addr) (q r : Nat) (B0 : Nat) (w : World) (hB : Rd w B0 B (kcells .u8 b)) (hB0 : B0 ≤ w.heap.size) (hm : b.length = m) (hme : m ≤ e) (hemx : e ≤ maxLen) (hb : Bytes b) :
    Calls Try.prog 25 #[.agg #[.int .u8 k, .int .i64 a, .int .i64 n, .slice B m e, .slice P q r]] w fun e w' => ∃ A m' c', e = .returned (.slice A m' c') ∧ (page0 n b).length = m' ∧ m' ≤ c' ∧ c' ≤ maxLen ∧ Below w.heap.size w w' ∧ Rd w' w'.heap.size A (kcells .u8 (page0 n b)) := by
  refine (page_any k a n B m e b P q r B0 w hB hB0 hm hme hemx hb).mono ?_
  rintro e w' ⟨A, m', c', rfl, h1, h2, h3, h4, h5⟩
  refine ⟨A, m', c', rfl, h1, h2, h3, h4, ?_⟩
  rcases h5 with ⟨rfl, rfl⟩ | ho
  · have hr : Rd w B0 A (kcells .u8 (page0 7 b)) := by
      refine Rd.prefix hB ?_
      unfold page0
      rw [if_pos rfl]
      refine ⟨kcells .u8 (b.drop 100), ?_⟩
      rw [← kcells_append, List.take_append_drop]
    exact (hr.below h4 hB0).more (Nat.le_trans hB0 h4.size)
  · exact own_rd ho

theorem startR_at {X : Nat → Prop} {w : World} {x : Rc} {g : Fl} (h : RAt X w x g) : RAt X w x (startR g) := by
  unfold startR
  split
  · exact h.put false (-1) (by omega) (by omega)
  · exact h

/-- What next leaves. -/
def NextR (X : Nat → Prop) (w w' : World) (e : Ending) (r : Fl × Int × List Int) : Prop :=
  ∃ (y : Rc) (A' : Option Addr) (n' c' : Nat), e = .returned (.tuple #[y.v r.1, .int .i64 r.2.1, .slice A' n' c']) ∧ r.2.2.length = n' ∧ n' ≤ c' ∧ c' ≤ maxLen ∧ RdX X w' A' (kcells .u8 r.2.2) ∧ RAt X w' y r.1 ∧ Below w.heap.size w w'

set_option maxRecDepth 100000 in
set_option maxHeartbeats 8000000 in
theorem nextR_any {X : Nat → Prop} {w : World} {z : Rc} {g : Fl} (h : RAt X w z g) (hX : ∀ b, X b → b < w.heap.size) (x : Ac) (hx : x.ok w w.heap.size) :
    Calls Try.prog 40 #[z.v g, .agg #[.int .u8 x.k, .int .i64 x.a, .int .i64 x.n, .slice x.B x.m x.e, .slice x.P x.q x.r]] w fun e w' => NextR X w w' e (x.nexts g) := by
  have H := Lib.hid h
  have HX := Lib.hid hX
  have HXO := Lib.hid hx
  have hn1 : -9223372036854775808 ≤ x.n := (bounds_i64 hx.wn).1
  have hn2 : x.n < 9223372036854775808 := by have := (bounds_i64 hx.wn).2; omega
  obtain ⟨j, hj⟩ : ∃ j : Int, x.k % 6 = j := ⟨_, rfl⟩
  have hk0 := hx.k0
  have hjt : x.k.tmod 6 = j := by rw [Int.tmod_eq_emod_of_nonneg hk0]; exact hj
  have hj0 : 0 ≤ j ∧ j < 6 := by omega
  obtain ⟨A, c, B, d, P, r⟩ := z
  show Calls Try.prog 40 #[.agg #[.slice A g.img.length c, .int .i64 g.pg, .slice B g.wear.length d, .bool g.down, .int .i64 g.fuse, .slice P g.picks.length r], _] w _
  obtain ⟨V, hV⟩ : ∃ V, ((w.alloc (.cells #[.slice A g.img.length c, .int .i64 g.pg, .slice B g.wear.length d, .bool g.down, .int .i64 g.fuse, .slice P g.picks.length r] 60)).alloc (.cells #[.int .u8 x.k, .int .i64 x.a, .int .i64 x.n, .slice x.B x.m x.e, .slice x.P x.q x.r] 36)).alloc (.cells #[.slice none 0 0, .int .i64 0, .slice none 0 0, .bool false, .int .i64 0, .slice none 0 0] 60) = V := ⟨_, rfl⟩
  have hs1 : (w.alloc (.cells #[.slice A g.img.length c, .int .i64 g.pg, .slice B g.wear.length d, .bool g.down, .int .i64 g.fuse, .slice P g.picks.length r] 60)).heap.size = w.heap.size + 1 := World.size_alloc _ _
  have hs2 : ((w.alloc (.cells #[.slice A g.img.length c, .int .i64 g.pg, .slice B g.wear.length d, .bool g.down, .int .i64 g.fuse, .slice P g.picks.length r] 60)).alloc (.cells #[.int .u8 x.k, .int .i64 x.a, .int .i64 x.n, .slice x.B x.m x.e, .slice x.P x.q x.r] 36)).heap.size = w.heap.size + 1 + 1 := by rw [World.size_alloc, hs1]
  have HBV : Hid (Below w.heap.size w V) := by rw [← hV]; exact (below_two _ _ _).alloc (by rw [hs2]; omega) _
  have H6A : Hid (six V w.heap.size (.slice A g.img.length c) (.int .i64 g.pg) (.slice B g.wear.length d) (.bool g.down) (.int .i64 g.fuse) (.slice P g.picks.length r)) := by
    rw [← hV]
    exact ((six_new w _ _ _ _ _ _ _ _ rfl).below ((Below.refl (w.heap.size + 1) _).alloc (by rw [hs1]; exact Nat.le_refl _) _) (by omega)).below ((Below.refl (w.heap.size + 1) _).alloc (by rw [hs2]; omega) _) (by omega)
  have H5 : Hid (five V (w.heap.size + 1) x) := by
    rw [← hV]
    have h5 : five ((w.alloc (.cells #[.slice A g.img.length c, .int .i64 g.pg, .slice B g.wear.length d, .bool g.down, .int .i64 g.fuse, .slice P g.picks.length r] 60)).alloc (.cells #[.int .u8 x.k, .int .i64 x.a, .int .i64 x.n, .slice x.B x.m x.e, .slice x.P x.q x.r] 36)) (w.heap.size + 1) x := ⟨cell_new_at _ _ _ _ _ _ hs1.symm rfl, cell_new_at _ _ _ _ _ _ hs1.symm rfl, cell_new_at _ _ _ _ _ _ hs1.symm rfl, cell_new_at _ _ _ _ _ _ hs1.symm rfl, cell_new_at _ _ _ _ _ _ hs1.symm rfl⟩
    exact h5.below (below_one _ _) (by rw [hs2]; omega)
  have H6B : Hid (six V (w.heap.size + 1 + 1) (.slice none 0 0) (.int .i64 0) (.slice none 0 0) (.bool false) (.int .i64 0) (.slice none 0 0)) := by rw [← hV]; exact six_new _ _ _ _ _ _ _ _ _ hs2.symm
  have HSV : Hid (V.heap.size = w.heap.size + 1 + 1 + 1) := by rw [Hid, ← hV, World.size_alloc, hs2]
  have hgV : w.heap.size + 2 < V.heap.size := by rw [HSV.out]; omega
  have HZV : Hid (RAt (X3 X w.heap.size) V ⟨A, c, B, d, P, r⟩ g) := H.out.three.below HBV.out
  have HX3 : Hid (∀ b, X3 X w.heap.size b → b < V.heap.size) := x3_lt hX hgV
  have HXV : Hid (x.ok V V.heap.size) := ac_more (hx.below HBV.out (Nat.le_refl _)) HBV.out.size
  unfold Ac.nexts
  rw [hj]
  obtain ⟨xk, xa, xn, xB, xm, xe, xb, xP, xq, xr, xp⟩ := x
  clear h hX hx hs1 hs2
  simp only at hn1 hn2 hj hjt hk0
  simp only
  clear hj
  by_cases c1 : j = 0 ∨ j = 1
  · rw [if_pos c1]
    by_cases cz : j = 0
    · have z0 : (j == 0) = true := by simpa using cz
      clear c1 cz
      have HPB : Hid (Bytes (page0 xn xb)) := pageO_bytes HXO.out.bb
      have HBD : Hid (Below V.heap.size V V.drew) := Below.drew (Below.refl _ _)
      have HBA : Hid (Below V.heap.size V (V.alloc (.cells #[.slice none 0 0, .int .i64 0, .slice none 0 0, .bool false, .int .i64 0, .slice none 0 0] 60)).drew) := Below.drew (below_one _ _)
      have H6N : Hid (six (V.alloc (.cells #[.slice none 0 0, .int .i64 0, .slice none 0 0, .bool false, .int .i64 0, .slice none 0 0] 60)).drew V.heap.size (.slice none 0 0) (.int .i64 0) (.slice none 0 0) (.bool false) (.int .i64 0) (.slice none 0 0)) := (six_new V _ _ _ _ _ _ 60 V.heap.size rfl).below (Below.drew (Below.refl (V.heap.size + 1) _)) (by omega)
      have hkk : ∀ w' : World, Below V.heap.size V w' → w'.cell? ⟨w.heap.size, 0, none⟩ = some (.slice A g.img.length c) ∧ w'.cell? ⟨w.heap.size, 1, none⟩ = some (.int .i64 g.pg) ∧ w'.cell? ⟨w.heap.size, 2, none⟩ = some (.slice B g.wear.length d) ∧ w'.cell? ⟨w.heap.size, 3, none⟩ = some (.bool g.down) ∧ w'.cell? ⟨w.heap.size, 4, none⟩ = some (.int .i64 g.fuse) ∧ w'.cell? ⟨w.heap.size, 5, none⟩ = some (.slice P g.picks.length r) ∧ w'.cell? ⟨w.heap.size + 1, 0, none⟩ = some (.int .u8 xk) ∧ w'.cell? ⟨w.heap.size + 1, 1, none⟩ = some (.int .i64 xa) ∧ w'.cell? ⟨w.heap.size + 1, 2, none⟩ = some (.int .i64 xn) ∧ w'.cell? ⟨w.heap.size + 1, 3, none⟩ = some (.slice xB xm xe) ∧ w'.cell? ⟨w.heap.size + 1, 4, none⟩ = some (.slice xP xq xr) := fun w' hb => by
        obtain ⟨a0, a1, a2, a3, a4, a5, _⟩ := H6A.out.below hb (by rw [HSV.out]; omega)
        obtain ⟨k0, k1, k2, k3, k4⟩ := H5.out.below hb (by rw [HSV.out]; omega)
        exact ⟨a0, a1, a2, a3, a4, a5, k0, k1, k2, k3, k4⟩
      have HKK := Lib.hid hkk
      have q0 := H5.out.1
      simp only at q0
      obtain ⟨RR, hRR⟩ : ∃ R, progF g xa (page0 xn xb) = R := ⟨_, rfl⟩
      obtain ⟨r1, r2⟩ := RR
      rw [hRR]
      simp only
      have hprog : ∀ (Y : Nat → Prop) w3 A3 m3 c3, Below V.heap.size V w3 → (∀ b, Y b → V.heap.size ≤ b ∧ b < w3.heap.size) → Rd w3 w3.heap.size A3 (kcells .u8 (page0 xn xb)) → (page0 xn xb).length = m3 → m3 ≤ c3 → c3 ≤ maxLen → Calls Try.prog 81 #[.agg #[.slice A g.img.length c, .int .i64 g.pg, .slice B g.wear.length d, .bool g.down, .int .i64 g.fuse, .slice P g.picks.length r], .int .i64 xa, .slice A3 m3 c3] w3 fun e w4 => ∃ yA yc yB yd yP yr, e = .returned (.tuple #[.agg #[.slice yA r1.img.length yc, .int .i64 r1.pg, .slice yB r1.wear.length yd, .bool r1.down, .int .i64 r1.fuse, .slice yP r1.picks.length yr], .int .i64 r2]) ∧ RAt (fun b => X3 X w.heap.size b ∨ Y b) w4 ⟨yA, yc, yB, yd, yP, yr⟩ r1 ∧ Below V.heap.size V w4 ∧ Below w3.heap.size w3 w4 := by
        intro Y w3 A3 m3 c3 hb3 hY h1 h2 h3 h4
        refine (progR_any ((HZV.out.plus (Y := Y) (fun b hb => (hY b hb).1)).below hb3) (fun b hb => hb.elim (fun hb => Nat.lt_of_lt_of_le (HX3.out b hb) hb3.size) (fun hb => (hY b hb).2)) xa A3 m3 c3 (page0 xn xb) h1 h2 h3 h4 HPB.out).mono ?_
        rintro e w4 ⟨⟨yA, yc, yB, yd, yP, yr⟩, rfl, hr4, hb4⟩
        rw [hRR] at hr4 ⊢
        exact ⟨yA, yc, yB, yd, yP, yr, rfl, hr4, hb3.trans (hb4.mono hb3.size), hb4⟩
      have HA : Hid (∀ w3 A3 m3 c3, Below (V.alloc (.cells #[.slice none 0 0, .int .i64 0, .slice none 0 0, .bool false, .int .i64 0, .slice none 0 0] 60)).drew.heap.size (V.alloc (.cells #[.slice none 0 0, .int .i64 0, .slice none 0 0, .bool false, .int .i64 0, .slice none 0 0] 60)).drew w3 → Rd w3 w3.heap.size A3 (kcells .u8 (page0 xn xb)) → (page0 xn xb).length = m3 → m3 ≤ c3 → c3 ≤ maxLen → Calls Try.prog 81 #[.agg #[.slice A g.img.length c, .int .i64 g.pg, .slice B g.wear.length d, .bool g.down, .int .i64 g.fuse, .slice P g.picks.length r], .int .i64 xa, .slice A3 m3 c3] w3 fun e w4 => ∃ yA yc yB yd yP yr, e = .returned (.tuple #[.agg #[.slice yA r1.img.length yc, .int .i64 r1.pg, .slice yB r1.wear.length yd, .bool r1.down, .int .i64 r1.fuse, .slice yP r1.picks.length yr], .int .i64 r2]) ∧ RAt (fun b => X3 X w.heap.size b ∨ b = V.heap.size) w4 ⟨yA, yc, yB, yd, yP, yr⟩ r1 ∧ Below V.heap.size V w4 ∧ six w4 V.heap.size (.slice none 0 0) (.int .i64 0) (.slice none 0 0) (.bool false) (.int .i64 0) (.slice none 0 0) ∧ w4.cell? ⟨V.heap.size, 0, none⟩ = some (.slice none 0 0) ∧ w4.cell? ⟨V.heap.size, 1, none⟩ = some (.int .i64 0) ∧ w4.cell? ⟨V.heap.size, 2, none⟩ = some (.slice none 0 0) ∧ w4.cell? ⟨V.heap.size, 3, none⟩ = some (.bool false) ∧ w4.cell? ⟨V.heap.size, 4, none⟩ = some (.int .i64 0) ∧ w4.cell? ⟨V.heap.size, 5, none⟩ = some (.slice none 0 0) ∧ w4.frozen? ⟨V.heap.size, 0, none⟩ = false ∧ w4.frozen? ⟨V.heap.size, 1, none⟩ = false ∧ w4.frozen? ⟨V.heap.size, 2, none⟩ = false ∧ w4.frozen? ⟨V.heap.size, 3, none⟩ = false ∧ w4.frozen? ⟨V.heap.size, 4, none⟩ = false ∧ w4.frozen? ⟨V.heap.size, 5, none⟩ = false) := by
        intro w3 A3 m3 c3 hb3 h1 h2 h3 h4
        have hb3' : Below V.heap.size V w3 := HBA.out.trans (hb3.mono HBA.out.size)
        refine (hprog (fun b => b = V.heap.size) w3 A3 m3 c3 hb3' (fun b hb => by subst hb; exact ⟨Nat.le_refl _, (H6N.out.below hb3 H6N.out.lt).lt⟩) h1 h2 h3 h4).mono ?_
        rintro e w4 ⟨yA, yc, yB, yd, yP, yr, rfl, hr, hB, hb⟩
        exact ⟨yA, yc, yB, yd, yP, yr, rfl, hr, hB, (H6N.out.below hb3 H6N.out.lt).below hb (H6N.out.below hb3 H6N.out.lt).lt, six_kept (H6N.out.below hb3 H6N.out.lt) hb⟩
      have HC : Hid (∀ w3 A3 m3 c3, Below V.drew.heap.size V.drew w3 → Rd w3 w3.heap.size A3 (kcells .u8 (page0 xn xb)) → (page0 xn xb).length = m3 → m3 ≤ c3 → c3 ≤ maxLen → Calls Try.prog 81 #[.agg #[.slice A g.img.length c, .int .i64 g.pg, .slice B g.wear.length d, .bool g.down, .int .i64 g.fuse, .slice P g.picks.length r], .int .i64 xa, .slice A3 m3 c3] w3 fun e w4 => ∃ yA yc yB yd yP yr, e = .returned (.tuple #[.agg #[.slice yA r1.img.length yc, .int .i64 r1.pg, .slice yB r1.wear.length yd, .bool r1.down, .int .i64 r1.fuse, .slice yP r1.picks.length yr], .int .i64 r2]) ∧ RAt (X3 X w.heap.size) w4 ⟨yA, yc, yB, yd, yP, yr⟩ r1 ∧ Below V.heap.size V w4) := by
        intro w3 A3 m3 c3 hb3 h1 h2 h3 h4
        refine (hprog (fun _ => False) w3 A3 m3 c3 (HBD.out.trans (hb3.mono HBD.out.size)) (fun b hb => hb.elim) h1 h2 h3 h4).mono ?_
        rintro e w4 ⟨yA, yc, yB, yd, yP, yr, rfl, hr, hB, hb⟩
        exact ⟨yA, yc, yB, yd, yP, yr, rfl, RAt.weak hr (fun _ => .inl), hB⟩
      have HBB : Hid (∀ w3 A3 m3 c3, Below V.drew.heap.size V.drew w3 → Rd w3 w3.heap.size A3 (kcells .u8 (page0 xn xb)) → (page0 xn xb).length = m3 → m3 ≤ c3 → c3 ≤ maxLen → Calls Try.prog 81 #[.agg #[.slice A g.img.length c, .int .i64 g.pg, .slice B g.wear.length d, .bool g.down, .int .i64 g.fuse, .slice P g.picks.length r], .int .i64 xa, .slice A3 m3 c3] (w3.alloc (.cells #[.slice none 0 0, .int .i64 0, .slice none 0 0, .bool false, .int .i64 0, .slice none 0 0] 60)) fun e w4 => ∃ yA yc yB yd yP yr, e = .returned (.tuple #[.agg #[.slice yA r1.img.length yc, .int .i64 r1.pg, .slice yB r1.wear.length yd, .bool r1.down, .int .i64 r1.fuse, .slice yP r1.picks.length yr], .int .i64 r2]) ∧ RAt (fun b => X3 X w.heap.size b ∨ b = w3.heap.size) w4 ⟨yA, yc, yB, yd, yP, yr⟩ r1 ∧ Below V.heap.size V w4 ∧ six w4 w3.heap.size (.slice none 0 0) (.int .i64 0) (.slice none 0 0) (.bool false) (.int .i64 0) (.slice none 0 0) ∧ w4.cell? ⟨w3.heap.size, 0, none⟩ = some (.slice none 0 0) ∧ w4.cell? ⟨w3.heap.size, 1, none⟩ = some (.int .i64 0) ∧ w4.cell? ⟨w3.heap.size, 2, none⟩ = some (.slice none 0 0) ∧ w4.cell? ⟨w3.heap.size, 3, none⟩ = some (.bool false) ∧ w4.cell? ⟨w3.heap.size, 4, none⟩ = some (.int .i64 0) ∧ w4.cell? ⟨w3.heap.size, 5, none⟩ = some (.slice none 0 0) ∧ w4.frozen? ⟨w3.heap.size, 0, none⟩ = false ∧ w4.frozen? ⟨w3.heap.size, 1, none⟩ = false ∧ w4.frozen? ⟨w3.heap.size, 2, none⟩ = false ∧ w4.frozen? ⟨w3.heap.size, 3, none⟩ = false ∧ w4.frozen? ⟨w3.heap.size, 4, none⟩ = false ∧ w4.frozen? ⟨w3.heap.size, 5, none⟩ = false) := by
        intro w3 A3 m3 c3 hb3 h1 h2 h3 h4
        have hb3' : Below V.heap.size V w3 := HBD.out.trans (hb3.mono HBD.out.size)
        refine (hprog (fun b => b = w3.heap.size) (w3.alloc (.cells #[.slice none 0 0, .int .i64 0, .slice none 0 0, .bool false, .int .i64 0, .slice none 0 0] 60)) A3 m3 c3 (hb3'.alloc hb3'.size _) (fun b hb => by subst hb; exact ⟨hb3'.size, by rw [World.size_alloc]; omega⟩) ((h1.below (below_one _ _) (Nat.le_refl _)).more (by rw [World.size_alloc]; omega)) h2 h3 h4).mono ?_
        rintro e w4 ⟨yA, yc, yB, yd, yP, yr, rfl, hr, hB, hb⟩
        exact ⟨yA, yc, yB, yd, yP, yr, rfl, hr, hB, (six_new w3 _ _ _ _ _ _ 60 w3.heap.size rfl).below hb (six_new w3 _ _ _ _ _ _ 60 w3.heap.size rfl).lt, six_kept (six_new w3 _ _ _ _ _ _ 60 w3.heap.size rfl) hb⟩
      have HP1 := Lib.hid (page_rd xk xa xn xB xm xe xb xP xq xr V.heap.size V.drew (HXV.out.rb.below HBD.out (Nat.le_refl _)) HBD.out.size HXV.out.lb HXV.out.mb HXV.out.cb HXV.out.bb)
      have HP2 := Lib.hid (page_rd xk xa xn xB xm xe xb xP xq xr V.heap.size (V.alloc (.cells #[.slice none 0 0, .int .i64 0, .slice none 0 0, .bool false, .int .i64 0, .slice none 0 0] 60)).drew (HXV.out.rb.below HBA.out (Nat.le_refl _)) HBA.out.size HXV.out.lb HXV.out.mb HXV.out.cb HXV.out.bb)
      have hlt2 : w.heap.size + 1 + 1 < V.heap.size := by omega
      have HB3D : Hid (∀ w3 : World, Below V.drew.heap.size V.drew w3 → Below V.heap.size V w3) := fun w3 h => HBD.out.trans (h.mono HBD.out.size)
      have HB3A : Hid (∀ w3 : World, Below (V.alloc (.cells #[.slice none 0 0, .int .i64 0, .slice none 0 0, .bool false, .int .i64 0, .slice none 0 0] 60)).drew.heap.size (V.alloc (.cells #[.slice none 0 0, .int .i64 0, .slice none 0 0, .bool false, .int .i64 0, .slice none 0 0] 60)).drew w3 → Below V.heap.size V w3) := fun w3 h => HBA.out.trans (h.mono HBA.out.size)
      clear hkk hRR hprog
      go_enter Try.func40, Try.ntmps40
      go_upto_region 4 with (fail)
      try rw [hV]
      clear hV
      go_cut [7, 8] (fun s t wx => ∃ (B7 : Nat) (y : Rc), s = .pointer (some ⟨B7, 0, none⟩) ∧ t = .int .i64 r2 ∧ V.heap.size ≤ B7 ∧ six wx B7 (.slice y.A r1.img.length y.c) (.int .i64 r1.pg) (.slice y.B r1.wear.length y.d) (.bool r1.down) (.int .i64 r1.fuse) (.slice y.P r1.picks.length y.r) ∧ RAt (X3 X w.heap.size) wx y r1 ∧ Below V.heap.size V wx)
      case first =>
        go_region_held3 (fun w' => w'.cell? ⟨w.heap.size, 0, none⟩ = some (.slice A g.img.length c) ∧ w'.cell? ⟨w.heap.size, 1, none⟩ = some (.int .i64 g.pg) ∧ w'.cell? ⟨w.heap.size, 2, none⟩ = some (.slice B g.wear.length d) ∧ w'.cell? ⟨w.heap.size, 3, none⟩ = some (.bool g.down) ∧ w'.cell? ⟨w.heap.size, 4, none⟩ = some (.int .i64 g.fuse) ∧ w'.cell? ⟨w.heap.size, 5, none⟩ = some (.slice P g.picks.length r) ∧ w'.cell? ⟨w.heap.size + 1, 0, none⟩ = some (.int .u8 xk) ∧ w'.cell? ⟨w.heap.size + 1, 1, none⟩ = some (.int .i64 xa) ∧ w'.cell? ⟨w.heap.size + 1, 2, none⟩ = some (.int .i64 xn) ∧ w'.cell? ⟨w.heap.size + 1, 3, none⟩ = some (.slice xB xm xe) ∧ w'.cell? ⟨w.heap.size + 1, 4, none⟩ = some (.slice xP xq xr)) (first | with_reducible exact HKK.out _ HBD.out | with_reducible exact hS3 | with_reducible exact hS4 | with_reducible exact HKK.out _ HBA.out | with_reducible exact HKK.out _ (hB3.alloc hle3 _) | with_reducible exact HKK.out _ (hB4.alloc hle4 _) | (refine HKK.out _ ?_; (repeat (with_reducible refine Below.setCell ?_ (by simp only; omega) _)); with_reducible exact hB4)) (first
          | (go_at_call 25; with_reducible refine HP1.out.mono ?_; rintro e w3 ⟨A3, m3, c3, rfl, hm3, hmc3, hcm3, hb3, hr3⟩; have hB3 := HB3D.out w3 hb3; have hS3 := HKK.out w3 hB3; have hle3 := hB3.size)
          | (go_at_call 25; with_reducible refine HP2.out.mono ?_; rintro e w3 ⟨A3, m3, c3, rfl, hm3, hmc3, hcm3, hb3, hr3⟩; have hB3 := HB3A.out w3 hb3; have hS3 := HKK.out w3 hB3; have hle3 := hB3.size)
          | (go_at_call 81; with_reducible refine (HBB.out w3 A3 m3 c3 hb3 hr3 hm3 hmc3 hcm3).mono ?_; rintro e w4 ⟨yA, yc, yB, yd, yP, yr, rfl, hr4, hB4, h64, j0, j1, j2, j3, j4, j5, n0, n1, n2, n3, n4, n5⟩; have hS4 := HKK.out w4 hB4; have hle4 := hB4.size)
          | (go_at_call 81; with_reducible refine (HC.out w3 A3 m3 c3 hb3 hr3 hm3 hmc3 hcm3).mono ?_; rintro e w4 ⟨yA, yc, yB, yd, yP, yr, rfl, hr4, hB4⟩; have hS4 := HKK.out w4 hB4; have hle4 := hB4.size)
          | (go_at_call 81; with_reducible refine (HA.out w3 A3 m3 c3 hb3 hr3 hm3 hmc3 hcm3).mono ?_; rintro e w4 ⟨yA, yc, yB, yd, yP, yr, rfl, hr4, hB4, h64, j0, j1, j2, j3, j4, j5, n0, n1, n2, n3, n4, n5⟩; have hS4 := HKK.out w4 hB4; have hle4 := hB4.size))
        · (try go_wp2_with fail)
          go_meet
          exact ⟨w4.heap.size, ⟨yA, yc, yB, yd, yP, yr⟩, rfl, rfl, hle4, six_new w4 _ _ _ _ _ _ 60 w4.heap.size rfl, hr4.below (below_one _ _), hB4.alloc hle4 _⟩
        · (try go_wp2_with fail)
          go_meet
          exact ⟨w3.heap.size, ⟨yA, yc, yB, yd, yP, yr⟩, rfl, rfl, hle3, h64.put _ _ _ _ _ _, (RAt.put6 hr4 (.inr rfl) _ _ _ _ _ _).weak (fun _ => .inl), below_put6 hB4 hle3 _ _ _ _ _ _⟩
        · (try go_wp2_with fail)
          go_meet
          exact ⟨V.heap.size, ⟨yA, yc, yB, yd, yP, yr⟩, rfl, rfl, Nat.le_refl _, h64.put _ _ _ _ _ _, (RAt.put6 hr4 (.inr rfl) _ _ _ _ _ _).weak (fun _ => .inl), below_put6 hB4 (Nat.le_refl _) _ _ _ _ _ _⟩
      case rest =>
        obtain ⟨B7, ⟨yA, yc, yB, yd, yP, yr⟩, rfl, rfl, hB7, h67, hr7, hbc⟩ := hcut
        have HR2 := Lib.hid hr7
        have HB2 : Hid (Below w.heap.size w wc) := HBV.out.trans (hbc.mono HBV.out.size)
        have H6C := Lib.hid (H6B.out.below hbc (by rw [HSV.out]; omega))
        simp only at h67
        obtain ⟨a0, a1, a2, a3, a4, a5, _⟩ := h67
        obtain ⟨b0, b1, b2, b3, b4, b5, b6⟩ := H6C.out
        have e0 := b6 0
        have e1 := b6 1
        have e2 := b6 2
        have e3 := b6 3
        have e4 := b6 4
        have e5 := b6 5
        clear hr7 hbc b6 HA HC HBB HP1 HP2 HKK
        go_wp2
        (try simp only [Exit.inBlock, Exit.then])
        refine bodyPost_ret (v := .tuple #[(Rc.mk yA yc yB yd yP yr).v r1, .int .i64 r2, .slice none 0 0]) ?_ rfl ⟨⟨yA, yc, yB, yd, yP, yr⟩, none, 0, 0, rfl, rfl, Nat.le_refl _, Nat.zero_le _, RdX.nil, RAt.weak (X := X3 X w.heap.size) ?_ (fun _ => .inl), ?_⟩
        · rw [results_cell_two rfl]
          simp only [Rc.v]
          go_simp
        · (repeat (refine RAt.setCell ?_ _ _ (.inr ⟨by simp only; omega, by simp only; omega⟩)))
          exact HR2.out
        · (repeat (refine Below.setCell ?_ (by simp only; omega) _))
          exact HB2.out
    · have cz1 : j = 1 := by omega
      have z0 : (j == 0) = false := by simpa using cz
      have z1 : (j == 1) = true := by simpa using cz1
      clear c1 cz cz1
      have HPB : Hid (Bytes (page0 xn xb)) := pageO_bytes HXO.out.bb
      have HBD : Hid (Below V.heap.size V V.drew) := Below.drew (Below.refl _ _)
      have HBA : Hid (Below V.heap.size V (V.alloc (.cells #[.slice none 0 0, .int .i64 0, .slice none 0 0, .bool false, .int .i64 0, .slice none 0 0] 60)).drew) := Below.drew (below_one _ _)
      have H6N : Hid (six (V.alloc (.cells #[.slice none 0 0, .int .i64 0, .slice none 0 0, .bool false, .int .i64 0, .slice none 0 0] 60)).drew V.heap.size (.slice none 0 0) (.int .i64 0) (.slice none 0 0) (.bool false) (.int .i64 0) (.slice none 0 0)) := (six_new V _ _ _ _ _ _ 60 V.heap.size rfl).below (Below.drew (Below.refl (V.heap.size + 1) _)) (by omega)
      have hkk : ∀ w' : World, Below V.heap.size V w' → w'.cell? ⟨w.heap.size, 0, none⟩ = some (.slice A g.img.length c) ∧ w'.cell? ⟨w.heap.size, 1, none⟩ = some (.int .i64 g.pg) ∧ w'.cell? ⟨w.heap.size, 2, none⟩ = some (.slice B g.wear.length d) ∧ w'.cell? ⟨w.heap.size, 3, none⟩ = some (.bool g.down) ∧ w'.cell? ⟨w.heap.size, 4, none⟩ = some (.int .i64 g.fuse) ∧ w'.cell? ⟨w.heap.size, 5, none⟩ = some (.slice P g.picks.length r) ∧ w'.cell? ⟨w.heap.size + 1, 0, none⟩ = some (.int .u8 xk) ∧ w'.cell? ⟨w.heap.size + 1, 1, none⟩ = some (.int .i64 xa) ∧ w'.cell? ⟨w.heap.size + 1, 2, none⟩ = some (.int .i64 xn) ∧ w'.cell? ⟨w.heap.size + 1, 3, none⟩ = some (.slice xB xm xe) ∧ w'.cell? ⟨w.heap.size + 1, 4, none⟩ = some (.slice xP xq xr) := fun w' hb => by
        obtain ⟨a0, a1, a2, a3, a4, a5, _⟩ := H6A.out.below hb (by rw [HSV.out]; omega)
        obtain ⟨k0, k1, k2, k3, k4⟩ := H5.out.below hb (by rw [HSV.out]; omega)
        exact ⟨a0, a1, a2, a3, a4, a5, k0, k1, k2, k3, k4⟩
      have HKK := Lib.hid hkk
      have q0 := H5.out.1
      simp only at q0
      obtain ⟨RR, hRR⟩ : ∃ R, progF g xa (page0 xn xb) = R := ⟨_, rfl⟩
      obtain ⟨r1, r2⟩ := RR
      rw [hRR]
      simp only
      have hprog : ∀ (Y : Nat → Prop) w3 A3 m3 c3, Below V.heap.size V w3 → (∀ b, Y b → V.heap.size ≤ b ∧ b < w3.heap.size) → Rd w3 w3.heap.size A3 (kcells .u8 (page0 xn xb)) → (page0 xn xb).length = m3 → m3 ≤ c3 → c3 ≤ maxLen → Calls Try.prog 81 #[.agg #[.slice A g.img.length c, .int .i64 g.pg, .slice B g.wear.length d, .bool g.down, .int .i64 g.fuse, .slice P g.picks.length r], .int .i64 xa, .slice A3 m3 c3] w3 fun e w4 => ∃ yA yc yB yd yP yr, e = .returned (.tuple #[.agg #[.slice yA r1.img.length yc, .int .i64 r1.pg, .slice yB r1.wear.length yd, .bool r1.down, .int .i64 r1.fuse, .slice yP r1.picks.length yr], .int .i64 r2]) ∧ RAt (fun b => X3 X w.heap.size b ∨ Y b) w4 ⟨yA, yc, yB, yd, yP, yr⟩ r1 ∧ Below V.heap.size V w4 ∧ Below w3.heap.size w3 w4 := by
        intro Y w3 A3 m3 c3 hb3 hY h1 h2 h3 h4
        refine (progR_any ((HZV.out.plus (Y := Y) (fun b hb => (hY b hb).1)).below hb3) (fun b hb => hb.elim (fun hb => Nat.lt_of_lt_of_le (HX3.out b hb) hb3.size) (fun hb => (hY b hb).2)) xa A3 m3 c3 (page0 xn xb) h1 h2 h3 h4 HPB.out).mono ?_
        rintro e w4 ⟨⟨yA, yc, yB, yd, yP, yr⟩, rfl, hr4, hb4⟩
        rw [hRR] at hr4 ⊢
        exact ⟨yA, yc, yB, yd, yP, yr, rfl, hr4, hb3.trans (hb4.mono hb3.size), hb4⟩
      have HA : Hid (∀ w3 A3 m3 c3, Below (V.alloc (.cells #[.slice none 0 0, .int .i64 0, .slice none 0 0, .bool false, .int .i64 0, .slice none 0 0] 60)).drew.heap.size (V.alloc (.cells #[.slice none 0 0, .int .i64 0, .slice none 0 0, .bool false, .int .i64 0, .slice none 0 0] 60)).drew w3 → Rd w3 w3.heap.size A3 (kcells .u8 (page0 xn xb)) → (page0 xn xb).length = m3 → m3 ≤ c3 → c3 ≤ maxLen → Calls Try.prog 81 #[.agg #[.slice A g.img.length c, .int .i64 g.pg, .slice B g.wear.length d, .bool g.down, .int .i64 g.fuse, .slice P g.picks.length r], .int .i64 xa, .slice A3 m3 c3] w3 fun e w4 => ∃ yA yc yB yd yP yr, e = .returned (.tuple #[.agg #[.slice yA r1.img.length yc, .int .i64 r1.pg, .slice yB r1.wear.length yd, .bool r1.down, .int .i64 r1.fuse, .slice yP r1.picks.length yr], .int .i64 r2]) ∧ RAt (fun b => X3 X w.heap.size b ∨ b = V.heap.size) w4 ⟨yA, yc, yB, yd, yP, yr⟩ r1 ∧ Below V.heap.size V w4 ∧ six w4 V.heap.size (.slice none 0 0) (.int .i64 0) (.slice none 0 0) (.bool false) (.int .i64 0) (.slice none 0 0) ∧ w4.cell? ⟨V.heap.size, 0, none⟩ = some (.slice none 0 0) ∧ w4.cell? ⟨V.heap.size, 1, none⟩ = some (.int .i64 0) ∧ w4.cell? ⟨V.heap.size, 2, none⟩ = some (.slice none 0 0) ∧ w4.cell? ⟨V.heap.size, 3, none⟩ = some (.bool false) ∧ w4.cell? ⟨V.heap.size, 4, none⟩ = some (.int .i64 0) ∧ w4.cell? ⟨V.heap.size, 5, none⟩ = some (.slice none 0 0) ∧ w4.frozen? ⟨V.heap.size, 0, none⟩ = false ∧ w4.frozen? ⟨V.heap.size, 1, none⟩ = false ∧ w4.frozen? ⟨V.heap.size, 2, none⟩ = false ∧ w4.frozen? ⟨V.heap.size, 3, none⟩ = false ∧ w4.frozen? ⟨V.heap.size, 4, none⟩ = false ∧ w4.frozen? ⟨V.heap.size, 5, none⟩ = false) := by
        intro w3 A3 m3 c3 hb3 h1 h2 h3 h4
        have hb3' : Below V.heap.size V w3 := HBA.out.trans (hb3.mono HBA.out.size)
        refine (hprog (fun b => b = V.heap.size) w3 A3 m3 c3 hb3' (fun b hb => by subst hb; exact ⟨Nat.le_refl _, (H6N.out.below hb3 H6N.out.lt).lt⟩) h1 h2 h3 h4).mono ?_
        rintro e w4 ⟨yA, yc, yB, yd, yP, yr, rfl, hr, hB, hb⟩
        exact ⟨yA, yc, yB, yd, yP, yr, rfl, hr, hB, (H6N.out.below hb3 H6N.out.lt).below hb (H6N.out.below hb3 H6N.out.lt).lt, six_kept (H6N.out.below hb3 H6N.out.lt) hb⟩
      have HC : Hid (∀ w3 A3 m3 c3, Below V.drew.heap.size V.drew w3 → Rd w3 w3.heap.size A3 (kcells .u8 (page0 xn xb)) → (page0 xn xb).length = m3 → m3 ≤ c3 → c3 ≤ maxLen → Calls Try.prog 81 #[.agg #[.slice A g.img.length c, .int .i64 g.pg, .slice B g.wear.length d, .bool g.down, .int .i64 g.fuse, .slice P g.picks.length r], .int .i64 xa, .slice A3 m3 c3] w3 fun e w4 => ∃ yA yc yB yd yP yr, e = .returned (.tuple #[.agg #[.slice yA r1.img.length yc, .int .i64 r1.pg, .slice yB r1.wear.length yd, .bool r1.down, .int .i64 r1.fuse, .slice yP r1.picks.length yr], .int .i64 r2]) ∧ RAt (X3 X w.heap.size) w4 ⟨yA, yc, yB, yd, yP, yr⟩ r1 ∧ Below V.heap.size V w4) := by
        intro w3 A3 m3 c3 hb3 h1 h2 h3 h4
        refine (hprog (fun _ => False) w3 A3 m3 c3 (HBD.out.trans (hb3.mono HBD.out.size)) (fun b hb => hb.elim) h1 h2 h3 h4).mono ?_
        rintro e w4 ⟨yA, yc, yB, yd, yP, yr, rfl, hr, hB, hb⟩
        exact ⟨yA, yc, yB, yd, yP, yr, rfl, RAt.weak hr (fun _ => .inl), hB⟩
      have HBB : Hid (∀ w3 A3 m3 c3, Below V.drew.heap.size V.drew w3 → Rd w3 w3.heap.size A3 (kcells .u8 (page0 xn xb)) → (page0 xn xb).length = m3 → m3 ≤ c3 → c3 ≤ maxLen → Calls Try.prog 81 #[.agg #[.slice A g.img.length c, .int .i64 g.pg, .slice B g.wear.length d, .bool g.down, .int .i64 g.fuse, .slice P g.picks.length r], .int .i64 xa, .slice A3 m3 c3] (w3.alloc (.cells #[.slice none 0 0, .int .i64 0, .slice none 0 0, .bool false, .int .i64 0, .slice none 0 0] 60)) fun e w4 => ∃ yA yc yB yd yP yr, e = .returned (.tuple #[.agg #[.slice yA r1.img.length yc, .int .i64 r1.pg, .slice yB r1.wear.length yd, .bool r1.down, .int .i64 r1.fuse, .slice yP r1.picks.length yr], .int .i64 r2]) ∧ RAt (fun b => X3 X w.heap.size b ∨ b = w3.heap.size) w4 ⟨yA, yc, yB, yd, yP, yr⟩ r1 ∧ Below V.heap.size V w4 ∧ six w4 w3.heap.size (.slice none 0 0) (.int .i64 0) (.slice none 0 0) (.bool false) (.int .i64 0) (.slice none 0 0) ∧ w4.cell? ⟨w3.heap.size, 0, none⟩ = some (.slice none 0 0) ∧ w4.cell? ⟨w3.heap.size, 1, none⟩ = some (.int .i64 0) ∧ w4.cell? ⟨w3.heap.size, 2, none⟩ = some (.slice none 0 0) ∧ w4.cell? ⟨w3.heap.size, 3, none⟩ = some (.bool false) ∧ w4.cell? ⟨w3.heap.size, 4, none⟩ = some (.int .i64 0) ∧ w4.cell? ⟨w3.heap.size, 5, none⟩ = some (.slice none 0 0) ∧ w4.frozen? ⟨w3.heap.size, 0, none⟩ = false ∧ w4.frozen? ⟨w3.heap.size, 1, none⟩ = false ∧ w4.frozen? ⟨w3.heap.size, 2, none⟩ = false ∧ w4.frozen? ⟨w3.heap.size, 3, none⟩ = false ∧ w4.frozen? ⟨w3.heap.size, 4, none⟩ = false ∧ w4.frozen? ⟨w3.heap.size, 5, none⟩ = false) := by
        intro w3 A3 m3 c3 hb3 h1 h2 h3 h4
        have hb3' : Below V.heap.size V w3 := HBD.out.trans (hb3.mono HBD.out.size)
        refine (hprog (fun b => b = w3.heap.size) (w3.alloc (.cells #[.slice none 0 0, .int .i64 0, .slice none 0 0, .bool false, .int .i64 0, .slice none 0 0] 60)) A3 m3 c3 (hb3'.alloc hb3'.size _) (fun b hb => by subst hb; exact ⟨hb3'.size, by rw [World.size_alloc]; omega⟩) ((h1.below (below_one _ _) (Nat.le_refl _)).more (by rw [World.size_alloc]; omega)) h2 h3 h4).mono ?_
        rintro e w4 ⟨yA, yc, yB, yd, yP, yr, rfl, hr, hB, hb⟩
        exact ⟨yA, yc, yB, yd, yP, yr, rfl, hr, hB, (six_new w3 _ _ _ _ _ _ 60 w3.heap.size rfl).below hb (six_new w3 _ _ _ _ _ _ 60 w3.heap.size rfl).lt, six_kept (six_new w3 _ _ _ _ _ _ 60 w3.heap.size rfl) hb⟩
      have HP1 := Lib.hid (page_rd xk xa xn xB xm xe xb xP xq xr V.heap.size V.drew (HXV.out.rb.below HBD.out (Nat.le_refl _)) HBD.out.size HXV.out.lb HXV.out.mb HXV.out.cb HXV.out.bb)
      have HP2 := Lib.hid (page_rd xk xa xn xB xm xe xb xP xq xr V.heap.size (V.alloc (.cells #[.slice none 0 0, .int .i64 0, .slice none 0 0, .bool false, .int .i64 0, .slice none 0 0] 60)).drew (HXV.out.rb.below HBA.out (Nat.le_refl _)) HBA.out.size HXV.out.lb HXV.out.mb HXV.out.cb HXV.out.bb)
      have hlt2 : w.heap.size + 1 + 1 < V.heap.size := by omega
      have HB3D : Hid (∀ w3 : World, Below V.drew.heap.size V.drew w3 → Below V.heap.size V w3) := fun w3 h => HBD.out.trans (h.mono HBD.out.size)
      have HB3A : Hid (∀ w3 : World, Below (V.alloc (.cells #[.slice none 0 0, .int .i64 0, .slice none 0 0, .bool false, .int .i64 0, .slice none 0 0] 60)).drew.heap.size (V.alloc (.cells #[.slice none 0 0, .int .i64 0, .slice none 0 0, .bool false, .int .i64 0, .slice none 0 0] 60)).drew w3 → Below V.heap.size V w3) := fun w3 h => HBA.out.trans (h.mono HBA.out.size)
      clear hkk hRR hprog
      go_enter Try.func40, Try.ntmps40
      go_upto_region 4 with (fail)
      try rw [hV]
      clear hV
      go_cut [7, 8] (fun s t wx => ∃ (B7 : Nat) (y : Rc), s = .pointer (some ⟨B7, 0, none⟩) ∧ t = .int .i64 r2 ∧ V.heap.size ≤ B7 ∧ six wx B7 (.slice y.A r1.img.length y.c) (.int .i64 r1.pg) (.slice y.B r1.wear.length y.d) (.bool r1.down) (.int .i64 r1.fuse) (.slice y.P r1.picks.length y.r) ∧ RAt (X3 X w.heap.size) wx y r1 ∧ Below V.heap.size V wx)
      case first =>
        go_region_held3 (fun w' => w'.cell? ⟨w.heap.size, 0, none⟩ = some (.slice A g.img.length c) ∧ w'.cell? ⟨w.heap.size, 1, none⟩ = some (.int .i64 g.pg) ∧ w'.cell? ⟨w.heap.size, 2, none⟩ = some (.slice B g.wear.length d) ∧ w'.cell? ⟨w.heap.size, 3, none⟩ = some (.bool g.down) ∧ w'.cell? ⟨w.heap.size, 4, none⟩ = some (.int .i64 g.fuse) ∧ w'.cell? ⟨w.heap.size, 5, none⟩ = some (.slice P g.picks.length r) ∧ w'.cell? ⟨w.heap.size + 1, 0, none⟩ = some (.int .u8 xk) ∧ w'.cell? ⟨w.heap.size + 1, 1, none⟩ = some (.int .i64 xa) ∧ w'.cell? ⟨w.heap.size + 1, 2, none⟩ = some (.int .i64 xn) ∧ w'.cell? ⟨w.heap.size + 1, 3, none⟩ = some (.slice xB xm xe) ∧ w'.cell? ⟨w.heap.size + 1, 4, none⟩ = some (.slice xP xq xr)) (first | with_reducible exact HKK.out _ HBD.out | with_reducible exact hS3 | with_reducible exact hS4 | with_reducible exact HKK.out _ HBA.out | with_reducible exact HKK.out _ (hB3.alloc hle3 _) | with_reducible exact HKK.out _ (hB4.alloc hle4 _) | (refine HKK.out _ ?_; (repeat (with_reducible refine Below.setCell ?_ (by simp only; omega) _)); with_reducible exact hB4)) (first
          | (go_at_call 25; with_reducible refine HP1.out.mono ?_; rintro e w3 ⟨A3, m3, c3, rfl, hm3, hmc3, hcm3, hb3, hr3⟩; have hB3 := HB3D.out w3 hb3; have hS3 := HKK.out w3 hB3; have hle3 := hB3.size)
          | (go_at_call 25; with_reducible refine HP2.out.mono ?_; rintro e w3 ⟨A3, m3, c3, rfl, hm3, hmc3, hcm3, hb3, hr3⟩; have hB3 := HB3A.out w3 hb3; have hS3 := HKK.out w3 hB3; have hle3 := hB3.size)
          | (go_at_call 81; with_reducible refine (HBB.out w3 A3 m3 c3 hb3 hr3 hm3 hmc3 hcm3).mono ?_; rintro e w4 ⟨yA, yc, yB, yd, yP, yr, rfl, hr4, hB4, h64, j0, j1, j2, j3, j4, j5, n0, n1, n2, n3, n4, n5⟩; have hS4 := HKK.out w4 hB4; have hle4 := hB4.size)
          | (go_at_call 81; with_reducible refine (HC.out w3 A3 m3 c3 hb3 hr3 hm3 hmc3 hcm3).mono ?_; rintro e w4 ⟨yA, yc, yB, yd, yP, yr, rfl, hr4, hB4⟩; have hS4 := HKK.out w4 hB4; have hle4 := hB4.size)
          | (go_at_call 81; with_reducible refine (HA.out w3 A3 m3 c3 hb3 hr3 hm3 hmc3 hcm3).mono ?_; rintro e w4 ⟨yA, yc, yB, yd, yP, yr, rfl, hr4, hB4, h64, j0, j1, j2, j3, j4, j5, n0, n1, n2, n3, n4, n5⟩; have hS4 := HKK.out w4 hB4; have hle4 := hB4.size))
        · (try go_wp2_with fail)
          go_meet
          exact ⟨w4.heap.size, ⟨yA, yc, yB, yd, yP, yr⟩, rfl, rfl, hle4, six_new w4 _ _ _ _ _ _ 60 w4.heap.size rfl, hr4.below (below_one _ _), hB4.alloc hle4 _⟩
        · (try go_wp2_with fail)
          go_meet
          exact ⟨w3.heap.size, ⟨yA, yc, yB, yd, yP, yr⟩, rfl, rfl, hle3, h64.put _ _ _ _ _ _, (RAt.put6 hr4 (.inr rfl) _ _ _ _ _ _).weak (fun _ => .inl), below_put6 hB4 hle3 _ _ _ _ _ _⟩
        · (try go_wp2_with fail)
          go_meet
          exact ⟨V.heap.size, ⟨yA, yc, yB, yd, yP, yr⟩, rfl, rfl, Nat.le_refl _, h64.put _ _ _ _ _ _, (RAt.put6 hr4 (.inr rfl) _ _ _ _ _ _).weak (fun _ => .inl), below_put6 hB4 (Nat.le_refl _) _ _ _ _ _ _⟩
      case rest =>
        obtain ⟨B7, ⟨yA, yc, yB, yd, yP, yr⟩, rfl, rfl, hB7, h67, hr7, hbc⟩ := hcut
        have HR2 := Lib.hid hr7
        have HB2 : Hid (Below w.heap.size w wc) := HBV.out.trans (hbc.mono HBV.out.size)
        have H6C := Lib.hid (H6B.out.below hbc (by rw [HSV.out]; omega))
        simp only at h67
        obtain ⟨a0, a1, a2, a3, a4, a5, _⟩ := h67
        obtain ⟨b0, b1, b2, b3, b4, b5, b6⟩ := H6C.out
        have e0 := b6 0
        have e1 := b6 1
        have e2 := b6 2
        have e3 := b6 3
        have e4 := b6 4
        have e5 := b6 5
        clear hr7 hbc b6 HA HC HBB HP1 HP2 HKK
        go_wp2
        (try simp only [Exit.inBlock, Exit.then])
        refine bodyPost_ret (v := .tuple #[(Rc.mk yA yc yB yd yP yr).v r1, .int .i64 r2, .slice none 0 0]) ?_ rfl ⟨⟨yA, yc, yB, yd, yP, yr⟩, none, 0, 0, rfl, rfl, Nat.le_refl _, Nat.zero_le _, RdX.nil, RAt.weak (X := X3 X w.heap.size) ?_ (fun _ => .inl), ?_⟩
        · rw [results_cell_two rfl]
          simp only [Rc.v]
          go_simp
        · (repeat (refine RAt.setCell ?_ _ _ (.inr ⟨by simp only; omega, by simp only; omega⟩)))
          exact HR2.out
        · (repeat (refine Below.setCell ?_ (by simp only; omega) _))
          exact HB2.out
  rw [if_neg c1]
  have z0 : (j == 0) = false := by simp; omega
  have z1 : (j == 1) = false := by simp; omega
  by_cases c2 : j = 2
  · rw [if_pos c2]
    have z2 : (j == 2) = true := by simpa using c2
    clear c1 c2
    have HC := Lib.hid (eraseR_any HZV.out HX3.out xa)
    obtain ⟨RR, hRR⟩ : ∃ R, eraseF g xa = R := ⟨_, rfl⟩
    rw [hRR] at HC ⊢
    clear hRR
    obtain ⟨r1, r2⟩ := RR
    simp only at HC ⊢
    obtain ⟨a0, a1, a2, a3, a4, a5, _⟩ := H6A.out
    obtain ⟨k0, k1, k2, k3, k4⟩ := H5.out
    simp only at k0 k1 k2 k3 k4
    go_enter Try.func40, Try.ntmps40
    go_wp2_with (fail)
    try rw [hV]
    clear hV
    clear a0 a1 a2 a3 a4 a5 k0 k1 k2 k3 k4
    (with_reducible refine HC.out.mono ?_)
    rintro e w2 ⟨⟨yA, yc, yB, yd, yP, yr⟩, rfl, hr2, hb2⟩
    have HR2 := Lib.hid hr2
    have H6C := Lib.hid (H6B.out.below hb2 (by rw [HSV.out]; omega))
    have HB2 : Hid (Below w.heap.size w w2) := HBV.out.trans (hb2.mono HBV.out.size)
    have HW2 : Hid (w.heap.size + 1 + 1 < w2.heap.size) := H6C.out.lt
    obtain ⟨b0, b1, b2, b3, b4, b5, b6⟩ := H6C.out
    have e0 := b6 0
    have e1 := b6 1
    have e2 := b6 2
    have e3 := b6 3
    have e4 := b6 4
    have e5 := b6 5
    have hW2 := HW2.out
    clear hr2 hb2 b6
    go_wp2
    (try simp only [Exit.inBlock, Exit.then])
    refine bodyPost_ret (v := .tuple #[(Rc.mk yA yc yB yd yP yr).v r1, .int .i64 r2, .slice none 0 0]) ?_ rfl ⟨⟨yA, yc, yB, yd, yP, yr⟩, none, 0, 0, rfl, rfl, Nat.le_refl _, Nat.zero_le _, RdX.nil, RAt.weak (X := X3 X w.heap.size) ?_ (fun _ => .inl), ?_⟩
    · rw [results_cell_two rfl]
      simp only [Rc.v]
      go_simp
    · refine RAt.below ?_ (below_one _ _)
      (repeat (refine RAt.setCell ?_ _ _ (.inr ⟨by simp only; omega, by simp only; omega⟩)))
      exact HR2.out
    · refine Below.alloc ?_ (by simp only [World.size_setCell]; omega) _
      (repeat (refine Below.setCell ?_ (by simp only; omega) _))
      exact HB2.out
  rw [if_neg c2]
  have z2 : (j == 2) = false := by simp; omega
  by_cases c3 : j = 3
  · rw [if_pos c3]
    have z3 : (j == 3) = true := by simpa using c3
    clear c1 c2 c3
    have HC := Lib.hid (readR_any HZV.out HX3.out xa)
    obtain ⟨RR, hRR⟩ : ∃ R, readF g xa = R := ⟨_, rfl⟩
    rw [hRR] at HC ⊢
    clear hRR
    obtain ⟨a0, a1, a2, a3, a4, a5, _⟩ := H6A.out
    obtain ⟨k0, k1, k2, k3, k4⟩ := H5.out
    simp only at k0 k1 k2 k3 k4
    go_enter Try.func40, Try.ntmps40
    go_wp2_with (fail)
    try rw [hV]
    clear hV
    clear a0 a1 a2 a3 a4 a5 k0 k1 k2 k3 k4
    (with_reducible refine HC.out.mono ?_)
    rintro e w2 ⟨A2, n2, c2, rfl, hn2, hc21, hc22, hr2, hb2⟩
    have HR2 := Lib.hid hr2
    have HN2 := Lib.hid hn2
    have HZ2 := Lib.hid (HZV.out.below hb2)
    have H6D := Lib.hid (H6A.out.below hb2 (by rw [HSV.out]; omega))
    have H6C := Lib.hid (H6B.out.below hb2 (by rw [HSV.out]; omega))
    have HB2 : Hid (Below w.heap.size w w2) := HBV.out.trans (hb2.mono HBV.out.size)
    have HW2 : Hid (w.heap.size + 1 + 1 < w2.heap.size) := H6C.out.lt
    obtain ⟨b0, b1, b2, b3, b4, b5, b6⟩ := H6C.out
    have e0 := b6 0
    have e1 := b6 1
    have e2 := b6 2
    have e3 := b6 3
    have e4 := b6 4
    have e5 := b6 5
    obtain ⟨a0, a1, a2, a3, a4, a5, _⟩ := H6D.out
    clear hr2 hn2 hb2 b6
    go_wp2
    (try simp only [Exit.inBlock, Exit.then])
    refine bodyPost_ret (v := .tuple #[(Rc.mk A c B d P r).v g, .int .i64 RR.2, .slice A2 n2 c2]) ?_ rfl ⟨⟨A, c, B, d, P, r⟩, A2, n2, c2, rfl, HN2.out, hc21, hc22, RdX.weak (X := X3 X w.heap.size) ?_ (fun _ => .inl), RAt.weak (X := X3 X w.heap.size) ?_ (fun _ => .inl), ?_⟩
    · rw [results_cell_two rfl]
      simp only [Rc.v]
      go_simp
    · (repeat (refine RdX.setCell ?_ _ _ (.inr ⟨by simp only; omega, by simp only; omega⟩)))
      exact HR2.out
    · (repeat (refine RAt.setCell ?_ _ _ (.inr ⟨by simp only; omega, by simp only; omega⟩)))
      exact HZ2.out
    · (repeat (refine Below.setCell ?_ (by simp only; omega) _))
      exact HB2.out
  rw [if_neg c3]
  have z3 : (j == 3) = false := by simp; omega
  by_cases c4 : j = 4
  · rw [if_pos c4]
    have z4 : (j == 4) = true := by simpa using c4
    clear c1 c2 c3 c4
    have HC := Lib.hid (fuseR_any HZV.out HX3.out xn hn1 hn2 xP xq xr xp HXV.out.rp HXV.out.lp HXV.out.sq HXV.out.bp)
    obtain ⟨r1, hr1⟩ : ∃ R, fuseF g xn xp = R := ⟨_, rfl⟩
    rw [hr1] at HC ⊢
    clear hr1
    obtain ⟨a0, a1, a2, a3, a4, a5, _⟩ := H6A.out
    obtain ⟨k0, k1, k2, k3, k4⟩ := H5.out
    simp only at k0 k1 k2 k3 k4
    go_enter Try.func40, Try.ntmps40
    go_wp2_with (fail)
    try rw [hV]
    clear hV
    clear a0 a1 a2 a3 a4 a5 k0 k1 k2 k3 k4
    (with_reducible refine HC.out.mono ?_)
    rintro e w2 ⟨⟨yA, yc, yB, yd, yP, yr⟩, rfl, hr2, hb2⟩
    have HR2 := Lib.hid hr2
    have H6C := Lib.hid (H6B.out.below hb2 (by rw [HSV.out]; omega))
    have HB2 : Hid (Below w.heap.size w w2) := HBV.out.trans (hb2.mono HBV.out.size)
    have HW2 : Hid (w.heap.size + 1 + 1 < w2.heap.size) := H6C.out.lt
    obtain ⟨b0, b1, b2, b3, b4, b5, b6⟩ := H6C.out
    have e0 := b6 0
    have e1 := b6 1
    have e2 := b6 2
    have e3 := b6 3
    have e4 := b6 4
    have e5 := b6 5
    clear hr2 hb2 b6
    go_wp2
    (try simp only [Exit.inBlock, Exit.then])
    refine bodyPost_ret (v := .tuple #[(Rc.mk yA yc yB yd yP yr).v r1, .int .i64 0, .slice none 0 0]) ?_ rfl ⟨⟨yA, yc, yB, yd, yP, yr⟩, none, 0, 0, rfl, rfl, Nat.le_refl _, Nat.zero_le _, RdX.nil, RAt.weak (X := X3 X w.heap.size) ?_ (fun _ => .inl), ?_⟩
    · rw [results_cell_two rfl]
      simp only [Rc.v]
      go_simp
    · (repeat (refine RAt.setCell ?_ _ _ (.inr ⟨by simp only; omega, by simp only; omega⟩)))
      exact HR2.out
    · (repeat (refine Below.setCell ?_ (by simp only; omega) _))
      exact HB2.out
  rw [if_neg c4]
  have z4 : (j == 4) = false := by simp; omega
  clear c1 c2 c3 c4
  have HC := Lib.hid (startR_any HZV.out)
  have HST := Lib.hid (startR_at HZV.out)
  obtain ⟨r1, hRR⟩ : ∃ R, startR g = R := ⟨_, rfl⟩
  rw [hRR] at HC HST ⊢
  clear hRR
  obtain ⟨a0, a1, a2, a3, a4, a5, _⟩ := H6A.out
  obtain ⟨k0, k1, k2, k3, k4⟩ := H5.out
  simp only at k0 k1 k2 k3 k4
  go_enter Try.func40, Try.ntmps40
  go_wp2_with (fail)
  try rw [hV]
  clear hV
  clear a0 a1 a2 a3 a4 a5 k0 k1 k2 k3 k4
  (with_reducible refine HC.out.mono ?_)
  rintro e w2 ⟨rfl, hb2⟩
  have hr2 : RAt (X3 X w.heap.size) w2 ⟨A, c, B, d, P, r⟩ r1 := HST.out.below hb2
  have HR2 := Lib.hid hr2
  have H6C := Lib.hid (H6B.out.below hb2 (by rw [HSV.out]; omega))
  have HB2 : Hid (Below w.heap.size w w2) := HBV.out.trans (hb2.mono HBV.out.size)
  have HW2 : Hid (w.heap.size + 1 + 1 < w2.heap.size) := H6C.out.lt
  obtain ⟨b0, b1, b2, b3, b4, b5, b6⟩ := H6C.out
  have e0 := b6 0
  have e1 := b6 1
  have e2 := b6 2
  have e3 := b6 3
  have e4 := b6 4
  have e5 := b6 5
  clear hr2 hb2 b6
  go_wp2
  (try simp only [Exit.inBlock, Exit.then])
  refine bodyPost_ret (v := .tuple #[(Rc.mk A c B d P r).v r1, .int .i64 0, .slice none 0 0]) ?_ rfl ⟨⟨A, c, B, d, P, r⟩, none, 0, 0, rfl, rfl, Nat.le_refl _, Nat.zero_le _, RdX.nil, RAt.weak (X := X3 X w.heap.size) ?_ (fun _ => .inl), ?_⟩
  · rw [results_cell_two rfl]
    simp only [Rc.v]
    go_simp
  · (repeat (refine RAt.setCell ?_ _ _ (.inr ⟨by simp only; omega, by simp only; omega⟩)))
    exact HR2.out
  · (repeat (refine Below.setCell ?_ (by simp only; omega) _))
    exact HB2.out

end Go.Proofs.Ytfeceamhlphelaa
