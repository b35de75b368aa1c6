/-
  The statement about survival: Fuse, Start, Down beside a bank; the rounds as values; the walk. (I5, I7, I8 in one text.)
-/
import Derived.Test.YtjdknddnanopaaaI4
import Derived.Test.YtjdknddnanopaaaFrameR
import Derived.Deep.RegionHeld3
import Derived.Deep.DeepCutAuto
import Derived.Deep.CutBlock
import Derived.Lib.ConvBytes
namespace Go.Proofs.Ytjdknddnanopaaa
open Go.RowKit
set_option linter.unusedVariables false
set_option linter.unusedSimpArgs false

section
variable {w0 w w' : World} {L : Lc} {S : Sc} {K : Kc} {f : Fl} {b : Bk} {d D : Nat} {l : List (Option Addr × List Value)}
theorem Aft.of_fl {Ap : Option Addr} {cp : Nat} (h : OnlyX (Own5 L S) w w') : Aft w w' L S K { L with Ap := Ap, cp := cp } S K :=
  ⟨h.more (fun g hg => .inl hg), fun b _ h => h, fun b _ h => h, fun b h => h, rfl, rfl, rfl, rfl⟩
theorem Bx.fuse (h : Bx w0 w d D l f b) (n : Int) (hn : I64 n) (A : Option Addr) (m c : Nat) (p : List Int) (hA : Rd w w.heap.size A (kcells .u8 p)) (hm : p.length = m) (hm2 : m ≤ 140737488351232) (hp : Bytes p) :
    Calls Try.prog 39 #[.pointer (some ⟨d, 0, none⟩), .int .i64 n, .slice A m c] w fun e w' => e = .returned (.tuple #[]) ∧ Bx w0 w' d D l (fuseF f n p) b := by
  obtain ⟨L, S, K, rfl, h2, hk, hl⟩ := h
  refine (fuseS_any hk.st n hn A m c p hA hm hm2 hp).mono ?_
  rintro e w' ⟨he, ⟨Ap, cp, hs⟩, ho⟩
  exact ⟨he, .of rfl h2 hl ⟨_, S, K, .of_fl ho, hk.prog2 hs ho⟩⟩
theorem Bx.start (h : Bx w0 w d D l f b) :
    Calls Try.prog 41 #[.pointer (some ⟨d, 0, none⟩)] w fun e w' => e = .returned (.tuple #[]) ∧ Bx w0 w' d D l (startF f) b := by
  obtain ⟨L, S, K, rfl, h2, hk, hl⟩ := h
  refine (startS_any hk.st).mono ?_
  rintro e w' ⟨he, ⟨Ap, cp, hs⟩, ho⟩
  exact ⟨he, .of rfl h2 hl ⟨_, S, K, .of_fl ho, hk.prog2 hs ho⟩⟩
theorem Bx.down (h : Bx w0 w d D l f b) :
    Calls Try.prog 40 #[.pointer (some ⟨d, 0, none⟩)] w fun e w' => e = .returned (.bool f.down) ∧ Bx w0 w' d D l f b := by
  have h0 := h
  obtain ⟨L, S, K, rfl, h2, hk, hl⟩ := h
  refine (down_any hk.st.fl).mono ?_
  rintro e w' ⟨he, rfl⟩
  exact ⟨he, h0⟩
theorem Bx.nil_add (h : Bx w0 w d D l f b) : Bx w0 w d D ((none, []) :: l) f b := by
  obtain ⟨L, S, K, h1, h2, hk, hh⟩ := h
  refine ⟨L, S, K, h1, h2, hk, fun p hp => ?_⟩
  rcases List.mem_cons.1 hp with rfl | hp
  · exact RdX.nil
  · exact hh p hp
end

/-- An image that fits. -/
def ImOk (k P : Nat) (X : List Int) : Prop := Bytes X ∧ 1 ≤ X.length ∧ X.length ≤ k * P * 64
/-- What is known before a round. -/
structure SvS (f : Fl) (k P : Nat) (C : List Int) (T : Option (List Int)) (n : Int) : Prop where
  rnd : Rnd f k P (Gd f k C T) n
  c : ImOk k P C
  t : ∀ X, T = some X → ImOk k P X
theorem pageF_img {f g : Fl} (h : g.img = f.img) (x : Nat) : pageF g x = pageF f x := by unfold pageF; rw [h]
theorem Gd.img {f g : Fl} {k : Nat} {C : List Int} {T : Option (List Int)} {u : List Int} (h : Gd f k C T u) (hp : g.pg = f.pg) (hi : g.img = f.img) : Gd g k C T u := h.far hp (fun x _ => pageF_img hi x)
theorem Hd.img {f g : Fl} {k : Nat} {u : List Int} {s : Nat} {X : List Int} (h : Hd f k u s X) (hp : g.pg = f.pg) (hi : g.img = f.img) : Hd g k u s X := h.far hp (fun x _ => pageF_img hi x)

/-- A round: the flash behind Start, the bank behind Open, the bank and the flash behind Boot, the slot that runs, its image. -/
structure SvR (f : Fl) (k P : Nat) (C : List Int) (T : Option (List Int)) (n : Int) (B : Int) (g : Fl) (b : Bk) (q : Bk × Fl × Int × Int) (run : Nat) (X : List Int) : Prop where
  reg : regE g 0 B = 0
  oe : fwOpenE g 0 B = 0
  ob : fwOpenB g 0 B = b
  J : BkJ g b (n + 1)
  bt : bootB b g = q
  qr : q.2.2 = ((run : Int), 0)
  J2 : BkJ q.2.1 q.1 (n + 2)
  im : imageB q.1 q.2.1 (run : Int) = (q.1, X, 0)
  r1 : run ≤ 1
  xc : X = C ∨ T = some X
  xk : ImOk k P X
  out : (savB q.1 1 = 2 ∧ ∀ (m : Int) (p : List Int), Bytes p → m < 9223372036854775808 → ∀ (v : Int), 1 ≤ v ∧ v ≤ 1073741824 → ∀ (Y : List Int), ImOk k P Y →
      SvS (installB v Y q.1 (fuseF q.2.1 m p)).2.1 k P X (some Y) (n + 42) ∧ BkJ (installB v Y q.1 (fuseF q.2.1 m p)).2.1 (installB v Y q.1 (fuseF q.2.1 m p)).1 (n + 42) ∧
      ((installB v Y q.1 (fuseF q.2.1 m p)).2.2 = true → savB (installB v Y q.1 (fuseF q.2.1 m p)).1 1 = ((1 - run : Nat) : Int) ∧ savB (installB v Y q.1 (fuseF q.2.1 m p)).1 2 = 3)) ∨
    (savB q.1 1 = (run : Int) ∧ ∀ (m : Int) (p : List Int), Bytes p → m < 9223372036854775808 →
      SvS (fuseF q.2.1 m p) k P C T (n + 42) ∧ (confirmB q.1 (fuseF q.2.1 m p)).2 = 0 ∧
      ((stepsB 40 (confirmB q.1 (fuseF q.2.1 m p)).1 (fuseF q.2.1 m p)).2.2 = true → SvS (stepsB 40 (confirmB q.1 (fuseF q.2.1 m p)).1 (fuseF q.2.1 m p)).2.1 k P X none (n + 42)) ∧
      ((stepsB 40 (confirmB q.1 (fuseF q.2.1 m p)).1 (fuseF q.2.1 m p)).2.2 = false → SvS (stepsB 40 (confirmB q.1 (fuseF q.2.1 m p)).1 (fuseF q.2.1 m p)).2.1 k P C (some X) (n + 42)))
theorem sv_round {f : Fl} {k P : Nat} {C : List Int} {T : Option (List Int)} {n : Int} (h : SvS f k P C T n) (hn : n ≤ 900000) {B : Int} (hB : B = ((2 * k + 2 : Nat) : Int)) : ∃ b q run X, SvR f k P C T n B (startF (fuseF f (-1) [])) b q run X := by
  have hR := h.rnd.fuse (m := -1) (p := []) (fun x hx => by simp at hx) (by omega)
  obtain ⟨a1, a2, a3, a4, a5, a6⟩ := hR.opens Gd.full (show max (-1 : Int) (-1) = -1 by omega) hB
  obtain ⟨e1, e2, e3, e4⟩ := startF_same (fuseF f (-1) [])
  obtain ⟨g, hg⟩ : ∃ g, startF (fuseF f (-1) []) = g := ⟨_, rfl⟩
  rw [hg] at a1 a2 a3 a4 a5 a6 e1 e2 ⊢
  obtain ⟨b, hb⟩ : ∃ b, fwOpenB g 0 B = b := ⟨_, rfl⟩
  rw [hb] at a4 a5 a6
  have a7 : Gd g k C T b.st.saved := by
    first
      | exact a6.img e2 e1
      | exact a6.img e1 e2
  obtain ⟨run, X, b1, b2, b3, b4, b5, b6⟩ := a4.boot a1 a5 (by omega) a7
  obtain ⟨q, hq⟩ : ∃ q, bootB b g = q := ⟨_, rfl⟩
  rw [hq] at b1 b2 b3 b4 b5 b6
  have hpg : q.2.1.pg = P := b3.pg
  have hxc : X = C ∨ T = some X := by
    cases b5 with
    | quiet _ _ _ _ h5 => exact h5
    | trial _ _ _ _ _ _ h5 _ => exact .inr h5
  have hxk : ImOk k P X := by
    rcases hxc with e | e
    · rw [e]; exact h.c
    · exact h.t X e
  refine ⟨b, q, run, X, a2, a3, hb, a4.J, hq, b1, b3.J.more (by omega), b6, b5.le, hxc, hxk, ?_⟩
  cases b5 with
  | quiet r1 v0 v1 hh _ =>
    refine .inl ⟨v1, fun m p hp hm v hv Y hY => ?_⟩
    have hof := b3.fuse hp hm
    have hI := hof.install (run := run) (by omega) b4 r1 v0 v1 (hh.img (g := fuseF q.2.1 m p) rfl rfl) hv hY.1 hY.2.1 hY.2.2
    obtain ⟨z, hz⟩ : ∃ z, installB v Y q.1 (fuseF q.2.1 m p) = z := ⟨_, rfl⟩
    rw [hz] at hI ⊢
    refine ⟨⟨hI.rnd.more (by omega), hxk, fun X' e => by injection e with e; rw [← e]; exact hY⟩, hI.J.more (by omega), fun ht => ?_⟩
    exact fin_tries b3.len (D := 1 - run) (by omega) v Y.length (sumZ Y) (hI.yes ht).2.2.2
  | trial a c1 c2 v0 v1 ha ht hh =>
    refine .inr ⟨v1, fun m p hp hm => ?_⟩
    have hof := b3.fuse hp hm
    have ha' := ha.img (g := fuseF q.2.1 m p) rfl rfl
    have hh' := hh.img (g := fuseF q.2.1 m p) rfl rfl
    obtain ⟨k1, k2⟩ := hof.confirm (by omega) b4 c1 c2 v0 v1 ha' hh'
    refine ⟨⟨(hof.idle (.trial a run X c1 c2 v0 v1 ha' ht hh')).more (by omega), h.c, h.t⟩, k1, fun e => ⟨(k2.yes e).more (by omega), hxk, fun X' e => by cases e⟩, fun e => ⟨(k2.no e).more (by omega), h.c, fun X' e => by injection e with e; rw [← e]; exact hxk⟩⟩

section
variable {w0 w w' : World} {f : Fl} {b : Bk} {d D : Nat} {l : List (Option Addr × List Value)}
set_option maxRecDepth 10000 in
/-- A string as bytes. -/
theorem Bx.str (h : Bx w0 w d D l f b) {X : List Int} (hX : Bytes X) (hl : X.length ≤ 10000) :
    ∃ c w', (convert 9 22 (.string (strOfNums X))).run Try.prog w = .ok (.slice (some ⟨w.heap.size, 0, none⟩) X.length c) w' ∧ X.length ≤ c ∧ c ≤ maxLen ∧ Bx w0 w' d D ((some ⟨w.heap.size, 0, none⟩, kcells .u8 X) :: l) f b := by
  have hd : (strOfNums X).data.toList = X.map (fun n => UInt8.ofNat n.toNat) := by rw [← strl, Go.Lib.toList_data]
  have hs : (strOfNums X).size = X.length := by
    show (strOfNums X).data.size = _
    rw [← Array.length_toList, hd, List.length_map]
  have hr := Lib.run_convert_string_bytes (P := Try.prog) w 9 22 5 (strOfNums X) Try.underlying9 Try.underlying22 Try.underlying5
  rw [hs] at hr
  have hb : Below w.heap.size w (Lib.bytesWorld w 5 (strOfNums X)) := by
    unfold Lib.bytesWorld
    refine (((Below.drew (Below.refl _ _)).alloc (Nat.le_refl _) (.cells (Lib.bytesCells w 5 (strOfNums X)) 5)) : Below w.heap.size w _).trans ?_
    unfold World.freeze
    split
    · exact Below.refl _ _
    · exact ⟨rfl, rfl, rfl, by simp, fun k hk => by
        simp only [Array.getElem?_modify]
        have hk2 : k < w.heap.size := hk
        rw [if_neg (show w.heap.size ≠ k by omega)]⟩
  refine ⟨_, _, hr, ?_, ?_, ?_⟩
  · exact grownCap_ge w X.length 0 5
  · exact grownCap_le_maxLen w X.length 0 5 (by unfold maxLen; omega)
  obtain ⟨L, S, K, h1, h2, hk, hh⟩ := h
  refine ⟨L, S, K, h1, h2, hk.later hb, fun p hp => ?_⟩
  rcases List.mem_cons.1 hp with rfl | hp
  · intro hne
    refine ⟨w.heap.size, 0, rfl, by rw [Lib.bytesWorld_size]; omega, fun hx => by have := hk.own_lt _ hx; omega, fun j u hu => ?_⟩
    rw [Nat.zero_add]
    have hj : j < X.length := by
      have := (List.getElem?_eq_some_iff.1 hu).1
      rw [kcells_length] at this
      exact this
    rw [Lib.bytesWorld_cell w 5 (strOfNums X) j (by rw [hs]; exact hj), hd]
    unfold kcells at hu
    rw [List.getElem?_map, List.getElem?_eq_getElem hj] at hu
    injection hu with hu
    subst hu
    have hx := hX X[j] (List.getElem_mem hj)
    rw [List.getD_eq_getElem?_getD, List.getElem?_map, List.getElem?_eq_getElem hj]
    simp only [Option.map_some, Option.getD_some, UInt8.toNat_ofNat']
    have : X[j].toNat % 2 ^ 8 = X[j].toNat := Nat.mod_eq_of_lt (by omega)
    rw [this]
    rw [Int.toNat_of_nonneg hx.1]
  · exact (hh p hp).below hb
theorem Bx.trial2 (h : Bx w0 w d D l f b) (ho : BkOk f b) {x y : Int} (hx : savB b 1 = x) (hy : savB b 2 = y) : Calls Try.prog 29 #[.pointer (some ⟨D, 0, none⟩)] w fun e w' => e = .returned (.tuple #[.int .i64 x, .int .i64 y]) ∧ Bx w0 w' d D l f b ∧ Below w.heap.size w w' := by
  have h0 := h
  obtain ⟨L, S, K, h1, rfl, hk, hl⟩ := h
  refine (ftrial_any hk ho).mono ?_
  rintro e w' ⟨he, hb⟩
  rw [hx, hy] at he
  exact ⟨he, h0.later hb, hb⟩
theorem eqs_some (bb oo n c : Nat) (w : World) : (binOp .eql 22 (.slice (some ⟨bb, oo, none⟩) n c) (.slice none 0 0)).run Try.prog w = .ok (.bool false) w := by kernel_rfl
theorem nes_some (bb oo n c : Nat) (w : World) : (binOp .neq 22 (.slice (some ⟨bb, oo, none⟩) n c) (.slice none 0 0)).run Try.prog w = .ok (.bool true) w := by kernel_rfl
theorem nes_none (n c : Nat) (w : World) : (binOp .neq 22 (.slice none n c) (.slice none 0 0)).run Try.prog w = .ok (.bool false) w := by kernel_rfl
/-- A box that was made beside the bank. -/
theorem Bx.box (h : Bx w0 w d D l f b) (x : Ro) (t : TypeId) : Bx w0 (w.alloc (.cells #[.int .i64 x.s, .int .i64 x.l, .int .i64 x.f, .slice x.P x.q x.r, .int .u8 x.b, .bool x.t] t)) d D ((some ⟨w.heap.size, 0, none⟩, x.cells) :: l) f b := by
  obtain ⟨L, S, K, h1, h2, hk, hh⟩ := h
  have hb : Below w.heap.size w (w.alloc (.cells #[.int .i64 x.s, .int .i64 x.l, .int .i64 x.f, .slice x.P x.q x.r, .int .u8 x.b, .bool x.t] t)) := (Below.refl _ _).alloc (Nat.le_refl _) _
  refine ⟨L, S, K, h1, h2, hk.later hb, fun p hp => ?_⟩
  rcases List.mem_cons.1 hp with rfl | hp
  · intro hne
    refine ⟨w.heap.size, 0, rfl, by rw [World.size_alloc]; omega, fun hx => by have := hk.own_lt _ hx; omega, fun j u hu => ?_⟩
    rw [Nat.zero_add, Joins.cell_alloc_mark_at w _ t (0, 0) w.heap.size j rfl, ← Array.getElem?_toList]
    exact hu
  · exact (hh p hp).below hb
/-- The cells of a round's box. -/
theorem Rd.six {w : World} {B g : Nat} {x : Ro} (h : Rd w B (some ⟨g, 0, none⟩) x.cells) : w.cell? ⟨g, 0, none⟩ = some (.int .i64 x.s) ∧ w.cell? ⟨g, 1, none⟩ = some (.int .i64 x.l) ∧ w.cell? ⟨g, 2, none⟩ = some (.int .i64 x.f) ∧ w.cell? ⟨g, 3, none⟩ = some (.slice x.P x.q x.r) ∧ w.cell? ⟨g, 4, none⟩ = some (.int .u8 x.b) := by
  obtain ⟨b, off, e, hlt, hc⟩ := h (by unfold Ro.cells; simp)
  injection e with e
  injection e with e1 e2
  subst e1 e2
  exact ⟨hc 0 _ rfl, hc 1 _ rfl, hc 2 _ rfl, hc 3 _ rfl, hc 4 _ rfl⟩
end

set_option maxRecDepth 100000 in
set_option maxHeartbeats 32000000 in
theorem survives_any (b p s l : Int) (A : Option Addr) (n c : Nat) (rs : List Ro) (w : World) (hA : Rd w w.heap.size A (rocells rs)) (hrn : rs.length = n) (hnc : n ≤ c) (hcm : c ≤ maxLen) (hrs : ∀ x ∈ rs, x.ok w w.heap.size) : Calls Try.prog 7 #[.agg #[.int .i64 b, .int .i64 p, .int .i64 s, .int .i64 l], .slice A n c] w fun e w' => e = .returned (.bool true) ∧ Below w.heap.size w w' := by
  have g1 := ne_nil
  have g2 := ne_err
  have g3 := eq_nil
  have g4 := eq_err
  have g5 := eqs_some
  have g6 := nes_some
  have g7 := nes_none
  obtain ⟨C, hC⟩ : ∃ C : Nat, clipI b 0 1 = C := ⟨(clipI b 0 1).toNat, by unfold clipI; omega⟩
  obtain ⟨P, hP⟩ : ∃ P : Nat, clipI p 2 4 = P := ⟨(clipI p 2 4).toNat, by unfold clipI; omega⟩
  obtain ⟨S, hS⟩ : ∃ S : Nat, clipI s 1 1073741824 = S := ⟨(clipI s 1 1073741824).toNat, by unfold clipI; omega⟩
  obtain ⟨B, hB⟩ : ∃ B, 4 + 2 * C = B := ⟨_, rfl⟩
  obtain ⟨k, hk⟩ : ∃ k, (B - 2) / 2 = k := ⟨_, rfl⟩
  have hC1 : C ≤ 1 := by unfold clipI at hC; omega
  have hP24 : 2 ≤ P ∧ P ≤ 4 := by unfold clipI at hP; omega
  have hS12 : 1 ≤ S ∧ S ≤ 1073741824 := by unfold clipI at hS; omega
  have hk12 : 1 ≤ k ∧ k ≤ 2 ∧ 2 * k + 2 = B := by omega
  have hkP : 1 ≤ k * P := Nat.mul_le_mul hk12.1 (show 1 ≤ P by omega)
  have hkP8 : k * P ≤ 8 := Nat.mul_le_mul hk12.2.1 hP24.2
  obtain ⟨N, hN⟩ : ∃ N : Nat, clipI l 1 (((B - 2) / 2 * P * 64 : Nat) : Int) = N := ⟨(clipI l 1 (((B - 2) / 2 * P * 64 : Nat) : Int)).toNat, by unfold clipI; omega⟩
  have hN12 : 1 ≤ N ∧ N ≤ k * P * 64 := by
    rw [hk] at hN
    unfold clipI at hN
    omega
  obtain ⟨I, hI⟩ : ∃ I, contB S N = I := ⟨_, rfl⟩
  have hIl : I.length = N := by rw [← hI]; exact contB_length _ _
  have hIb : Bytes I := by rw [← hI]; exact contB_bytes _ _
  have HFT := Lib.hid (fit52_any b p s l C B P S N hC hB hP hS hN)
  have HPT := Lib.hid (fun W => plant_any k P hk12.1 hk12.2.1 hP24.1 hP24.2 S N hS12.1 hS12.2 hN12.1 hN12.2 W B hk12.2.2)
  rw [hI] at HPT
  obtain ⟨M, hM⟩ : ∃ M, k * P = M := ⟨_, rfl⟩
  have hMi : (k : Int) * (P : Int) = (M : Int) := by rw [← hM]; push_cast; rfl
  have hM8 : 1 ≤ M ∧ M ≤ 8 := by omega
  have HCI := Lib.hid (fun W => cont_n (S : Int) (N : Int) N (by unfold clipI; omega) W)
  rw [hI] at HCI
  have HIL := Lib.hid hIl
  have HIB := Lib.hid hIb
  have HN12 := Lib.hid hN12
  have HKB : Hid (2 * k + 2 = B) := hk12.2.2
  obtain ⟨V, hV⟩ : ∃ V, w.alloc (.cells #[.int .i64 b, .int .i64 p, .int .i64 s, .int .i64 l] 59) = V := ⟨_, rfl⟩
  have HBV : Hid (Below w.heap.size w V) := by rw [← hV]; exact (Below.refl _ _).alloc (Nat.le_refl _) _
  have HCV : Hid (four V w.heap.size (.int .i64 b) (.int .i64 p) (.int .i64 s) (.int .i64 l)) := by rw [← hV]; exact four_new _ _ _ _ _ _ _ rfl
  have qB1 : ((B : Int) - 2).tdiv 2 = (k : Int) := by rw [Int.tdiv_eq_ediv_of_nonneg (by omega)]; omega
  have qB2 : ((B : Int) - 2) / 2 = (k : Int) := by omega
  have hB46 : 4 ≤ B ∧ B ≤ 6 := by omega
  obtain ⟨hB4, hB6⟩ := hB46
  have hWW : IntKind.i64.wrap (IntKind.i64.wrap (IntKind.i64.wrap ((IntKind.i64.wrap ((B : Int) - 2)).tdiv 2) * (P : Int)) * 64) = (M : Int) * 64 := by
    rw [IntWalk.i64_in ((B : Int) - 2) (by omega), qB1, IntWalk.i64_in (k : Int) (by omega), hMi, IntWalk.i64_in (M : Int) (by omega), IntWalk.i64_in ((M : Int) * 64) (by omega)]
  have HM := Lib.hid hM
  have HM8 := Lib.hid hM8
  have HP24 := Lib.hid hP24
  have HK12 := Lib.hid hk12
  have HA := Lib.hid hA
  have HRN := Lib.hid hrn
  have HRS := Lib.hid hrs
  have HCM := Lib.hid hcm
  have hcm2 := hcm
  unfold maxLen at hcm2
  clear hC hP hS hB hk hC1 hS12 hkP hkP8 hN hN12 hM hk12 hP24 hI hIl hIb hA hrn hrs hcm
  by_cases hn8 : 8 < n
  · go_enter Try.func7, Try.ntmps7
    go_wp2_with (fail)
    try rw [hV]
    clear hV
    (with_reducible refine (awake52_any V).mono ?_)
    rintro e w1 ⟨rfl, hb⟩
    have HB1 : Hid (Below w.heap.size w w1) := HBV.out.trans (hb.mono HBV.out.size)
    clear hb
    go_wp2_with (fail)
    (with_reducible refine (awake52_any _).mono ?_)
    rintro e w2 ⟨rfl, hb⟩
    have HB2 : Hid (Below w.heap.size w w2) := HB1.out.trans (hb.mono HB1.out.size)
    clear hb
    go_wp2
    go_ret
    exact ⟨rfl, HB2.out⟩
  go_enter Try.func7, Try.ntmps7
  go_wp2_with (fail)
  try rw [hV]
  clear hV
  (with_reducible refine (awake52_any V).mono ?_)
  rintro e w1 ⟨rfl, hb⟩
  have HB1 : Hid (Below w.heap.size w w1) := HBV.out.trans (hb.mono HBV.out.size)
  have HC1 := Lib.hid (HCV.out.below hb HCV.out.lt)
  obtain ⟨d0, d1, d2, d3, dz⟩ := HC1.out
  clear hb dz
  go_wp2_with (fail)
  (with_reducible refine (HFT.out w1).mono ?_)
  rintro e w2 ⟨rfl, hb⟩
  have HB2 : Hid (Below w.heap.size w w2) := HB1.out.trans (hb.mono HB1.out.size)
  have HC2 := Lib.hid (HC1.out.below hb HC1.out.lt)
  obtain ⟨V3, hV3⟩ : ∃ V, put4 w2 w.heap.size (.int .i64 B) (.int .i64 P) (.int .i64 S) (.int .i64 N) = V := ⟨_, rfl⟩
  have HBV3 : Hid (Below w.heap.size w V3) := by rw [← hV3]; exact below_put4 HB2.out (Nat.le_refl _) _ _ _ _
  have HCV3 : Hid (four V3 w.heap.size (.int .i64 B) (.int .i64 P) (.int .i64 S) (.int .i64 N)) := by rw [← hV3]; exact HC2.out.put _ _ _ _
  unfold put4 at hV3
  clear d0 d1 d2 d3 hb
  obtain ⟨d0, d1, d2, d3, dz⟩ := HC2.out
  have e0 := dz 0
  have e1 := dz 1
  have e2 := dz 2
  have e3 := dz 3
  clear dz
  go_upto_region 4 with (fail)
  try rw [hV3]
  clear hV3 d0 d1 d2 d3 e0 e1 e2 e3
  obtain ⟨d0, d1, d2, d3, dz⟩ := HCV3.out
  clear dz
  go_wp2_with (fail)
  (with_reducible refine (HPT.out V3).mono ?_)
  rintro e w4 ⟨W0, L, Sx, K, G, Bk0, rfl, hbw, hk, hpl, hsh, hpk⟩
  have HBW : Hid (Below V3.heap.size V3 W0) := hbw
  have hst := planted_start hpl hsh HK12.out.1 (by have := HK12.out; omega) HP24.out.1 (by rw [HIL.out]; exact HN12.out.1) (by rw [HIL.out]; exact HN12.out.2)
  have HST := Lib.hid hst
  have hsv : SvS G k P I none 2 := ⟨hst.rnd, ⟨HIB.out, by rw [HIL.out]; exact HN12.out.1, by rw [HIL.out]; exact HN12.out.2⟩, fun X e => by cases e⟩
  have HSV := Lib.hid hsv
  have HB4 : Hid (Bx W0 w4 L.d K.D [] G Bk0) := ⟨L, Sx, K, rfl, rfl, hk, fun p hp => by cases hp⟩
  obtain ⟨d, hd⟩ : ∃ d, L.d = d := ⟨_, rfl⟩
  obtain ⟨D0, hD0⟩ : ∃ D, K.D = D := ⟨_, rfl⟩
  rw [hd, hD0] at HB4
  rw [hd, hD0]
  have HCB : Hid (∀ W, Below W0.heap.size W0 W → four W w.heap.size (.int .i64 B) (.int .i64 P) (.int .i64 S) (.int .i64 N)) := fun W hb =>
    (HCV3.out.below HBW.out HCV3.out.lt).below hb (Nat.lt_of_lt_of_le HCV3.out.lt HBW.out.size)
  have HFB : Hid (∀ W, Below W0.heap.size W0 W → Below w.heap.size w W) := fun W hb => (HBV3.out.trans (HBW.out.mono HBV3.out.size)).trans (hb.mono (Nat.le_trans HBV3.out.size HBW.out.size))
  obtain ⟨d0, d1, d2, d3, -⟩ := HCB.out w4 HB4.out.below
  have HXW : Hid (∀ W, Bx W0 W d D0 [] G Bk0 → Calls Try.prog 25 #[.int .i64 S, .int .i64 N] W fun e w' => ∃ A, e = .returned (.slice A N N) ∧ Bx W0 w' d D0 [(A, kcells .u8 I)] G Bk0) := fun W hb => (HCI.out W).mono (fun e w' ⟨A, he, ho, hb2⟩ => ⟨A, he, hb.add hb2 (by rw [kcells_length]; exact HIL.out) ho⟩)
  clear hk hpl hsh hpk hbw hst hsv hd hD0
  go_wp2_with (fail)
  (with_reducible refine (HXW.out _ HB4.out).mono ?_)
  rintro e w5 ⟨A5, rfl, hB5⟩
  have HB5 := Lib.hid hB5
  clear hB5 d0 d1 d2 d3
  go_wp2_with (fail)
  go_loopw [8, 9, 49] (fun cv tv i wr => ∃ (j : Nat) (C : List Int) (T : Option (List Int)) (f : Fl) (bk : Bk) (D : Nat) (m : Int) (A1 : Option Addr) (c1 : Nat) (A2 : Option Addr) (c2 : Nat), j ≤ n ∧ i = .int .i64 (j : Int) ∧ cv = .slice A1 C.length c1 ∧ tv = .slice A2 (T.getD []).length c2 ∧ (T = none → A2 = none ∧ c2 = 0) ∧ Bx W0 wr d D [(A1, kcells .u8 C), (A2, kcells .u8 (T.getD []))] f bk ∧ SvS f k P C T m ∧ m ≤ 2 + 42 * j) (fun _ _ i _ => n - (intOf i).toNat)
  case atStart => exact ⟨0, I, none, G, Bk0, D0, 2, A5, N, none, 0, by omega, rfl, by rw [HIL.out], rfl, fun _ => ⟨rfl, rfl⟩, HB5.out.nil_add.less (fun p hp => by simp at hp; simp; exact hp.symm), HSV.out, by omega⟩
  case round =>
    obtain ⟨j, C, T, f, bk, D, m, A1, c1, A2, c2, hjn, rfl, rfl, rfl, hTn, hB, hS, hm⟩ := hrel
    obtain ⟨Y0, hY0⟩ : ∃ Y0, T.getD [] = Y0 := ⟨_, rfl⟩
    rw [hY0] at hB ⊢
    have HY0 := Lib.hid hY0
    clear hY0
    by_cases hlt : j < n
    · obtain ⟨x, hx⟩ := getElem?_of_lt (l := rs) (k := j) (by rw [HRN.out]; exact hlt)
      have HXO := Lib.hid (HRS.out x (List.mem_of_getElem? hx))
      obtain ⟨ba, off, rfl, hbl', q0, q1, q2, q3, q4, q5⟩ := (HA.out.below (HFB.out _ hB.below) (Nat.le_refl _)).ro hx
      obtain ⟨W, hW⟩ : ∃ V, wr.alloc (.cells #[.int .i64 x.s, .int .i64 x.l, .int .i64 x.f, .slice x.P x.q x.r, .int .u8 x.b, .bool x.t] 85) = V := ⟨_, rfl⟩
      have hBW := hB.box x 85
      rw [hW] at hBW
      have HBW := Lib.hid hBW
      have HS := Lib.hid hS
      have HM' := Lib.hid hm
      have HTn := Lib.hid hTn
      have HC6 : Hid (∀ (W2 : World) (l2 : List (Option Addr × List Value)) (f2 : Fl) (b2 : Bk) (D2 : Nat), Bx W0 W2 d D2 l2 f2 b2 → (some ⟨wr.heap.size, 0, none⟩, x.cells) ∈ l2 → (W2.cell? ⟨wr.heap.size, 0, none⟩ = some (.int .i64 x.s) ∧ W2.cell? ⟨wr.heap.size, 1, none⟩ = some (.int .i64 x.l) ∧ W2.cell? ⟨wr.heap.size, 2, none⟩ = some (.int .i64 x.f) ∧ W2.cell? ⟨wr.heap.size, 3, none⟩ = some (.slice x.P x.q x.r) ∧ W2.cell? ⟨wr.heap.size, 4, none⟩ = some (.int .u8 x.b))) := fun _ _ _ _ _ hb2 hm2 => (hb2.rd hm2).six
      obtain ⟨d0, d1, d2, d3, d4⟩ := HC6.out _ _ _ _ _ hBW (List.mem_cons_self ..)
      have hq0 : (x.q : Int) ≤ 140737488351232 := by have := HXO.out.sq; omega
      clear hB hS hm hx hBW hTn
      by_cases hq2 : 2000 < x.q
      · go_wp2
        try rw [hW]
        go_ret
        exact ⟨rfl, HFB.out _ HBW.out.below⟩
      have HPB : Hid (∀ W2, Below W0.heap.size W0 W2 → Rd W2 W2.heap.size x.P (kcells .u8 x.p)) := fun W2 hb => (HXO.out.rp.below (HFB.out _ hb) (Nat.le_refl _)).more (HFB.out _ hb).size
      obtain ⟨b1, q, run, X, hR⟩ := sv_round HS.out (by have := HM'.out; omega) (B := (B : Int)) (by have := HKB.out; omega)
      obtain ⟨f1, hf1⟩ : ∃ f1, fuseF f (-1) [] = f1 := ⟨_, rfl⟩
      rw [hf1] at hR
      have HR := Lib.hid hR
      have HFU := Lib.hid (HBW.out.fuse (-1) (by unfold I64; omega) none 0 0 [] (fun h => absurd rfl h) rfl (by omega) (fun z hz => by simp at hz))
      rw [hf1] at HFU
      clear hR hf1
      go_wp2_with (fail)
      try rw [hW]
      clear hW q0 q1 q2 q3 q4 q5
      (with_reducible refine HFU.out.mono ?_)
      rintro e w6 ⟨rfl, hB6⟩
      have HB6 := Lib.hid hB6
      clear hB6 d0 d1 d2 d3 d4
      go_wp2_with (fail)
      (with_reducible refine HB6.out.down.mono ?_)
      rintro e w7 ⟨rfl, hB7⟩
      have HB7 := Lib.hid hB7
      clear hB7
      go_upto_if 60 with (fail)
      go_cut [] (fun wx => Bx W0 wx d D [(some ⟨wr.heap.size, 0, none⟩, x.cells), (A1, kcells .u8 C), (A2, kcells .u8 Y0)] (startF f1) bk)
      case first =>
        cases hdn : f1.down with
        | true =>
          go_wp2_with (fail)
          (with_reducible refine HB7.out.start.mono ?_)
          rintro e w8 ⟨rfl, hB8⟩
          have HB8 := Lib.hid hB8
          clear hB8
          go_wp2_with (fail)
          go_meet
          exact HB8.out
        | false =>
          go_wp2_with (fail)
          go_meet
          rw [startF_rest hdn]
          exact HB7.out
      case rest =>
        have HB8 := Lib.hid hcut
        clear hcut
        have HOP := Lib.hid (HB8.out.open 0 (B : Int) HR.out.reg HR.out.oe)
        rw [HR.out.ob] at HOP
        have HBO : Hid (∀ W D1, Bx W0 W d D1 [(some ⟨wr.heap.size, 0, none⟩, x.cells), (A1, kcells .u8 C), (A2, kcells .u8 Y0)] (startF f1) b1 → Calls Try.prog 26 #[.pointer (some ⟨D1, 0, none⟩)] W fun e w' => e = .returned (.tuple #[.int .i64 (run : Int), .nilIface]) ∧ Bx W0 w' d D1 [(some ⟨wr.heap.size, 0, none⟩, x.cells), (A1, kcells .u8 C), (A2, kcells .u8 Y0)] q.2.1 q.1) := fun W D1 hB1 => by
          have := hB1.boot HR.out.J.ok HR.out.bt
          rw [HR.out.qr, errV_zero] at this
          exact this
        have HIM : Hid (∀ W D1, Bx W0 W d D1 [(some ⟨wr.heap.size, 0, none⟩, x.cells), (A1, kcells .u8 C), (A2, kcells .u8 Y0)] q.2.1 q.1 → Calls Try.prog 28 #[.pointer (some ⟨D1, 0, none⟩), .int .i64 (run : Int)] W fun e w' => ∃ A3 n3 c3, e = .returned (.tuple #[.slice A3 n3 c3, .nilIface]) ∧ X.length = n3 ∧ Rd w' w'.heap.size A3 (kcells .u8 X) ∧ Bx W0 w' d D1 [(some ⟨wr.heap.size, 0, none⟩, x.cells), (A1, kcells .u8 C), (A2, kcells .u8 Y0)] q.2.1 q.1) := fun W D1 hB1 =>
          (hB1.image HR.out.J2.ok (run : Int) HR.out.im).mono (fun e w' ⟨A3, n3, c3, he, h1, h2, h3, h4, h5⟩ => by
            simp only [errV_zero] at he
            exact ⟨A3, n3, c3, he, h1, h4, h5⟩)
        obtain ⟨d0, d1, d2, d3, -⟩ := HCB.out _ HB8.out.below
        go_wp2_with (fail)
        (with_reducible refine HOP.out.mono ?_)
        rintro e w9 ⟨D1, rfl, hB9⟩
        have HB9 := Lib.hid hB9
        have e9 := eqb_some D1
        clear hB9 d0 d1 d2 d3
        go_wp2_with (fail)
        (with_reducible refine (HBO.out _ _ HB9.out).mono ?_)
        rintro e w10 ⟨rfl, hB10⟩
        have HB10 := Lib.hid hB10
        clear hB10
        go_wp2_with (fail)
        (with_reducible refine (HIM.out _ _ HB10.out).mono ?_)
        rintro e w11 ⟨A3, n3, c3, rfl, hl3, hr3, hB11⟩
        have HB11 := Lib.hid hB11
        have HL3 := Lib.hid hl3
        have HR3 := Lib.hid hr3
        have k0 : (convert 22 9 (.slice A3 n3 c3)).run Try.prog w11 = .ok (.string (strOfNums X)) w11 := str_of HR3.out HL3.out
        have k1 : (convert 22 9 (.slice A1 C.length c1)).run Try.prog w11 = .ok (.string (strOfNums C)) w11 := str_of (HB11.out.rd (p := (A1, kcells .u8 C)) (by simp)) rfl
        have k2 : (convert 22 9 (.slice A2 Y0.length c2)).run Try.prog w11 = .ok (.string (strOfNums Y0)) w11 := str_of (HB11.out.rd (p := (A2, kcells .u8 Y0)) (by simp)) rfl
        have HXC := Lib.hid HR.out.xc
        have HXK := Lib.hid HR.out.xk
        have hcase : (T = none ∧ X = C ∧ A2 = none) ∨ (∃ bb oo, T = some Y0 ∧ A2 = some ⟨bb, oo, none⟩ ∧ X = Y0) ∨ (∃ bb oo, T = some Y0 ∧ A2 = some ⟨bb, oo, none⟩ ∧ X ≠ Y0 ∧ X = C) := by
          have hrT : Rd w11 w11.heap.size A2 (kcells .u8 Y0) := HB11.out.rd (p := (A2, kcells .u8 Y0)) (by simp)
          have hsT := HS.out.t
          have hxc := HXC.out
          have hy := HY0.out
          have htn := HTn.out
          clear k0 k1 k2
          cases T with
          | none => exact .inl ⟨rfl, hxc.elim id (fun e => by cases e), (htn rfl).1⟩
          | some Y =>
            have hy : Y = Y0 := hy
            subst hy
            obtain ⟨bb, oo, e, _⟩ := hrT (by
              intro e
              have h1 := kcells_length .u8 Y
              have h2 := (hsT Y rfl).2.1
              rw [e] at h1
              simp at h1
              omega)
            by_cases hXY : X = Y
            · exact .inr (.inl ⟨bb, oo, rfl, e, hXY⟩)
            · refine .inr (.inr ⟨bb, oo, rfl, e, hXY, hxc.elim id (fun e => ?_)⟩)
              injection e with e
              exact absurd e.symm hXY
        have HCS := Lib.hid hcase
        clear hB11 hl3 hr3 hcase
        go_upto_region 25 with (fail)
        go_cut [108] (fun v wx => v = .bool false ∧ wx = w11)
        case first =>
          rcases HCS.out with ⟨hT, hXC, -⟩ | ⟨bb, oo, hT, hA2, hXY⟩ | ⟨bb, oo, hT, hA2, hXY, hXC⟩
          · have hsC := str_beq HXK.out.1 HS.out.c.1
            rw [decide_eq_true hXC] at hsC
            clear hXC hT
            go_wp2_with (fail)
            go_meet
            exact ⟨rfl, rfl⟩
          · have hsC := str_beq HXK.out.1 HS.out.c.1
            have hsY := str_beq HXK.out.1 (HS.out.t Y0 hT).1
            rw [decide_eq_true hXY] at hsY
            clear hXY hT
            subst hA2
            by_cases hXC : X = C
            · rw [decide_eq_true hXC] at hsC
              clear hXC
              go_wp2_with (fail)
              go_meet
              exact ⟨rfl, rfl⟩
            · rw [decide_eq_false hXC] at hsC
              clear hXC
              go_wp2_with (fail)
              go_meet
              exact ⟨rfl, rfl⟩
          · have hsC := str_beq HXK.out.1 HS.out.c.1
            rw [decide_eq_true hXC] at hsC
            clear hXC hXY hT hA2
            go_wp2_with (fail)
            go_meet
            exact ⟨rfl, rfl⟩
        case rest =>
          obtain ⟨rfl, rfl⟩ := hcut
          rcases HR.out.out with ⟨o1, o2⟩ | ⟨o1, o2⟩
          · have HO2 := Lib.hid o2
            have HTL := Lib.hid (fun (W : World) (l2 : List (Option Addr × List Value)) (f2 : Fl) (hb : Bx W0 W d D1 l2 f2 q.1) (ho : BkOk f2 q.1) => hb.trial2 ho o1 (y := savB q.1 2) rfl)
            clear o1 o2
            go_wp2_with (fail)
            (with_reducible refine (HTL.out _ _ _ HB11.out HR.out.J2.ok).mono ?_)
            rintro e w12 ⟨rfl, hB12, hbt⟩
            have HB12 := Lib.hid hB12
            clear hB12 hbt k0 k1 k2
            go_upto_if 115 with (fail)
            go_cut [8, 9] (fun u v wx => ∃ (A4 : Option Addr) (c4 : Nat), u = .slice A4 X.length c4 ∧ v = .slice none 0 0 ∧ Bx W0 wx d D1 [(some ⟨wr.heap.size, 0, none⟩, x.cells), (A4, kcells .u8 X)] q.2.1 q.1)
            case first =>
              have k3 : (convert 22 9 (.slice A2 Y0.length c2)).run Try.prog w12 = .ok (.string (strOfNums Y0)) w12 := str_of (HB12.out.rd (p := (A2, kcells .u8 Y0)) (by simp)) rfl
              rcases HCS.out with ⟨hT, hXC, hA2⟩ | ⟨bb, oo, hT, hA2, hXY⟩ | ⟨bb, oo, hT, hA2, hXY, hXC⟩
              · have HXC2 := Lib.hid hXC
                clear hXC hT
                subst hA2
                go_wp2_with (fail)
                go_meet
                exact ⟨A1, c1, by rw [HXC2.out], rfl, by rw [HXC2.out]; exact HB12.out.less (fun p hp => by simp only [List.mem_cons, List.not_mem_nil, or_false] at hp ⊢; rcases hp with e | e <;> first | exact .inl e | exact .inr (.inl e) | exact .inr (.inr (.inl e)) | exact .inr (.inr e) | exact .inr (.inr (.inr e)))⟩
              · have HXY2 := Lib.hid hXY
                have hsY := str_beq HXK.out.1 (HS.out.t Y0 hT).1
                rw [decide_eq_true hXY] at hsY
                clear hXY hT
                subst hA2
                go_wp2_with (fail)
                go_meet
                exact ⟨some ⟨bb, oo, none⟩, c2, by rw [HXY2.out], rfl, by rw [HXY2.out]; exact HB12.out.less (fun p hp => by simp only [List.mem_cons, List.not_mem_nil, or_false] at hp ⊢; rcases hp with e | e <;> first | exact .inl e | exact .inr (.inl e) | exact .inr (.inr (.inl e)) | exact .inr (.inr e) | exact .inr (.inr (.inr e)))⟩
              · have HXC2 := Lib.hid hXC
                have hsY := str_beq HXK.out.1 (HS.out.t Y0 hT).1
                rw [decide_eq_false hXY] at hsY
                clear hXY hXC hT
                subst hA2
                go_wp2_with (fail)
                go_meet
                exact ⟨A1, c1, by rw [HXC2.out], rfl, by rw [HXC2.out]; exact HB12.out.less (fun p hp => by simp only [List.mem_cons, List.not_mem_nil, or_false] at hp ⊢; rcases hp with e | e <;> first | exact .inl e | exact .inr (.inl e) | exact .inr (.inr (.inl e)) | exact .inr (.inr e) | exact .inr (.inr (.inr e)))⟩
            case rest =>
              obtain ⟨A4, c4, rfl, rfl, hB13⟩ := hcut
              have HB13 := Lib.hid hB13
              obtain ⟨mf, hmf⟩ : ∃ mf, clipI x.f (-1) 60 = mf := ⟨_, rfl⟩
              have HCF := Lib.hid (fun w => clip_any x.f (-1) 60 w)
              rw [hmf] at HCF
              have hmf2 : -1 ≤ mf ∧ mf ≤ 60 := by unfold clipI at hmf; omega
              have HMF := Lib.hid hmf2
              have HFU2 : Hid (∀ W, Bx W0 W d D1 [(some ⟨wr.heap.size, 0, none⟩, x.cells), (A4, kcells .u8 X)] q.2.1 q.1 → Calls Try.prog 39 #[.pointer (some ⟨d, 0, none⟩), .int .i64 mf, .slice x.P x.q x.r] W fun e w' => e = .returned (.tuple #[]) ∧ Bx W0 w' d D1 [(some ⟨wr.heap.size, 0, none⟩, x.cells), (A4, kcells .u8 X)] (fuseF q.2.1 mf x.p) q.1) := fun W hb =>
                hb.fuse mf (by unfold I64; omega) x.P x.q x.r x.p (HPB.out _ hb.below) HXO.out.lp HXO.out.sq HXO.out.bp
              obtain ⟨-, -, d2, d3, -⟩ := HC6.out _ _ _ _ _ hB13 (List.mem_cons_self ..)
              have k0 := And.intro d2 d3
              have k1 : wc.drew.cell? ⟨wr.heap.size, 2, none⟩ = some (.int .i64 x.f) ∧ wc.drew.cell? ⟨wr.heap.size, 3, none⟩ = some (.slice x.P x.q x.r) := k0
              clear hB13 hmf hmf2 k0
              go_wp2_with (fail)
              go_region_held3 (fun w9 => w9.cell? ⟨wr.heap.size, 2, none⟩ = some (.int .i64 x.f) ∧ w9.cell? ⟨wr.heap.size, 3, none⟩ = some (.slice x.P x.q x.r)) (first | exact k1 | exact k5 | exact ⟨d2, d3⟩ | go_keep) (first
                | (go_at_call 12; with_reducible refine (HCF.out _).mono ?_; rintro e w5 ⟨rfl, rfl⟩)
                | (go_at_call 39; with_reducible refine (HFU2.out _ (by first | exact HB13.out | exact HB13.out.later (Below.drew (Below.refl _ _)) | exact HB13.out.later (Below.drewN (Below.refl _ _) _))).mono ?_; rintro e w14 ⟨rfl, hB14⟩; have k6 := HC6.out _ _ _ _ _ hB14 (List.mem_cons_self ..); have k5 := And.intro k6.2.2.1 k6.2.2.2.1)
                )
              have HB14 : Hid (Bx W0 w14 d D1 [(some ⟨wr.heap.size, 0, none⟩, x.cells), (A4, kcells .u8 X)] (fuseF q.2.1 mf x.p) q.1) := hB14
              have HOK14 : Hid (BkOk (fuseF q.2.1 mf x.p) q.1) := (HR.out.J2.fuse HXO.out.bp (by have := HMF.out; omega)).ok
              clear hB14 d2 d3 k1 k5 k6
              go_wp2_with (fail)
              (with_reducible refine (HTL.out _ _ _ (HB14.out.later (by first | exact Below.refl _ _ | exact Below.drew (Below.refl _ _) | exact Below.drewN (Below.refl _ _) _)) HOK14.out).mono ?_)
              rintro e w15 ⟨rfl, hB15, -⟩
              have HB15 := Lib.hid hB15
              obtain ⟨Y9, hY9⟩ : ∃ Y : Nat, clipI x.l 1 ((M : Int) * 64) = Y := ⟨(clipI x.l 1 ((M : Int) * 64)).toNat, by have := HM8.out; unfold clipI; omega⟩
              obtain ⟨V9, hV9⟩ : ∃ v, clipI x.s 1 1073741824 = v := ⟨_, rfl⟩
              obtain ⟨Y, hYc⟩ : ∃ Y, contB x.s Y9 = Y := ⟨_, rfl⟩
              have hM8' := HM8.out
              have hY12 : 1 ≤ Y9 ∧ Y9 ≤ M * 64 := by unfold clipI at hY9; omega
              have hYl : Y.length = Y9 := by rw [← hYc]; exact contB_length _ _
              have hYb : Bytes Y := by rw [← hYc]; exact contB_bytes _ _
              have HYK : Hid (ImOk k P Y) := ⟨hYb, by rw [hYl]; exact hY12.1, by rw [hYl, HM.out]; exact hY12.2⟩
              have HV9 : Hid (1 ≤ V9 ∧ V9 ≤ 1073741824) := by unfold clipI at hV9; rw [Hid]; omega
              have HYL := Lib.hid hYl
              have HY12 := Lib.hid hY12
              have HCY := Lib.hid (fun w => clip_any x.l 1 ((M : Int) * 64) w)
              rw [hY9] at HCY
              have HCV9 := Lib.hid (fun w => clip_any x.s 1 1073741824 w)
              rw [hV9] at HCV9
              have HCX := Lib.hid (fun W => cont_n x.s (Y9 : Int) Y9 (by unfold clipI; omega) W)
              rw [hYc] at HCX
              obtain ⟨z, hz⟩ : ∃ z, installB V9 Y q.1 (fuseF q.2.1 mf x.p) = z := ⟨_, rfl⟩
              have hz3 := HO2.out mf x.p HXO.out.bp (by have := HMF.out; omega) V9 HV9.out Y HYK.out
              rw [hz] at hz3
              have HZ3 := Lib.hid hz3
              have HIN : Hid (∀ W A6, Bx W0 W d D1 ((A6, kcells .u8 Y) :: [(some ⟨wr.heap.size, 0, none⟩, x.cells), (A4, kcells .u8 X)]) (fuseF q.2.1 mf x.p) q.1 → Calls Try.prog 27 #[.pointer (some ⟨D1, 0, none⟩), .int .i64 V9, .slice A6 Y9 Y9] W fun e w' => e = .returned (.bool z.2.2) ∧ Bx W0 w' d D1 ((A6, kcells .u8 Y) :: [(some ⟨wr.heap.size, 0, none⟩, x.cells), (A4, kcells .u8 X)]) z.2.1 z.1) := fun W A6 hB =>
                install_any hB (HR.out.J2.fuse HXO.out.bp (by have := HMF.out; omega)) V9 A6 Y9 Y9 Y (List.mem_cons_self ..) HYL.out (Nat.le_refl _) (by unfold maxLen; have := HY12.out; have := HM8.out; omega) HYK.out.1 (by have := HY12.out; have := HM8.out; omega) (by have := HM'.out; omega) hz
              have HXW2 : Hid (∀ W, Below w15.heap.size w15 W → Calls Try.prog 25 #[.int .i64 x.s, .int .i64 Y9] W fun e w' => ∃ A6, e = .returned (.slice A6 Y9 Y9) ∧ Bx W0 w' d D1 ((A6, kcells .u8 Y) :: [(some ⟨wr.heap.size, 0, none⟩, x.cells), (A4, kcells .u8 X)]) (fuseF q.2.1 mf x.p) q.1 ∧ (w'.cell? ⟨w.heap.size, 0, none⟩ = some (.int .i64 B) ∧ w'.cell? ⟨w.heap.size, 1, none⟩ = some (.int .i64 P) ∧ w'.cell? ⟨wr.heap.size, 0, none⟩ = some (.int .i64 x.s) ∧ w'.cell? ⟨wr.heap.size, 1, none⟩ = some (.int .i64 x.l))) := fun W hb => (HCX.out W).mono (fun e w' ⟨A6, he, ho, hb2⟩ => by
                have h9 := (HB15.out.later hb).add hb2 (by rw [kcells_length]; exact HYL.out) ho
                obtain ⟨z1, z2, -⟩ := HCB.out w' h9.below
                obtain ⟨z3, z4, -⟩ := HC6.out _ _ _ _ _ h9 (by simp)
                exact ⟨A6, he, h9, z1, z2, z3, z4⟩)
              obtain ⟨d0, d1, -⟩ := HCB.out w15 hB15.below
              obtain ⟨d2, d3, -⟩ := HC6.out _ _ _ _ _ hB15 (by simp)
              have k1 : w15.drew.cell? ⟨w.heap.size, 0, none⟩ = some (.int .i64 B) ∧ w15.drew.cell? ⟨w.heap.size, 1, none⟩ = some (.int .i64 P) ∧ w15.drew.cell? ⟨wr.heap.size, 0, none⟩ = some (.int .i64 x.s) ∧ w15.drew.cell? ⟨wr.heap.size, 1, none⟩ = some (.int .i64 x.l) := ⟨d0, d1, d2, d3⟩
              clear hB15 hY9 hV9 hYc hM8' hY12 hYl hYb hz hz3
              go_wp2_with (fail)
              go_region_held3 (fun w9 => w9.cell? ⟨w.heap.size, 0, none⟩ = some (.int .i64 B) ∧ w9.cell? ⟨w.heap.size, 1, none⟩ = some (.int .i64 P) ∧ w9.cell? ⟨wr.heap.size, 0, none⟩ = some (.int .i64 x.s) ∧ w9.cell? ⟨wr.heap.size, 1, none⟩ = some (.int .i64 x.l)) (first | exact k1 | exact k2 | exact ⟨d0, d1, d2, d3⟩ | go_keep) (first
                | (go_at_call 12; (try rw [hWW]); with_reducible refine (HCY.out _).mono ?_; rintro e w5 ⟨rfl, rfl⟩)
                | (go_at_call 25; with_reducible refine (HXW2.out _ (by first | exact Below.drew (Below.refl _ _) | exact Below.refl _ _ | exact Below.drewN (Below.refl _ _) _)).mono ?_; rintro e w16 ⟨A6, rfl, hB16, k2⟩)
                )
              have HB16 := Lib.hid hB16
              obtain ⟨-, -, d4, -⟩ := k2
              clear hB16 d0 d1 d2 d3 k1
              go_wp2_with (fail)
              (with_reducible refine (HCV9.out _).mono ?_)
              rintro e wq ⟨rfl, rfl⟩
              go_wp2_with (fail)
              (with_reducible refine (HIN.out _ _ (HB16.out.later (by first | exact Below.refl _ _ | exact Below.drew (Below.refl _ _) | exact Below.drewN (Below.refl _ _) _))).mono ?_)
              rintro e w17 ⟨rfl, hB17⟩
              have HB17 := Lib.hid hB17
              clear hB17 d4
              cases hz2 : z.2.2 with
              | true =>
                have HTR2 := Lib.hid (HZ3.out.2.2 hz2)
                have HT9 := Lib.hid (HB17.out.trial2 HZ3.out.2.1.ok HTR2.out.1 HTR2.out.2)
                have hr1 := HR.out.r1
                have hne1 : (((1 - run : Nat) : Int) == (run : Int)) = false := by simp; omega
                have hne2 : (((1 - run : Nat) : Int) == 2) = false := by simp; omega
                obtain ⟨r9, hr9⟩ : ∃ r9 : Nat, 1 - run = r9 := ⟨_, rfl⟩
                rw [hr9] at HT9 hne1 hne2
                clear hr9
                go_wp2_with (fail)
                (with_reducible refine HT9.out.mono ?_)
                rintro e w18 ⟨rfl, hB18, -⟩
                have HB18 := Lib.hid hB18
                clear hB18
                go_wp2
                go_roundw
                case rel => exact ⟨j + 1, X, some Y, _, _, D1, _, A4, c4, A6, Y9, by omega, by go_num, rfl, by show _ = Value.slice A6 Y.length Y9; rw [HYL.out], (fun e => by cases e), HB18.out.less (fun p hp => by simp only [List.mem_cons, List.not_mem_nil, or_false] at hp ⊢; rcases hp with e | e <;> first | exact .inl e | exact .inr (.inl e) | exact .inr (.inr (.inl e)) | exact .inr (.inr e) | exact .inr (.inr (.inr e))), HZ3.out.1, by have := HM'.out; push_cast; omega⟩
                case measure => simp [intOf]; omega
              | false =>
                go_wp2
                go_roundw
                case rel => exact ⟨j + 1, X, some Y, _, _, D1, _, A4, c4, A6, Y9, by omega, by go_num, rfl, by show _ = Value.slice A6 Y.length Y9; rw [HYL.out], (fun e => by cases e), HB17.out.less (fun p hp => by simp only [List.mem_cons, List.not_mem_nil, or_false] at hp ⊢; rcases hp with e | e <;> first | exact .inl e | exact .inr (.inl e) | exact .inr (.inr (.inl e)) | exact .inr (.inr e) | exact .inr (.inr (.inr e))), HZ3.out.1, by have := HM'.out; push_cast; omega⟩
                case measure => simp [intOf]; omega
          · have HO2 := Lib.hid o2
            have HTL := Lib.hid (fun (W : World) (l2 : List (Option Addr × List Value)) (f2 : Fl) (hb : Bx W0 W d D1 l2 f2 q.1) (ho : BkOk f2 q.1) => hb.trial2 ho o1 (y := savB q.1 2) rfl)
            have hr1 := HR.out.r1
            have hne2 : ((run : Int) == 2) = false := by simp; omega
            clear o1 o2
            go_wp2_with (fail)
            (with_reducible refine (HTL.out _ _ _ HB11.out HR.out.J2.ok).mono ?_)
            rintro e w12 ⟨rfl, hB12, hbt⟩
            have HB12 := Lib.hid hB12
            clear hbt k0 k1 k2
            obtain ⟨mf, hmf⟩ : ∃ mf, clipI x.f (-1) 60 = mf := ⟨_, rfl⟩
            have HCF := Lib.hid (fun w => clip_any x.f (-1) 60 w)
            rw [hmf] at HCF
            have hmf2 : -1 ≤ mf ∧ mf ≤ 60 := by unfold clipI at hmf; omega
            have HMF := Lib.hid hmf2
            have HFU2 : Hid (∀ W, Bx W0 W d D1 [(some ⟨wr.heap.size, 0, none⟩, x.cells), (A1, kcells .u8 C), (A2, kcells .u8 Y0)] q.2.1 q.1 → Calls Try.prog 39 #[.pointer (some ⟨d, 0, none⟩), .int .i64 mf, .slice x.P x.q x.r] W fun e w' => e = .returned (.tuple #[]) ∧ Bx W0 w' d D1 [(some ⟨wr.heap.size, 0, none⟩, x.cells), (A1, kcells .u8 C), (A2, kcells .u8 Y0)] (fuseF q.2.1 mf x.p) q.1) := fun W hb =>
              hb.fuse mf (by unfold I64; omega) x.P x.q x.r x.p (HPB.out _ hb.below) HXO.out.lp HXO.out.sq HXO.out.bp
            obtain ⟨-, -, d2, d3, -⟩ := HC6.out _ _ _ _ _ hB12 (List.mem_cons_self ..)
            have k0 := And.intro d2 d3
            have k1 : w12.drew.cell? ⟨wr.heap.size, 2, none⟩ = some (.int .i64 x.f) ∧ w12.drew.cell? ⟨wr.heap.size, 3, none⟩ = some (.slice x.P x.q x.r) := k0
            clear hB12 hmf hmf2 k0
            go_wp2_with (fail)
            go_region_held3 (fun w9 => w9.cell? ⟨wr.heap.size, 2, none⟩ = some (.int .i64 x.f) ∧ w9.cell? ⟨wr.heap.size, 3, none⟩ = some (.slice x.P x.q x.r)) (first | exact k1 | exact k5 | exact ⟨d2, d3⟩ | go_keep) (first
              | (go_at_call 12; with_reducible refine (HCF.out _).mono ?_; rintro e w5 ⟨rfl, rfl⟩)
              | (go_at_call 39; with_reducible refine (HFU2.out _ (by first | exact HB12.out | exact HB12.out.later (Below.drew (Below.refl _ _)) | exact HB12.out.later (Below.drewN (Below.refl _ _) _))).mono ?_; rintro e w14 ⟨rfl, hB14⟩; have k6 := HC6.out _ _ _ _ _ hB14 (List.mem_cons_self ..); have k5 := And.intro k6.2.2.1 k6.2.2.2.1)
              )
            have HB14 : Hid (Bx W0 w14 d D1 [(some ⟨wr.heap.size, 0, none⟩, x.cells), (A1, kcells .u8 C), (A2, kcells .u8 Y0)] (fuseF q.2.1 mf x.p) q.1) := hB14
            have HOK14 : Hid (BkOk (fuseF q.2.1 mf x.p) q.1) := (HR.out.J2.fuse HXO.out.bp (by have := HMF.out; omega)).ok
            clear hB14 d2 d3 k1 k5 k6
            go_wp2_with (fail)
            (with_reducible refine (HTL.out _ _ _ (HB14.out.later (by first | exact Below.refl _ _ | exact Below.drew (Below.refl _ _) | exact Below.drewN (Below.refl _ _) _)) HOK14.out).mono ?_)
            rintro e w15 ⟨rfl, hB15, -⟩
            have HB15 := Lib.hid hB15
            obtain ⟨-, -, -, -, d4⟩ := HC6.out _ _ _ _ _ hB15 (by simp)
            clear hB15
            obtain ⟨u1, u2, u3, u4⟩ := HO2.out mf x.p HXO.out.bp (by have := HMF.out; omega)
            have HU1 := Lib.hid u1
            have HU34 := Lib.hid (And.intro u3 u4)
            by_cases hx0 : 0 < x.b
            case neg =>
              clear u1 u2 u3 u4
              go_wp2
              go_roundw
              case rel => exact ⟨j + 1, C, T, _, _, D1, _, A1, c1, A2, c2, by omega, by go_num, rfl, by rw [HY0.out], HTn.out, by rw [HY0.out]; exact HB15.out.less (fun p hp => by simp only [List.mem_cons, List.not_mem_nil, or_false] at hp ⊢; rcases hp with e | e <;> first | exact .inl e | exact .inr (.inl e) | exact .inr (.inr (.inl e)) | exact .inr (.inr e) | exact .inr (.inr (.inr e))), HU1.out, by have := HM'.out; push_cast; omega⟩
              case measure => simp [intOf]; omega
            obtain ⟨qc, hqc⟩ : ∃ qc, confirmB q.1 (fuseF q.2.1 mf x.p) = qc := ⟨_, rfl⟩
            have hJf := HR.out.J2.fuse (m := mf) (p := x.p) HXO.out.bp (by have := HMF.out; omega)
            have hJc := confirmB_J hJf
            rw [hqc] at u2 HU34 hJc
            obtain ⟨qs, hqs⟩ : ∃ qs, stepsB 40 qc.1 (fuseF q.2.1 mf x.p) = qs := ⟨_, rfl⟩
            rw [hqs] at HU34
            have HCN := Lib.hid (HB15.out.confirm hJf (by have := HM'.out; omega) hqc)
            rw [u2, errV_zero] at HCN
            have HSS : Hid (∀ W, Bx W0 W d D1 [(some ⟨wr.heap.size, 0, none⟩, x.cells), (A1, kcells .u8 C), (A2, kcells .u8 Y0)] (fuseF q.2.1 mf x.p) qc.1 → Calls Try.prog 31 #[.pointer (some ⟨D1, 0, none⟩)] W fun e w' => e = .returned (.bool qs.2.2) ∧ Bx W0 w' d D1 [(some ⟨wr.heap.size, 0, none⟩, x.cells), (A1, kcells .u8 C), (A2, kcells .u8 Y0)] qs.2.1 qs.1) := fun W hB => steps_any hB hJc hqs
            clear u1 u2 u3 u4 hqc hqs hJf hJc
            go_wp2_with (fail)
            (with_reducible refine HCN.out.mono ?_)
            rintro e w16 ⟨rfl, hB16⟩
            have HB16 := Lib.hid hB16
            clear hB16 d4
            go_wp2_with (fail)
            (with_reducible refine (HSS.out _ HB16.out).mono ?_)
            rintro e w17 ⟨rfl, hB17⟩
            have HB17 := Lib.hid hB17
            clear hB17
            obtain ⟨c9, w18, k9, -, -, hB18⟩ := HB17.out.str HXK.out.1 (by have h1 := HXK.out.2.2; have h2 := HM.out; have h3 := HM8.out; rw [h2] at h1; omega)
            have HB18 := Lib.hid hB18
            clear hB18
            cases hz2 : qs.2.2 with
            | true =>
              go_wp2
              go_roundw
              case rel => exact ⟨j + 1, X, none, _, _, D1, _, some ⟨w17.heap.size, 0, none⟩, c9, none, 0, by omega, by go_num, rfl, rfl, fun _ => ⟨rfl, rfl⟩, HB18.out.nil_add.less (fun p hp => by simp only [List.mem_cons, List.not_mem_nil, or_false] at hp ⊢; rcases hp with e | e <;> first | exact .inl e | exact .inr (.inl e) | exact .inr (.inr (.inl e)) | exact .inr (.inr e) | exact .inr (.inr (.inr e))), HU34.out.1 hz2, by have := HM'.out; push_cast; omega⟩
              case measure => simp [intOf]; omega
            | false =>
              go_wp2
              go_roundw
              case rel => exact ⟨j + 1, C, some X, _, _, D1, _, A1, c1, some ⟨w17.heap.size, 0, none⟩, c9, by omega, by go_num, rfl, rfl, (fun e => by cases e), HB18.out.less (fun p hp => by simp only [List.mem_cons, List.not_mem_nil, or_false] at hp ⊢; rcases hp with e | e <;> first | exact .inl e | exact .inr (.inl e) | exact .inr (.inr (.inl e)) | exact .inr (.inr e) | exact .inr (.inr (.inr e))), HU34.out.2 hz2, by have := HM'.out; push_cast; omega⟩
              case measure => simp [intOf]; omega
    · have hjn2 : j = n := by omega
      subst hjn2
      have HB := Lib.hid hB
      clear hB hS hm hTn
      go_wp2
      go_ret
      exact ⟨rfl, HFB.out _ HB.out.below⟩
end Go.Proofs.Ytjdknddnanopaaa
