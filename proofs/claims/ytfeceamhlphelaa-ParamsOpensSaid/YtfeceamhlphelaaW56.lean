/-
  ParamsSurvives.
-/
import Derived.Test.YtfeceamhlphelaaW55
import Derived.Deep.DeepCutAuto
import Derived.Deep.CutBlock
namespace Go.Proofs.Ytfeceamhlphelaa
open Go.RowKit
set_option linter.unusedVariables false

/-- Four cells. -/
def four (w : World) (B : Nat) (a b c d : Value) : Prop :=
  w.cell? ⟨B, 0, none⟩ = some a ∧ w.cell? ⟨B, 1, none⟩ = some b ∧ w.cell? ⟨B, 2, none⟩ = some c ∧ w.cell? ⟨B, 3, none⟩ = some d ∧ ∀ j, w.frozen? ⟨B, j, none⟩ = false
theorem set_far4 (w : World) (p q : Addr) (u : Value) (h : p ≠ q) : (w.setCell p u).cell? q = w.cell? q := World.cell?_setCell_other _ _ _ _ h
theorem four_new (w : World) (a b c d : Value) (t : TypeId) (B : Nat) (hB : B = w.heap.size) : four (w.alloc (.cells #[a, b, c, d] t)) B a b c d := by
  subst hB
  exact ⟨cell_new_at _ _ _ _ _ _ rfl rfl, cell_new_at _ _ _ _ _ _ rfl rfl, cell_new_at _ _ _ _ _ _ rfl rfl, cell_new_at _ _ _ _ _ _ rfl rfl, fun j => frozen_row (heap_new w _ t)⟩
theorem four.lt {w : World} {B : Nat} {a b c d : Value} (h : four w B a b c d) : B < w.heap.size := World.block_lt_of_cell? w _ h.1
theorem four.below {w w' : World} {B N : Nat} {a b c d : Value} (h : four w B a b c d) (hb : Below N w w') (hB : B < N) : four w' B a b c d :=
  ⟨(hb.cell (p := ⟨B, 0, none⟩) hB).trans h.1, (hb.cell (p := ⟨B, 1, none⟩) hB).trans h.2.1, (hb.cell (p := ⟨B, 2, none⟩) hB).trans h.2.2.1, (hb.cell (p := ⟨B, 3, none⟩) hB).trans h.2.2.2.1, fun j => (hb.frozen (p := ⟨B, j, none⟩) hB).trans (h.2.2.2.2 j)⟩
def put4 (w : World) (B : Nat) (a b c d : Value) : World := (((w.setCell ⟨B, 0, none⟩ a).setCell ⟨B, 1, none⟩ b).setCell ⟨B, 2, none⟩ c).setCell ⟨B, 3, none⟩ d
theorem four.put {w : World} {B : Nat} {a b c d : Value} (h : four w B a b c d) (a' b' c' d' : Value) : four (put4 w B a' b' c' d') B a' b' c' d' := by
  obtain ⟨h0, h1, h2, h3, hf⟩ := h
  unfold put4
  refine ⟨?_, ?_, ?_, ?_, fun j => by rw [World.frozen?_setCell, World.frozen?_setCell, World.frozen?_setCell, World.frozen?_setCell]; exact hf j⟩
  · rw [set_far4 _ _ _ _ (by simp), set_far4 _ _ _ _ (by simp), set_far4 _ _ _ _ (by simp)]
    exact World.cell?_setCell_same _ _ _ h0
  · rw [set_far4 _ _ _ _ (by simp), set_far4 _ _ _ _ (by simp)]
    exact World.cell?_setCell_same _ _ _ ((set_far4 _ _ _ _ (by simp)).trans h1)
  · rw [set_far4 _ _ _ _ (by simp)]
    exact World.cell?_setCell_same _ _ _ ((set_far4 _ _ _ _ (by simp)).trans ((set_far4 _ _ _ _ (by simp)).trans h2))
  · exact World.cell?_setCell_same _ _ _ ((set_far4 _ _ _ _ (by simp)).trans ((set_far4 _ _ _ _ (by simp)).trans ((set_far4 _ _ _ _ (by simp)).trans h3)))
theorem below_put4 {N : Nat} {w0 w : World} (h : Below N w0 w) {C : Nat} (hC : N ≤ C) (a' b' c' d' : Value) : Below N w0 (put4 w C a' b' c' d') :=
  (((h.setCell (p := ⟨C, 0, none⟩) hC _).setCell (p := ⟨C, 1, none⟩) hC _).setCell (p := ⟨C, 2, none⟩) hC _).setCell (p := ⟨C, 3, none⟩) hC _

/-- A slice of values. -/
def SlV (X : Nat → Prop) (w : World) (N : Nat) (l : List Int) (v : Value) : Prop :=
  ∃ A c, v = .slice A N c ∧ l.length = N ∧ N ≤ c ∧ c ≤ maxLen ∧ RdX X w A (icells l)
theorem SlV.onlyX {X : Nat → Prop} {w w' : World} {N : Nat} {l : List Int} {v : Value} (h : SlV X w N l v) (k : OnlyX X w w') : SlV X w' N l v := by
  obtain ⟨A, c, h1, h2, h3, h4, h5⟩ := h
  exact ⟨A, c, h1, h2, h3, h4, h5.onlyX k⟩
theorem SlV.newX {X Y : Nat → Prop} {w : World} {N : Nat} {l : List Int} {v : Value} (h : SlV X w N l v) (hY : ∀ b, b < w.heap.size → Y b → X b) : SlV Y w N l v := by
  obtain ⟨A, c, h1, h2, h3, h4, h5⟩ := h
  exact ⟨A, c, h1, h2, h3, h4, h5.newX hY⟩
theorem SlV.own {X : Nat → Prop} {w w0 : World} {N e : Nat} {l : List Int} {v : Value} (h : w.ownsRow w0.heap.size e 1 v N (icells l)) (hl : l.length = N) (hX : ∀ b, X b → b < w0.heap.size) : SlV X w N l v := by
  obtain ⟨A, c, rfl, h1, h2, h3⟩ := own_form h
  exact ⟨A, c, rfl, hl, h1, h2, own_rdx h (fun b hb hx => by have := (h.lt b hb).1; have := hX b hx; omega)⟩
theorem SlV.rdx {X : Nat → Prop} {w : World} {N c : Nat} {A : Option Addr} {l : List Int} (h : SlV X w N l (.slice A N c)) : RdX X w A (icells l) := by
  obtain ⟨A', c', e, _, _, _, h5⟩ := h
  injection e with e1 _ _
  rw [e1]
  exact h5
/-- Values, or none. -/
def WrV (X : Nat → Prop) (w : World) (N : Nat) (o : Option (List Int)) (v : Value) : Prop :=
  match o with
  | none => v = .slice none 0 0
  | some l => SlV X w N l v
theorem WrV.onlyX {X : Nat → Prop} {w w' : World} {N : Nat} {o : Option (List Int)} {v : Value} (h : WrV X w N o v) (k : OnlyX X w w') : WrV X w' N o v := by
  cases o with
  | none => exact h
  | some l => exact SlV.onlyX h k
theorem WrV.newX {X Y : Nat → Prop} {w : World} {N : Nat} {o : Option (List Int)} {v : Value} (h : WrV X w N o v) (hY : ∀ b, b < w.heap.size → Y b → X b) : WrV Y w N o v := by
  cases o with
  | none => exact h
  | some l => exact SlV.newX h hY
theorem SlV.some {X : Nat → Prop} {w : World} {N : Nat} {l : List Int} {v : Value} (h : SlV X w N l v) (h1 : 1 ≤ N) : ∃ b o c, v = .slice (some ⟨b, o, none⟩) N c := by
  obtain ⟨A, c, e, h2, h3, h4, h5⟩ := h
  obtain ⟨b, off, e', _⟩ := h5 (by intro e; have := icells_length l; rw [e] at this; simp at this; omega)
  exact ⟨b, off, c, by rw [e, e']⟩

/-- What the walk keeps of a store, and of the two slices beside it. -/
def SvI (w0 w : World) (L0 : Lc) (F C N : Nat) (p a b : Value) : Prop :=
  ∃ Ap cp S f s v o, p = .pointer (some ⟨S.D, 0, none⟩) ∧ StAt w0 w { L0 with Ap := Ap, cp := cp } S f s ∧ Surv f s v o ∧ s.spec = sureP N ∧ s.first = F ∧ s.blocks = C ∧ SlV (Own L0 S) w N v a ∧ WrV (Own L0 S) w N o b

/-- A new flash has no store of this shape only if the record is too long. -/
theorem open_long {B P F C N : Nat} (hB : 2 ≤ B) (hC : 2 ≤ C) (hFC : F + C ≤ B) (hB6 : B ≤ 6) (hN : 1 ≤ N) (hN20 : N ≤ 20) (h : openE (newF B P) F C (sureP N) ≠ 0) : openE (newF B P) F C (sureP N) = 11 := by
  have hw : (newF B P).wear.length = B := by unfold newF; simp
  have hl : (sureP N).length = N := by unfold sureP; simp
  revert h
  unfold openE
  have hb : ((sureP N).any fun p => decide (p.df < p.lo ∨ p.hi < p.df)) = false := sureP_bad N
  rw [if_neg (by unfold newF; simp), hw, hl, hb]
  repeat' split
  all_goals first
    | (intro h; rfl)
    | (intro h; exact absurd rfl h)
    | (intro h; exfalso; omega)
    | (intro h; exfalso; simp_all; done)
    | (intro h; exfalso; simp_all; omega)

theorem ev_more {x : Ev} {w : World} {B0 B1 : Nat} (h : x.ok w B0) (hB : B0 ≤ B1) : x.ok w B1 :=
  ⟨h.rp.more hB, h.lp, h.mp, h.cp, h.bp, h.sq, h.k0, h.k1, h.a0, h.b0⟩
set_option maxRecDepth 100000 in
theorem surv_long (b p f c n : Int) (A : Option Addr) (m z : Nat) (l : List Ev) (w : World) (hA : Rd w w.heap.size A (ecells l)) (hm : l.length = m) (hmz : m ≤ z) (hzm : z ≤ maxLen) (hok : ∀ x ∈ l, x.ok w w.heap.size) (hl : largeE l = true) :
    Calls Try.prog 17 #[.agg #[.int .i64 b, .int .i64 p, .int .i64 f, .int .i64 c], .int .i64 n, .slice A m z] w fun e w' => e = .returned (.bool true) ∧ Below w.heap.size w w' := by
  have HA := Lib.hid hA
  have HM := Lib.hid hm
  have HOK := Lib.hid hok
  have HL := Lib.hid hl
  obtain ⟨V, hV⟩ : ∃ V, w.alloc (.cells #[.int .i64 b, .int .i64 p, .int .i64 f, .int .i64 c] 82) = V := ⟨_, rfl⟩
  have HBV : Hid (Below w.heap.size w V) := by rw [← hV]; exact (Below.refl _ _).alloc (Nat.le_refl _) _
  clear hA hm hok hl
  have hzm' := hzm
  unfold maxLen at hzm
  go_enter Try.func17, Try.ntmps17
  go_wp2_with (fail)
  try rw [hV]
  clear hV
  (with_reducible refine (awake51_any V).mono ?_)
  rintro e w1 ⟨rfl, hb⟩
  have HB1 : Hid (Below w.heap.size w w1) := HBV.out.trans (hb.mono HBV.out.size)
  clear hb
  go_wp2_with (fail)
  (with_reducible refine (large51_any A m z l w1 ((HA.out.below HB1.out (Nat.le_refl _)).more HB1.out.size) HM.out hmz hzm' (fun x hx => ev_more ((HOK.out x hx).below HB1.out (Nat.le_refl _)) HB1.out.size)).mono ?_)
  rintro e w2 ⟨rfl, hb⟩
  rw [HL.out]
  have HB2 : Hid (Below w.heap.size w w2) := HB1.out.trans (hb.mono HB1.out.size)
  clear hb
  go_wp2_with (fail)
  (with_reducible refine (awake51_any w2).mono ?_)
  rintro e w3 ⟨rfl, hb⟩
  have HB3 : Hid (Below w.heap.size w w3) := HB2.out.trans (hb.mono HB2.out.size)
  clear hb
  go_wp2
  go_ret
  exact ⟨rfl, HB3.out⟩

set_option maxRecDepth 100000 in
set_option maxHeartbeats 16000000 in
theorem surv_main (b p f c n : Int) (A : Option Addr) (m z : Nat) (l : List Ev) (w : World) (hA : Rd w w.heap.size A (ecells l)) (hm : l.length = m) (hmz : m ≤ z) (hzm : z ≤ maxLen) (hok : ∀ x ∈ l, x.ok w w.heap.size) (hl : largeE l = false) :
    Calls Try.prog 17 #[.agg #[.int .i64 b, .int .i64 p, .int .i64 f, .int .i64 c], .int .i64 n, .slice A m z] w fun e w' => e = .returned (.bool true) ∧ Below w.heap.size w w' := by
  have g1 := ne_nil
  have g2 := ne_err
  have g3 := eq_nil
  have g4 := eq_err
  have h200 : m ≤ 200 := by
    unfold largeE at hl
    rw [decide_eq_false_iff_not] at hl
    omega
  have HA := Lib.hid hA
  have HM := Lib.hid hm
  have HOK := Lib.hid hok
  have HL := Lib.hid hl
  obtain ⟨P, hP⟩ : ∃ K : Nat, clipI p 1 8 = K := ⟨(clipI p 1 8).toNat, by unfold clipI; omega⟩
  obtain ⟨B, hB⟩ : ∃ K : Nat, clipI b 2 6 = K := ⟨(clipI b 2 6).toNat, by unfold clipI; omega⟩
  obtain ⟨F, hF⟩ : ∃ K : Nat, clipI f 0 ((B : Int) - 2) = K := ⟨(clipI f 0 ((B : Int) - 2)).toNat, by unfold clipI; unfold clipI at hB; omega⟩
  obtain ⟨C, hC⟩ : ∃ K : Nat, clipI c 2 ((B : Int) - (F : Int)) = K := ⟨(clipI c 2 ((B : Int) - (F : Int))).toNat, by unfold clipI; unfold clipI at hB hF; omega⟩
  obtain ⟨N, hN⟩ : ∃ K : Nat, clipI n 1 20 = K := ⟨(clipI n 1 20).toNat, by unfold clipI; omega⟩
  have hB26 : 2 ≤ B ∧ B ≤ 6 := by unfold clipI at hB; omega
  have hP18 : 1 ≤ P ∧ P ≤ 8 := by unfold clipI at hP; omega
  have hFC : 2 ≤ C ∧ F + C ≤ B := by unfold clipI at hF hC; omega
  have hN20 : 1 ≤ N ∧ N ≤ 20 := by unfold clipI at hN; omega
  have HP := Lib.hid hP
  have HBB := Lib.hid hB
  have HF := Lib.hid hF
  have HC := Lib.hid hC
  have HN := Lib.hid hN
  obtain ⟨V, hV⟩ : ∃ V, w.alloc (.cells #[.int .i64 b, .int .i64 p, .int .i64 f, .int .i64 c] 82) = V := ⟨_, rfl⟩
  have HBV : Hid (Below w.heap.size w V) := by rw [← hV]; exact (Below.refl _ _).alloc (Nat.le_refl _) _
  have HCV : Hid (four V w.heap.size (.int .i64 b) (.int .i64 p) (.int .i64 f) (.int .i64 c)) := by rw [← hV]; exact four_new _ _ _ _ _ _ _ rfl
  have hgV : w.heap.size < V.heap.size := HCV.out.lt
  clear hA hm hok hl hP hB hF hC hN
  have hzm' := hzm
  unfold maxLen at hzm
  go_enter Try.func17, Try.ntmps17
  go_wp2_with (fail)
  try rw [hV]
  clear hV
  (with_reducible refine (awake51_any V).mono ?_)
  rintro e w1 ⟨rfl, hb⟩
  have HB1 : Hid (Below w.heap.size w w1) := HBV.out.trans (hb.mono HBV.out.size)
  have HC1 := Lib.hid (HCV.out.below hb hgV)
  have hg1 := HC1.out.lt
  clear hb hgV
  go_wp2_with (fail)
  (with_reducible refine (large51_any A m z l w1 ((HA.out.below HB1.out (Nat.le_refl _)).more HB1.out.size) HM.out hmz hzm' (fun x hx => ev_more ((HOK.out x hx).below HB1.out (Nat.le_refl _)) HB1.out.size)).mono ?_)
  rintro e w2 ⟨rfl, hb⟩
  rw [HL.out]
  have HB2 : Hid (Below w.heap.size w w2) := HB1.out.trans (hb.mono HB1.out.size)
  have HC2 := Lib.hid (HC1.out.below hb hg1)
  have hg2 := HC2.out.lt
  obtain ⟨d0, d1, d2, d3, _⟩ := HC2.out
  clear hb hg1
  go_wp2_with (fail)
  clear d0 d1 d2 d3
  (with_reducible refine (fit_any b p f c B P F C HP.out HBB.out HF.out HC.out w2).mono ?_)
  rintro e w3 ⟨rfl, hb⟩
  have HB3 : Hid (Below w.heap.size w w3) := HB2.out.trans (hb.mono HB2.out.size)
  have HC3 := Lib.hid (HC2.out.below hb hg2)
  have hg3 := HC3.out.lt
  obtain ⟨V3, hV3⟩ : ∃ V, put4 w3 w.heap.size (.int .i64 B) (.int .i64 P) (.int .i64 F) (.int .i64 C) = V := ⟨_, rfl⟩
  have HBV3 : Hid (Below w.heap.size w V3) := by rw [← hV3]; exact below_put4 HB3.out (Nat.le_refl _) _ _ _ _
  have HCV3 : Hid (four V3 w.heap.size (.int .i64 B) (.int .i64 P) (.int .i64 F) (.int .i64 C)) := by rw [← hV3]; exact HC3.out.put _ _ _ _
  have hgV3 := HCV3.out.lt
  unfold put4 at hV3
  obtain ⟨d0, d1, d2, d3, dz⟩ := HC3.out
  have e0 := dz 0
  have e1 := dz 1
  have e2 := dz 2
  have e3 := dz 3
  clear hb hg2 dz
  go_wp2_with (fail)
  clear d0 d1 d2 d3 e0 e1 e2 e3
  try rw [hV3]
  clear hV3
  (with_reducible refine (sure_any n N HN.out V3).mono ?_)
  rintro e w4 ⟨A4, c4, rfl, ho, hb⟩
  have HB4 : Hid (Below w.heap.size w w4) := HBV3.out.trans (hb.mono HBV3.out.size)
  have HC4 := Lib.hid (HCV3.out.below hb hgV3)
  have hg4 := HC4.out.lt
  have HSP : Hid (Rd w4 w4.heap.size A4 (pcells (sureP N)) ∧ N ≤ c4 ∧ c4 ≤ maxLen) := by
    obtain ⟨A', c', e, h1, h2, h3⟩ := own_read ho
    injection e with e1 e2 e3
    subst e1
    subst e3
    exact ⟨h3, h1, h2⟩
  have hspm : c4 ≤ 9223372036854775807 := by have := HSP.out.2.2; unfold maxLen at this; omega
  have hspn : N ≤ c4 := HSP.out.2.1
  obtain ⟨d0, d1, d2, d3, _⟩ := HC4.out
  clear hb hgV3 ho
  go_wp2_with (fail)
  clear d0 d1 d2 d3
  (with_reducible refine (new_ok B P w4 (by omega) (by omega) (by omega) (by omega)).mono ?_)
  rintro e w5 ⟨L, rfl, hF⟩
  have HFL := Lib.hid hF
  have HBL5 : Hid (Below w.heap.size w w5) := HB4.out.trans (hF.below.mono HB4.out.size)
  have hLD : w4.heap.size ≤ L.d := hF.bd
  have HC5 := Lib.hid (HC4.out.below hF.below hg4)
  obtain ⟨d0, d1, d2, d3, _⟩ := HC5.out
  have HSPL : Hid ((sureP N).length = N) := by unfold sureP; simp [Hid]
  clear hF
  by_cases hoe : openE (newF B P) F C (sureP N) = 0
  · go_wp2_with (fail)
    clear d0 d1 d2 d3
    (with_reducible refine (open_yes HFL.out F C A4 N c4 (sureP N) ((HSP.out.1.below HFL.out.below (Nat.le_refl _)).more HFL.out.below.size) HSPL.out HSP.out.2.1 HSP.out.2.2 (sureP_ok N) hoe).mono ?_)
    rintro e w6 ⟨S, rfl, hS, hb6, hD6, hG6⟩
    obtain ⟨hsv, _, hsd, _, _, _, _, hs1, hs2, hs3⟩ := Surv.first (f := newF B P) (fi := F) (bl := C) (sp := sureP N) (newF_ok (by omega) (by omega) (by omega) (by omega)) (fun x hx => newF_blank (by simpa [newF] using hx)) (sureP_ok N) hoe
    have HS6 := Lib.hid hS
    have HO6 := Lib.hid hsv.ok
    have HSV6 := Lib.hid hsv
    have HSE6 := Lib.hid (And.intro hs1 (And.intro hs2 hs3))
    clear hS hb6 hD6 hG6 hsv hsd hs1 hs2 hs3
    go_wp2_with (fail)
    (with_reducible refine (saved_any HS6.out HO6.out).mono ?_)
    rintro e w7 ⟨v7, rfl, ho, hb⟩
    have HI7 : Hid (SvI w4 w7 L F C N (.pointer (some ⟨S.D, 0, none⟩)) v7 (.slice none 0 0)) := by
      have hn : (openF (newF B P) F C (sureP N)).spec.length = N := by rw [HSE6.out.1]; exact HSPL.out
      rw [hn] at ho
      refine ⟨L.Ap, L.cp, S, _, _, _, none, rfl, HS6.out.later hb, HSV6.out, HSE6.out.1, HSE6.out.2.1, HSE6.out.2.2, ?_, rfl⟩
      rw [← HSV6.out.1]
      exact SlV.own ho (HO6.out.sl.trans hn) HS6.out.own_lt
    clear ho hb
    go_wp2
    go_loopw [10, 11, 12, 64] (fun p a b i wr => ∃ k : Nat, k ≤ m ∧ i = .int .i64 k ∧ SvI w4 wr L F C N p a b) (fun _ _ _ i _ => m - (intOf i).toNat)
    case atStart => exact ⟨0, by omega, rfl, HI7.out⟩
    case round =>
      obtain ⟨k, hk, rfl, Ap, cp, S8, f8, s8, v8, o8, rfl, hS, hV, hsp, hfi, hbl, hsl, hwr⟩ := hrel
      obtain ⟨wa, hwa⟩ : ∃ wa, wa = wr := ⟨_, rfl⟩
      subst hwa
      have HS8 := Lib.hid hS
      have HSV8 := Lib.hid hV
      have HSE8 := Lib.hid (And.intro hsp (And.intro hfi hbl))
      have HSL8 := Lib.hid hsl
      have HWR8 := Lib.hid hwr
      have HBr : Hid (Below w4.heap.size w4 wa) := hS.fl.below
      have HBw : Hid (Below w.heap.size w wa) := HB4.out.trans (HBr.out.mono HB4.out.size)
      clear hS hV hsp hfi hbl hsl hwr
      by_cases hlt : k < m
      · obtain ⟨x, hx⟩ := getElem?_of_lt (l := l) (k := k) (by rw [HM.out]; exact hlt)
        have HXO := Lib.hid (HOK.out x (List.mem_of_getElem? hx))
        obtain ⟨ba, off, rfl, hbl', c0, c1, c2, c3⟩ := (HA.out.below HBw.out (Nat.le_refl _)).ev hx
        obtain ⟨W, hW⟩ : ∃ V, wa.alloc (.cells #[.int .u8 x.k, .int .i64 x.a, .int .i64 x.b, .slice x.P x.q x.r] 92) = V := ⟨_, rfl⟩
        have HBW : Hid (Below wa.heap.size wa W) := by rw [← hW]; exact (Below.refl _ _).alloc (Nat.le_refl _) _
        have HCW : Hid (four W wa.heap.size (.int .u8 x.k) (.int .i64 x.a) (.int .i64 x.b) (.slice x.P x.q x.r)) := by rw [← hW]; exact four_new _ _ _ _ _ _ _ rfl
        have hgW := HCW.out.lt
        have HSW := Lib.hid (HS8.out.later HBW.out)
        have hSL8 : s8.staged.length = N := by rw [HSV8.out.ok.tl, HSE8.out.1]; exact HSPL.out
        have HSLN := Lib.hid hSL8
        obtain ⟨i3, hi3, hz30, hz31, hz32⟩ := info_parts info3
        clear hx hSL8
        go_wp2_with (fail)
        try rw [hW]
        clear hW c0 c1 c2 c3
        go_loopw [15, 70] (fun v i wx => ∃ j : Nat, j ≤ N ∧ i = .int .i64 j ∧ wx.ownsRow W.heap.size 3 1 v j (icells (s8.staged.take j)) ∧ Below W.heap.size W wx) (fun _ i _ => N - (intOf i).toNat)
        case atStart => exact ⟨0, Nat.zero_le _, rfl, World.ownsRow_nil _ _ _ _, Below.refl _ _⟩
        case round =>
          obtain ⟨j, hj, rfl, hO, hBj⟩ := hrel
          have HO := Lib.hid hO
          have HBj := Lib.hid hBj
          clear hO hBj
          by_cases hltj : j < N
          · obtain ⟨y, hy⟩ := getElem?_of_lt (l := s8.staged) (k := j) (by rw [HSLN.out]; exact hltj)
            have HG := Lib.hid (get_any (HSW.out.later HBj.out) HSV8.out.ok j)
            have hgf : getF s8 j = (y, 0) := by
              unfold getF
              have hn : s8.spec.length = N := by rw [HSE8.out.1]; exact HSPL.out
              rw [if_neg (by omega), Int.toNat_natCast, hy]
              rfl
            rw [hgf] at HG
            have HTK : Hid (s8.staged.take (j + 1) = s8.staged.take j ++ [y]) := take_snoc_get _ j y hy
            simp only [errV_zero] at HG
            clear hy hgf
            go_wp2_with (fail)
            (with_reducible refine HG.out.mono ?_)
            rintro e w9 ⟨rfl, rfl⟩
            go_wp2_with (at_builtin; refine wpList_append_own _ rfl _ _ 44 rfl W.heap.size 3 i3 (.int .i64 0) 1 8 Try.underlying44 hi3 hz30 hz31 hz32 rfl (by omega) _ _ _ rfl (own_below HO.out ((Below.refl _ _).alloc (Nat.le_refl _) _)) ⟨wr.heap.size, 0, none⟩ 1 1 [.int .i64 y] rfl rfl (cell_one_new _ _ _) (by simp [Value.oneCell']) (by unfold maxLen; omega) (by omega) (by have := HBj.out.size; simp; omega) ?_)
            intro v' w8 hown8 hgrow8 _
            have HO8 : Hid (w8.ownsRow W.heap.size 3 1 v' (j + 1) (icells (s8.staged.take (j + 1)))) := by
              rw [Hid, HTK.out, icells, List.map_append]
              exact hown8
            have HB8 : Hid (Below W.heap.size W w8) := (HBj.out.alloc HBj.out.size _).grown hgrow8 (by have := HBj.out.size; simp; omega) (fun k hk => (HO.out.lt k hk).1)
            clear hown8 hgrow8
            go_wp2
            go_roundw
            case rel => exact ⟨j + 1, by omega, by go_num, HO8.out, HB8.out⟩
            case measure => simp [intOf]; omega
          · obtain rfl : N = j := by omega
            have HST : Hid (SlV (Own L S8) wr N s8.staged u15) := by
              have h := HO.out
              rw [List.take_of_length_le (by rw [HSLN.out]; exact Nat.le_refl _)] at h
              exact SlV.own h HSLN.out HSW.out.own_lt
            have HSr := Lib.hid (HSW.out.later HBj.out)
            have HOX : Hid (OnlyX (Own L S8) wa wr) := (OnlyX.of_below HBW.out).trans (OnlyX.of_below HBj.out)
            have HSLr := Lib.hid (HSL8.out.onlyX HOX.out)
            have HWRr := Lib.hid (HWR8.out.onlyX HOX.out)
            have HCr := Lib.hid (HCW.out.below HBj.out hgW)
            have hk0 := HXO.out.k0
            have hk1 := HXO.out.k1
            obtain ⟨M, hM0⟩ : ∃ M, x.k % 12 = M := ⟨_, rfl⟩
            have hM1 : x.k.tmod 12 = M := by rw [Int.tmod_eq_emod_of_nonneg hk0]; exact hM0
            have hM : M = 0 ∨ M = 1 ∨ M = 2 ∨ M = 3 ∨ M = 4 ∨ M = 5 ∨ M = 6 ∨ M = 7 ∨ M = 8 ∨ M = 9 ∨ M = 10 ∨ M = 11 := by omega
            have HMM := Lib.hid hM
            obtain ⟨d0, _, _, _, _⟩ := HCr.out
            clear hM HO HBj HSW HSL8 HWR8 HCW
            go_upto_block 4 with (fail)
            clear d0
            go_cut [10, 11, 12] (fun p a b wx => SvI w4 wx L F C N p a b)
            case first =>
              have hsame := fun (t : St) (h : Same s8 t) => (And.intro (h.spec.trans HSE8.out.1) (And.intro (h.first.trans HSE8.out.2.1) (h.blocks.trans HSE8.out.2.2)) : t.spec = sureP N ∧ t.first = F ∧ t.blocks = C)
              have HSAME := Lib.hid hsame
              have HXO4 : Hid (x.ok wr wr.heap.size) := ev_more (HXO.out.below (HB4.out.trans (HSr.out.fl.below.mono HB4.out.size)) (Nat.le_refl _)) (HB4.out.trans (HSr.out.fl.below.mono HB4.out.size)).size
              obtain ⟨d0, d1, d2, d3, _⟩ := HCr.out
              clear hsame hk0 hk1
              by_cases hM4 : M < 4
              · focus
                  focus
                    have HSET := Lib.hid (set_any (HSr.out.later (Below.drew (Below.refl _ _))) HSV8.out.ok (clipI x.a 0 ((N : Int) - 1)) x.b)
                    have HCL := Lib.hid (fun w => clip_any x.a 0 ((N : Int) - 1) w)
                    have hNI : (1 : Int) ≤ N := by omega
                    have hN1 : 1 ≤ N := hN20.1
                    have hN2 : N ≤ 20 := hN20.2
                    have hNW : IntKind.i64.wrap ((N : Int) - 1) = (N : Int) - 1 := wrap_i64_small _ (by omega) (by omega)
                    have HM4 : Hid (M = 0 ∨ M = 1 ∨ M = 2 ∨ M = 3) := by have := HMM.out; rw [Hid]; omega
                    clear hM4
                    go_upto_if 125 with (fail)
                    go_cut [125] (fun v wx => v = .bool true ∧ wx = wr)
                    case first =>
                      rcases HM4.out with rfl | rfl | rfl | rfl
                      all_goals
                        go_wp2_with (fail)
                        go_meet
                        exact ⟨rfl, rfl⟩
                    case rest =>
                      obtain ⟨rfl, hwc⟩ := hcut
                      subst hwc
                      go_upto_region 37 with (fail)
                      go_region_with (first
                        | (go_at_call 24; with_reducible refine (HCL.out _).mono ?_; rintro e w5 ⟨rfl, rfl⟩)
                        | (go_at_call 57; refine HSET.out.mono ?_; rintro e w9 ⟨rfl, hs9, ho9⟩))
                      all_goals
                        (try go_wp2_with fail)
                        go_meet
                        exact ⟨Ap, cp, S8, f8, _, v8, o8, rfl, hs9, HSV8.out.set HXO.out.b0, (HSAME.out _ (setF_same _ _ _)).1, (HSAME.out _ (setF_same _ _ _)).2.1, (HSAME.out _ (setF_same _ _ _)).2.2, (HSLr.out.onlyX (OnlyX.of_below (Below.drew (Below.refl _ _)))).onlyX ho9, (HWRr.out.onlyX (OnlyX.of_below (Below.drew (Below.refl _ _)))).onlyX ho9⟩
              rcases (show M = 4 ∨ M = 5 ∨ M = 6 ∨ M = 7 ∨ M = 8 ∨ M = 9 ∨ M = 10 ∨ M = 11 by have := HMM.out; omega) with rfl | rfl | rfl | rfl | rfl | rfl | rfl | rfl
              all_goals clear hM4
              focus
                as_aux_lemma =>
                  have HBE := Lib.hid (begin_any HSr.out HSV8.out.ok)
                  have hsv := HSV8.out.begin
                  go_wp2_with (fail)
                  (with_reducible refine HBE.out.mono ?_)
                  rintro e w9 ⟨rfl, ⟨S9, hd, hg, hs9⟩, ho9⟩
                  have HS9 := Lib.hid hs9
                  have HSL9 := Lib.hid (HSLr.out.onlyX ho9)
                  have HWR9 := Lib.hid (HWRr.out.onlyX ho9)
                  have HST9 := Lib.hid (HST.out.onlyX ho9)
                  have HOW : Hid (Own L S9 = Own L S8) := Own.same hd hg
                  have HD := Lib.hid hd
                  have HSM := Lib.hid (HSAME.out _ (beginS_same s8 f8))
                  clear hs9 ho9 hd hg
                  by_cases he : beginE s8 f8 = 0
                  · rw [he, errV_zero]
                    rw [if_pos he] at hsv
                    have HSV := Lib.hid hsv
                    clear he hsv
                    go_wp2_with (fail)
                    go_meet
                    exact ⟨Ap, cp, S9, f8, _, v8, _, by rw [HD.out], HS9.out, HSV.out, HSM.out.1, HSM.out.2.1, HSM.out.2.2, by rw [HOW.out]; exact HSL9.out, by rw [HOW.out]; exact HST9.out⟩
                  · rw [errV_ne he]
                    rw [if_neg he] at hsv
                    have HSV := Lib.hid hsv
                    clear he hsv
                    go_wp2_with (fail)
                    go_meet
                    exact ⟨Ap, cp, S9, f8, _, v8, _, by rw [HD.out], HS9.out, HSV.out, HSM.out.1, HSM.out.2.1, HSM.out.2.2, by rw [HOW.out]; exact HSL9.out, by rw [HOW.out]; exact HWR9.out⟩
              iterate 3
                focus
                  as_aux_lemma =>
                    have HSTE := Lib.hid (step_any HSr.out HSV8.out.ok)
                    have hsv := HSV8.out.step
                    have hsm := HSAME.out _ (stepS_same s8 f8)
                    obtain ⟨⟨sN, fN, dn, er⟩, hq⟩ : ∃ q, stepS s8 f8 = q := ⟨_, rfl⟩
                    rw [hq] at HSTE hsv hsm
                    simp only at hsv hsm
                    clear hq
                    go_wp2_with (fail)
                    (with_reducible refine HSTE.out.mono ?_)
                    rintro e w9 ⟨rfl, ⟨S9, hd, hg, hs9⟩, ho9⟩
                    have HS9 : Hid (StAt w4 w9 { L with Ap := Ap, cp := cp } S9 fN sN) := hs9
                    have HSL9 := Lib.hid (HSLr.out.onlyX ho9)
                    have HWR9 := Lib.hid (HWRr.out.onlyX ho9)
                    have HOW : Hid (Own L S9 = Own L S8) := Own.same hd hg
                    have HD := Lib.hid hd
                    have HSM := Lib.hid hsm
                    clear hs9 ho9 hd hg hsm
                    simp only
                    by_cases he : er = 0
                    · subst he
                      simp only [errV_zero]
                      cases dn
                      · rw [if_neg (by simp)] at hsv
                        have HSV := Lib.hid hsv
                        clear hsv
                        go_wp2_with (fail)
                        go_meet
                        exact ⟨Ap, cp, S9, fN, sN, v8, o8, by rw [HD.out], HS9.out, HSV.out, HSM.out.1, HSM.out.2.1, HSM.out.2.2, by rw [HOW.out]; exact HSL9.out, by rw [HOW.out]; exact HWR9.out⟩
                      · rw [if_pos ⟨rfl, rfl⟩] at hsv
                        obtain ⟨uu, rfl, hsv⟩ := hsv
                        have HSV := Lib.hid hsv
                        clear hsv
                        go_wp2_with (fail)
                        go_meet
                        exact ⟨Ap, cp, S9, fN, sN, uu, none, by rw [HD.out], HS9.out, HSV.out, HSM.out.1, HSM.out.2.1, HSM.out.2.2, by rw [HOW.out]; exact HWR9.out, rfl⟩
                    · rw [errV_ne he]
                      rw [if_neg (fun h => he h.2)] at hsv
                      have HSV := Lib.hid hsv
                      clear hsv he
                      go_wp2_with (fail)
                      go_meet
                      exact ⟨Ap, cp, S9, fN, sN, v8, o8, by rw [HD.out], HS9.out, HSV.out, HSM.out.1, HSM.out.2.1, HSM.out.2.2, by rw [HOW.out]; exact HSL9.out, by rw [HOW.out]; exact HWR9.out⟩
              focus
                as_aux_lemma =>
                  have HCO := Lib.hid (commit_any HSr.out HSV8.out.ok)
                  have hsv := HSV8.out.commit
                  have hsm := HSAME.out _ (commitS_same s8 f8)
                  obtain ⟨⟨sN, fN, er⟩, hq⟩ : ∃ q, commitS s8 f8 = q := ⟨_, rfl⟩
                  rw [hq] at HCO hsv hsm
                  simp only at hsv hsm
                  clear hq
                  go_wp2_with (fail)
                  (with_reducible refine HCO.out.mono ?_)
                  rintro e w9 ⟨rfl, ⟨S9, hd, hg, hs9⟩, ho9⟩
                  have HS9 : Hid (StAt w4 w9 { L with Ap := Ap, cp := cp } S9 fN sN) := hs9
                  have HSL9 := Lib.hid (HSLr.out.onlyX ho9)
                  have HWR9 := Lib.hid (HWRr.out.onlyX ho9)
                  have HST9 := Lib.hid (HST.out.onlyX ho9)
                  have HOW : Hid (Own L S9 = Own L S8) := Own.same hd hg
                  have HD := Lib.hid hd
                  have HSM := Lib.hid hsm
                  clear hs9 ho9 hd hg hsm
                  simp only
                  rcases hsv with ⟨he, hsv⟩ | ⟨he, hsv⟩ | ⟨he1, he2, hsv⟩
                  · subst he
                    have HSV := Lib.hid hsv
                    clear hsv
                    simp only [errV_zero]
                    go_wp2_with (fail)
                    go_meet
                    exact ⟨Ap, cp, S9, fN, sN, _, none, by rw [HD.out], HS9.out, HSV.out, HSM.out.1, HSM.out.2.1, HSM.out.2.2, by rw [HOW.out]; exact HST9.out, rfl⟩
                  · subst he
                    rw [errV_ne (by decide)]
                    cases o8 with
                    | none =>
                      rw [if_pos rfl] at hsv
                      have HSV := Lib.hid hsv
                      clear hsv
                      have hu : u12 = .slice none 0 0 := HWR9.out
                      subst hu
                      have q1 := eqs3_none 0 0
                      go_wp2_with (fail)
                      (with_reducible refine (is_err 20 20 _).mono ?_)
                      rintro e w9' ⟨rfl, rfl⟩
                      go_wp2_with (fail)
                      go_meet
                      exact ⟨Ap, cp, S9, fN, sN, v8, some s8.staged, by rw [HD.out], HS9.out, HSV.out, HSM.out.1, HSM.out.2.1, HSM.out.2.2, by rw [HOW.out]; exact HSL9.out, by rw [HOW.out]; exact HST9.out⟩
                    | some o9 =>
                      rw [if_neg (by simp)] at hsv
                      have HSV := Lib.hid hsv
                      clear hsv
                      obtain ⟨gb, go, gc, rfl⟩ := SlV.some HWR9.out hN20.1
                      have q1 := eqs3_some ⟨gb, go, none⟩ N gc
                      go_wp2_with (fail)
                      (with_reducible refine (is_err 20 20 _).mono ?_)
                      rintro e w9' ⟨rfl, rfl⟩
                      go_wp2_with (fail)
                      go_meet
                      exact ⟨Ap, cp, S9, fN, sN, v8, some o9, by rw [HD.out], HS9.out, HSV.out, HSM.out.1, HSM.out.2.1, HSM.out.2.2, by rw [HOW.out]; exact HSL9.out, by rw [HOW.out]; exact HWR9.out⟩
                  · have HSV := Lib.hid hsv
                    have HIS := Lib.hid (fun w => is_err er 20 w)
                    rw [show (er == 20) = false by simpa using he2] at HIS
                    rw [errV_ne he1]
                    clear hsv he1 he2
                    go_wp2_with (fail)
                    (with_reducible refine (HIS.out _).mono ?_)
                    rintro e w9' ⟨rfl, rfl⟩
                    go_wp2_with (fail)
                    go_meet
                    exact ⟨Ap, cp, S9, fN, sN, v8, o8, by rw [HD.out], HS9.out, HSV.out, HSM.out.1, HSM.out.2.1, HSM.out.2.2, by rw [HOW.out]; exact HSL9.out, by rw [HOW.out]; exact HWR9.out⟩
              focus
                as_aux_lemma =>
                  have HFU := Lib.hid (fuseS_any HSr.out x.a HXO.out.a0 x.P x.q x.r x.p HXO4.out.rp HXO.out.lp HXO.out.sq HXO.out.bp)
                  have HSV := Lib.hid (HSV8.out.fuse (n := x.a) HXO.out.bp HXO.out.a0.2)
                  go_wp2_with (fail)
                  (with_reducible refine HFU.out.mono ?_)
                  rintro e w9 ⟨rfl, ⟨Ap9, cp9, hs9⟩, ho9⟩
                  have HS9 : Hid (StAt w4 w9 { L with Ap := Ap9, cp := cp9 } S8 (fuseF f8 x.a x.p) s8) := hs9
                  have HSL9 := Lib.hid (HSLr.out.onlyX ho9)
                  have HWR9 := Lib.hid (HWRr.out.onlyX ho9)
                  clear hs9 ho9
                  go_wp2_with (fail)
                  go_meet
                  exact ⟨Ap9, cp9, S8, _, s8, v8, o8, rfl, HS9.out, HSV.out, HSE8.out.1, HSE8.out.2.1, HSE8.out.2.2, HSL9.out, HWR9.out⟩
              iterate 2
                focus
                  as_aux_lemma =>
                    have HSS := Lib.hid (startS_any HSr.out)
                    have hag := HSV8.out.again (by rw [HSE8.out.1]; exact sureP_bad N)
                    rw [HSE8.out.1, HSE8.out.2.1, HSE8.out.2.2] at hag
                    obtain ⟨oe, hsv, hor, hsm⟩ := hag
                    have HSM := Lib.hid (HSAME.out _ hsm)
                    have HSV := Lib.hid hsv
                    have HOE := Lib.hid oe
                    clear hsv hsm oe
                    go_wp2_with (fail)
                    (with_reducible refine HSS.out.mono ?_)
                    rintro e w9 ⟨rfl, ⟨Ap9, cp9, hs9⟩, ho9⟩
                    have HF9 : Hid (FlAt w4 w9 { L with Ap := Ap9, cp := cp9 } (startF f8)) := hs9.fl
                    have HSL9 := Lib.hid (HSLr.out.onlyX ho9)
                    have HWR9 := Lib.hid (HWRr.out.onlyX ho9)
                    have HC9 := Lib.hid (HC4.out.below hs9.fl.below hg4)
                    clear hs9 ho9 d0 d1 d2 d3
                    obtain ⟨d0, d1, d2, d3, _⟩ := HC9.out
                    go_wp2_with (fail)
                    clear d0 d1 d2 d3
                    (with_reducible refine (open_yes HF9.out F C A4 N c4 (sureP N) ((HSP.out.1.below HF9.out.below (Nat.le_refl _)).more HF9.out.below.size) HSPL.out HSP.out.2.1 HSP.out.2.2 (sureP_ok N) HOE.out).mono ?_)
                    rintro e w10 ⟨S10, rfl, hS, hb10, hD10, hG10⟩
                    have HS10 := Lib.hid hS
                    have q1 := eqq_some S10.D
                    have HSA := Lib.hid (saved_any hS HSV.out.ok)
                    have hn : (openF (startF f8) F C (sureP N)).spec.length = N := by rw [HSM.out.1]; exact HSPL.out
                    rw [hn] at HSA
                    have HLN : Hid ((openF (startF f8) F C (sureP N)).saved.length = N) := HSV.out.ok.sl.trans hn
                    have HSL10 := Lib.hid (HSL9.out.onlyX (OnlyX.of_below hb10))
                    have HWR10 := Lib.hid (HWR9.out.onlyX (OnlyX.of_below hb10))
                    obtain ⟨T, hT⟩ : ∃ T, openF (startF f8) F C (sureP N) = T := ⟨_, rfl⟩
                    rw [hT] at HSA HLN HS10 HSV HSM hor
                    clear hS hb10 hD10 hG10 hn hT
                    go_wp2_with (fail)
                    (with_reducible refine HSA.out.mono ?_)
                    rintro e w11 ⟨v', rfl, ho, hb⟩
                    have HST11 : Hid (SlV (Own L S10) w11 N T.saved v') := SlV.own ho HLN.out HS10.out.own_lt
                    have HS11 := Lib.hid (HS10.out.later hb)
                    obtain ⟨A', c', rfl, _, h2', h3', hr'⟩ := id HST11.out
                    obtain ⟨A11, c11, rfl, hl11, h211, h311, hr11⟩ := HSL10.out.onlyX (OnlyX.of_below hb)
                    have HW11 := Lib.hid (HWR10.out.onlyX (OnlyX.of_below hb))
                    have HIN := Lib.hid (ints_any A' A11 N N c' c11 T.saved v8 w11 hr'.rd hr11.rd HLN.out hl11 (Nat.le_trans h2' h3') (Nat.le_trans h2' h3'))
                    have hx1 : c' ≤ 9223372036854775807 := by unfold maxLen at h3'; omega
                    clear ho hb hr' hr11 h3' h311
                    by_cases heq : T.saved = v8
                    · rw [decide_eq_true heq] at HIN
                      clear heq hor
                      go_wp2_with (fail)
                      (with_reducible refine HIN.out.mono ?_)
                      rintro e w12 ⟨rfl, q12, rfl⟩
                      have HBQ := Below.drewN (Below.refl w11.heap.size w11) q12
                      have HS12 := Lib.hid (HS11.out.later HBQ)
                      have HST12 := Lib.hid (HST11.out.onlyX (OnlyX.of_below HBQ))
                      clear HBQ
                      go_wp2_with (fail)
                      go_meet
                      exact ⟨Ap9, cp9, S10, _, T, _, none, rfl, HS12.out, HSV.out, HSM.out.1, HSM.out.2.1, HSM.out.2.2, HST12.out, rfl⟩
                    · obtain rfl := hor.resolve_left heq
                      rw [decide_eq_false heq] at HIN
                      obtain ⟨gb, go, gc, rfl⟩ := SlV.some HW11.out hN20.1
                      have q2 := eqs3_some ⟨gb, go, none⟩ N gc
                      have hW11 : SlV (Own L S8) w11 N T.saved (.slice (some ⟨gb, go, none⟩) N gc) := HW11.out
                      have hR11 := HST11.out
                      clear heq hor
                      go_wp2_with (fail)
                      (with_reducible refine HIN.out.mono ?_)
                      rintro e w12 ⟨rfl, q12, rfl⟩
                      have HBQ := Below.drewN (Below.refl w11.heap.size w11) q12
                      have HS12 := Lib.hid (HS11.out.later HBQ)
                      have HST12 := Lib.hid (HST11.out.onlyX (OnlyX.of_below HBQ))
                      have hrx := (hR11.onlyX (OnlyX.of_below HBQ)).rdx
                      have hry := (hW11.onlyX (OnlyX.of_below HBQ)).rdx
                      have HIN2 := Lib.hid (ints_any A' (some ⟨gb, go, none⟩) N N c' gc T.saved T.saved (w11.drewN q12) hrx.rd hry.rd HLN.out HLN.out (by unfold maxLen; omega) (by unfold maxLen; omega))
                      rw [decide_eq_true rfl] at HIN2
                      clear HBQ hrx hry hW11 hR11
                      generalize w11.drewN q12 = w12 at *
                      go_wp2_with (fail)
                      (with_reducible refine HIN2.out.mono ?_)
                      rintro e w13 ⟨rfl, q13, rfl⟩
                      have HBQ := Below.drewN (Below.refl w12.heap.size w12) q13
                      have HS13 := Lib.hid (HS12.out.later HBQ)
                      have HST13 := Lib.hid (HST12.out.onlyX (OnlyX.of_below HBQ))
                      clear HBQ
                      go_wp2_with (fail)
                      go_meet
                      exact ⟨Ap9, cp9, S10, _, T, _, none, rfl, HS13.out, HSV.out, HSM.out.1, HSM.out.2.1, HSM.out.2.2, HST13.out, rfl⟩
            case rest =>
              as_aux_lemma =>
                obtain ⟨Ap9, cp9, S9, f9, s9, v9, o9, rfl, hS, hV, hsp, hfi, hbl, hsl, hwr⟩ := hcut
                obtain ⟨A9, c9, rfl, hl9, hc91, hc92, hr9⟩ := hsl
                have HBc : Hid (Below w4.heap.size w4 wc) := hS.fl.below
                have HI9 : Hid (∀ w', Below wc.heap.size wc w' → SvI w4 w' L F C N (.pointer (some ⟨S9.D, 0, none⟩)) (.slice A9 N c9) u12) := fun w' hb =>
                  ⟨Ap9, cp9, S9, f9, s9, v9, o9, rfl, hS.later hb, hV, hsp, hfi, hbl, ⟨A9, c9, rfl, hl9, hc91, hc92, hr9.onlyX (OnlyX.of_below hb)⟩, hwr.onlyX (OnlyX.of_below hb)⟩
                have HSA := Lib.hid (saved_any hS hV.ok)
                have hn : s9.spec.length = N := by rw [hsp]; exact HSPL.out
                rw [hn] at HSA
                have HSE9 : Hid (s9.saved = v9 ∧ v9.length = N) := ⟨hV.1, hl9⟩
                have HR9 := Lib.hid hr9
                have HC9 : Hid (N ≤ c9 ∧ c9 ≤ maxLen) := ⟨hc91, hc92⟩
                have hx1 : c9 ≤ 9223372036854775807 := by unfold maxLen at hc92; omega
                clear hS hV hsp hfi hbl hl9 hc92 hr9 hn hwr hM0 hM1
                go_wp2_with (fail)
                (with_reducible refine HSA.out.mono ?_)
                rintro e w8 ⟨v', rfl, ho, hb⟩
                obtain ⟨A', c', rfl, q1, q2, hr⟩ := own_read ho
                rw [HSE9.out.1] at hr
                have hx2 : c' ≤ 9223372036854775807 := by unfold maxLen at q2; omega
                have HI8 : Hid (∀ q, SvI w4 (w8.drewN q) L F C N (.pointer (some ⟨S9.D, 0, none⟩)) (.slice A9 N c9) u12) := fun q => HI9.out _ (hb.trans ((Below.drewN (Below.refl _ _) q).mono hb.size))
                have HIN := Lib.hid (ints_any A' A9 N N c' c9 v9 v9 w8 hr (HR9.out.onlyX (OnlyX.of_below hb)).rd HSE9.out.2 HSE9.out.2 (Nat.le_trans q1 q2) (Nat.le_trans q1 q2))
                rw [decide_eq_true rfl] at HIN
                clear ho hb hr q2
                go_wp2_with (fail)
                (with_reducible refine HIN.out.mono ?_)
                rintro e w8' ⟨rfl, q8, rfl⟩
                go_wp2
                go_roundw
                case rel => exact ⟨k + 1, by omega, by go_num, HI8.out q8⟩
                case measure => simp [intOf]; omega
      · go_wp2
        go_ret
        exact ⟨rfl, HBw.out⟩
  · have HE := Lib.hid (open_long (P := P) hB26.1 hFC.1 hFC.2 hB26.2 hN20.1 hN20.2 hoe)
    have HOE := Lib.hid (errV_ne hoe)
    go_wp2_with (fail)
    clear d0 d1 d2 d3
    (with_reducible refine (open_no HFL.out F C (by unfold I64; omega) (by unfold I64; omega) A4 N c4 (sureP N) ((HSP.out.1.below HFL.out.below (Nat.le_refl _)).more HFL.out.below.size) HSPL.out HSP.out.2.1 HSP.out.2.2 (sureP_ok N) hoe).mono ?_)
    rintro e w6 ⟨rfl, hb⟩
    rw [HOE.out, HE.out]
    have HB6 : Hid (Below w.heap.size w w6) := HBL5.out.trans (hb.mono HBL5.out.size)
    clear hb
    go_wp2_with (fail)
    (with_reducible refine (is_err 11 11 _).mono ?_)
    rintro e w7 ⟨rfl, rfl⟩
    go_wp2
    go_ret
    exact ⟨rfl, HB6.out⟩
end Go.Proofs.Ytfeceamhlphelaa
