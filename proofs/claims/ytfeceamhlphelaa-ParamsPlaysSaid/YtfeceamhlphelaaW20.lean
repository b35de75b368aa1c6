/-
  The reference's flash: SetFuse.
-/
import Derived.Test.YtfeceamhlphelaaW19
namespace Go.Proofs.Ytfeceamhlphelaa
open Go.RowKit
set_option linter.unusedVariables false

/-- X, and two blocks more. -/
def X2 (X : Nat → Prop) (N b : Nat) : Prop := X b ∨ b = N ∨ b = N + 1
theorem RdX.two {X : Nat → Prop} {w : World} {A : Option Addr} {xs : List Value} (h : RdX X w A xs) : RdX (X2 X w.heap.size) w A xs := fun hx => by
  obtain ⟨b, off, e, hlt, hn, hc⟩ := h hx
  exact ⟨b, off, e, hlt, fun h2 => by
    rcases h2 with h2 | h2 | h2
    · exact hn h2
    · omega
    · omega, hc⟩
theorem x2_lt {X : Nat → Prop} {N M : Nat} (h : ∀ b, X b → b < N) (hM : N + 1 < M) : ∀ b, X2 X N b → b < M := fun b hb => by
  rcases hb with hb | hb | hb
  · have := h b hb; omega
  · omega
  · omega
theorem x2_zero (X : Nat → Prop) (N : Nat) : X2 X N N := .inr (.inl rfl)
theorem x2_one (X : Nat → Prop) (N : Nat) : X2 X N (N + 1) := .inr (.inr rfl)

/-- The six cells of a struct. -/
def six (w : World) (B : Nat) (a b c d e f : Value) : Prop :=
  w.cell? ⟨B, 0, none⟩ = some a ∧ w.cell? ⟨B, 1, none⟩ = some b ∧ w.cell? ⟨B, 2, none⟩ = some c ∧ w.cell? ⟨B, 3, none⟩ = some d ∧ w.cell? ⟨B, 4, none⟩ = some e ∧ w.cell? ⟨B, 5, none⟩ = some f ∧ ∀ j, w.frozen? ⟨B, j, none⟩ = false
theorem six_new (w : World) (a b c d e f : Value) (t : TypeId) (B : Nat) (hB : B = w.heap.size) : six (w.alloc (.cells #[a, b, c, d, e, f] t)) B a b c d e f := by
  subst hB
  exact ⟨cell_new_at _ _ _ _ _ _ rfl rfl, cell_new_at _ _ _ _ _ _ rfl rfl, cell_new_at _ _ _ _ _ _ rfl rfl, cell_new_at _ _ _ _ _ _ rfl rfl, cell_new_at _ _ _ _ _ _ rfl rfl, cell_new_at _ _ _ _ _ _ rfl rfl, fun j => frozen_row (heap_new w _ t)⟩
theorem six.below {w w' : World} {B N : Nat} {a b c d e f : Value} (h : six w B a b c d e f) (hb : Below N w w') (hB : B < N) : six w' B a b c d e f :=
  ⟨(hb.cell (p := ⟨B, 0, none⟩) hB).trans h.1, (hb.cell (p := ⟨B, 1, none⟩) hB).trans h.2.1, (hb.cell (p := ⟨B, 2, none⟩) hB).trans h.2.2.1, (hb.cell (p := ⟨B, 3, none⟩) hB).trans h.2.2.2.1, (hb.cell (p := ⟨B, 4, none⟩) hB).trans h.2.2.2.2.1, (hb.cell (p := ⟨B, 5, none⟩) hB).trans h.2.2.2.2.2.1, fun j => (hb.frozen (p := ⟨B, j, none⟩) hB).trans (h.2.2.2.2.2.2 j)⟩
theorem six.lt {w : World} {B : Nat} {a b c d e f : Value} (h : six w B a b c d e f) : B < w.heap.size := World.block_lt_of_cell? w _ h.1

/-- The two structs that a function of the reference lays at its start: what came, and the result. -/
theorem two_six (w : World) (a b c d e f a' b' c' d' e' f' : Value) (t u : TypeId) :
    six ((w.alloc (.cells #[a, b, c, d, e, f] t)).alloc (.cells #[a', b', c', d', e', f'] u)) w.heap.size a b c d e f ∧ six ((w.alloc (.cells #[a, b, c, d, e, f] t)).alloc (.cells #[a', b', c', d', e', f'] u)) (w.heap.size + 1) a' b' c' d' e' f' := by
  have hs := World.size_alloc w (.cells #[a, b, c, d, e, f] t)
  exact ⟨(six_new w a b c d e f t _ rfl).below ((Below.refl _ _).alloc (Nat.le_refl _) _) (by omega), six_new _ _ _ _ _ _ _ _ _ hs.symm⟩

set_option maxRecDepth 100000 in
set_option maxHeartbeats 4000000 in
theorem fuseR_any {X : Nat → Prop} {w : World} {x : Rc} {g : Fl} (h : RAt X w x g) (hX : ∀ b, X b → b < w.heap.size) (n : Int) (hn1 : -9223372036854775808 ≤ n) (hn2 : n < 9223372036854775808) (Q : Option Addr) (m q : Nat) (p : List Int) (hQ : Rd w w.heap.size Q (kcells .u8 p)) (hm : p.length = m) (hmm : m ≤ 140737488351232) (hp : Bytes p) :
    Calls Try.prog 71 #[x.v g, .int .i64 n, .slice Q m q] w fun e w' => ∃ y : Rc, e = .returned (y.v (fuseF g n p)) ∧ RAt X w' y (fuseF g n p) ∧ Below w.heap.size w w' := by
  have H := Lib.hid h
  have HX := Lib.hid hX
  have HQ := Lib.hid hQ
  have HM := Lib.hid hm
  have HP := Lib.hid hp
  have HOK : Hid (fuseF g n p).ok := fuseF_ok h.ok hp hn2
  obtain ⟨A, c, B, d, P, r⟩ := x
  show Calls Try.prog 71 #[.agg #[.slice A g.img.length c, .int .i64 g.pg, .slice B g.wear.length d, .bool g.down, .int .i64 g.fuse, .slice P g.picks.length r], _, _] w _
  obtain ⟨V, hV⟩ : ∃ V, (w.alloc (.cells #[.slice A g.img.length c, .int .i64 g.pg, .slice B g.wear.length d, .bool g.down, .int .i64 g.fuse, .slice P g.picks.length r] 60)).alloc (.cells #[.slice none 0 0, .int .i64 0, .slice none 0 0, .bool false, .int .i64 0, .slice none 0 0] 60) = V := ⟨_, rfl⟩
  have HBV : Hid (Below w.heap.size w V) := by rw [← hV]; exact below_two _ _ _
  have h6 := two_six w (.slice A g.img.length c) (.int .i64 g.pg) (.slice B g.wear.length d) (.bool g.down) (.int .i64 g.fuse) (.slice P g.picks.length r) (.slice none 0 0) (.int .i64 0) (.slice none 0 0) (.bool false) (.int .i64 0) (.slice none 0 0) 60 60
  rw [hV] at h6
  have H6 := Lib.hid h6
  have hgV : w.heap.size + 1 < V.heap.size := h6.2.lt
  have HKL : Hid ((kcells .u8 p).length = m * 1) := by rw [Hid, kcells_length, hm, Nat.mul_one]
  obtain ⟨i5, hi5, hz50, hz51, hz52⟩ := info_parts info5
  have hm0 : 0 ≤ maxLen := Nat.zero_le _
  obtain ⟨F, hF⟩ : ∃ F, max n (-1) = F := ⟨_, rfl⟩
  clear h hX hQ hm hp h6
  go_enter Try.func71, Try.ntmps71
  go_wp2_with (first | (at_builtin; (try rw [hV]); refine wpList_append_rd _ rfl _ _ 23 rfl V.heap.size 5 i5 (.int .u8 0) 1 1 Try.underlying23 hi5 hz50 hz51 hz52 rfl (by omega) _ 0 [] rfl (World.ownsRow_lit V #[] 0 (Nat.le_refl _) hm0 rfl) w.heap.size _ m _ (kcells .u8 p) rfl (HQ.out.below (HBV.out.alloc HBV.out.size _) (Nat.le_refl _)) HKL.out (kcells_one _ _) (by unfold maxLen; omega) (by omega) (by simp) ?_))
  intro v' w2 hown hgrow hat
  have HB2 : Hid (Below V.heap.size V w2) := ((Below.refl V.heap.size V).alloc (Nat.le_refl _) _).grown hgrow (by simp) (fun k hk => by have hk' : some V.heap.size = some k := hk; injection hk'; omega)
  try simp only [Nat.zero_add, List.nil_append] at hown
  obtain ⟨A2, c2, rfl, hc21, hc22, hr2⟩ := own_read hown
  have HO := Lib.hid hown
  obtain ⟨a0, a1, a2, a3, a4, a5, a6⟩ := H6.out.1.below HB2.out (by omega)
  obtain ⟨b0, b1, b2, b3, b4, b5, b6⟩ := H6.out.2.below HB2.out (by omega)
  have f4 := a6 4
  have f5 := a6 5
  have e0 := b6 0
  have e1 := b6 1
  have e2 := b6 2
  have e3 := b6 3
  have e4 := b6 4
  have e5 := b6 5
  clear hown hgrow hat hr2 a6 b6
  go_wp2
  (try simp only [Exit.inBlock, Exit.then])
  refine bodyPost_ret (v := (Rc.mk A c B d A2 c2).v (fuseF g n p)) ?_ rfl ⟨⟨A, c, B, d, A2, c2⟩, rfl, ?_, ?_⟩
  · rw [results_cell_one rfl]
    simp only [Rc.v, fuseF, HM.out, hF]
    go_simp
  · refine ⟨HOK.out, RdX.weak (X := X2 X w.heap.size) ?_ (fun _ => .inl), H.out.a1, H.out.a2, RdX.weak (X := X2 X w.heap.size) ?_ (fun _ => .inl), H.out.b1, H.out.b2, RdX.weak (X := X2 X w.heap.size) ?_ (fun _ => .inl), by simp only [fuseF, HM.out]; exact hc21, hc22⟩
    · (repeat (refine RdX.setCell ?_ _ _ (by first | exact x2_zero _ _ | exact x2_one _ _)))
      exact H.out.a.two.below (HBV.out.trans (HB2.out.mono HBV.out.size))
    · (repeat (refine RdX.setCell ?_ _ _ (by first | exact x2_zero _ _ | exact x2_one _ _)))
      exact H.out.b.two.below (HBV.out.trans (HB2.out.mono HBV.out.size))
    · (repeat (refine RdX.setCell ?_ _ _ (by first | exact x2_zero _ _ | exact x2_one _ _)))
      exact RdX.new (x2_lt HX.out hgV) (Nat.le_refl _) (by rw [kcells_length]; exact HM.out) HO.out
  · (repeat (refine Below.setCell ?_ (by simp only; omega) _))
    exact HBV.out.trans (HB2.out.mono HBV.out.size)
end Go.Proofs.Ytfeceamhlphelaa
