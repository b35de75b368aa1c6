
/-
  The reference's flash: New.
-/
import Derived.Test.YtjdknddnanopaaaRW21
namespace Go.Proofs.Ytjdknddnanopaaa
open Go.RowKit
set_option linter.unusedVariables false

theorem six.grown {w w' : World} {B : Nat} {a b c d e f : Value} {row : Option Nat} (h : six w B a b c d e f) (hg : w.grownBy w' row) (hB : row ≠ some B) : six w' B a b c d e f := by
  have k := hg.block B h.lt (fun e => hB e.symm)
  have kc : ∀ j, w'.cell? ⟨B, j, none⟩ = w.cell? ⟨B, j, none⟩ := fun j => cell_of_block k
  have kf : ∀ j, w'.frozen? ⟨B, j, none⟩ = w.frozen? ⟨B, j, none⟩ := fun j => by simp only [World.frozen?, k]
  exact ⟨(kc 0).trans h.1, (kc 1).trans h.2.1, (kc 2).trans h.2.2.1, (kc 3).trans h.2.2.2.1, (kc 4).trans h.2.2.2.2.1, (kc 5).trans h.2.2.2.2.2.1, fun j => (kf j).trans (h.2.2.2.2.2.2 j)⟩

def zeroR : Value := .agg #[.slice none 0 0, .int .i64 0, .slice none 0 0, .bool false, .int .i64 0, .slice none 0 0]

theorem newR_no (b p : Int) (w : World) (h : (b < 1 ∨ 64 < b) ∨ (p < 1 ∨ 16 < p)) :
    Calls Try.prog 14 #[.int .i64 b, .int .i64 p] w fun e w' => e = .returned (.tuple #[zeroR, .int .i64 3]) ∧ Below w.heap.size w w' := by
  by_cases h1 : b < 1
  · clear h
    go_enter Try.func14, Try.ntmps14
    go_wp2
    (try simp only [Exit.inBlock, Exit.then])
    refine bodyPost_ret (v := .tuple #[zeroR, .int .i64 3]) ?_ rfl ⟨rfl, below_one _ _⟩
    rw [results_cell_tmp rfl]
    unfold zeroR
    go_simp
  · have d1 : decide (b < 1) = false := by simpa using h1
    by_cases h2 : 64 < b
    · clear h h1
      go_enter Try.func14, Try.ntmps14
      go_wp2
      (try simp only [Exit.inBlock, Exit.then])
      refine bodyPost_ret (v := .tuple #[zeroR, .int .i64 3]) ?_ rfl ⟨rfl, below_one _ _⟩
      rw [results_cell_tmp rfl]
      unfold zeroR
      go_simp
    · have d2 : decide (64 < b) = false := by simpa using h2
      by_cases h3 : p < 1
      · clear h h1 h2
        go_enter Try.func14, Try.ntmps14
        go_wp2
        (try simp only [Exit.inBlock, Exit.then])
        refine bodyPost_ret (v := .tuple #[zeroR, .int .i64 3]) ?_ rfl ⟨rfl, below_one _ _⟩
        rw [results_cell_tmp rfl]
        unfold zeroR
        go_simp
      · have d3 : decide (p < 1) = false := by simpa using h3
        have h4 : 16 < p := by omega
        clear h h1 h2 h3
        go_enter Try.func14, Try.ntmps14
        go_wp2
        (try simp only [Exit.inBlock, Exit.then])
        refine bodyPost_ret (v := .tuple #[zeroR, .int .i64 3]) ?_ rfl ⟨rfl, below_one _ _⟩
        rw [results_cell_tmp rfl]
        unfold zeroR
        go_simp

theorem RdX.own {X : Nat → Prop} {w : World} {A : Option Addr} {xs : List Value} {B n c e : Nat} (hn : xs.length = n) (ho : w.ownsRow B e 1 (.slice A n c) n xs) (hX : ∀ g, (Value.slice A n c).ownBlock = some g → ¬ X g) : RdX X w A xs := fun hx => by
  obtain ⟨A', c', hv, _, _, hg⟩ := own_form ho
  obtain ⟨A2, c2, hv2, _, _, hr⟩ := own_read ho
  injection hv with hv _ _
  injection hv2 with hv2 _ _
  subst hv
  subst hv2
  have hpos : 0 < n := by
    rw [← hn]
    exact List.length_pos_iff.2 hx
  obtain ⟨g, rfl, hge, hlt⟩ := hg hpos
  obtain ⟨b, off, he, hb, hc⟩ := hr hx
  have he' : b = g ∧ off = 0 := by
    injection he with he
    injection he with h1 h2
    exact ⟨h1.symm, h2.symm⟩
  obtain ⟨rfl, rfl⟩ := he'
  exact ⟨b, 0, rfl, hlt, hX b rfl, hc⟩

set_option maxRecDepth 100000 in
set_option maxHeartbeats 8000000 in
theorem newR_any {X : Nat → Prop} (b p : Nat) (w : World) (hX : ∀ b, X b → b < w.heap.size) (h1 : 1 ≤ b) (h2 : b ≤ 64) (h3 : 1 ≤ p) (h4 : p ≤ 16) :
    Calls Try.prog 14 #[.int .i64 b, .int .i64 p] w fun e w' => ∃ y : Rc, e = .returned (.tuple #[y.v (newF b p), .int .i64 0]) ∧ RAt X w' y (newF b p) ∧ Below w.heap.size w w' := by
  have HOK : Hid (newF b p).ok := newF_ok h1 h2 h3 h4
  have hm3 : ∀ wx : World, (Instr.makeSlice 35 (.int .i64 b) (.int .i64 b)).run Try.prog wx = .ok (.slice (some ⟨wx.heap.size, 0, none⟩) b b) (wx.alloc (.cells (madeCells #[.int .i64 0] b) 3)) := fun wx =>
    run_make_row' 35 3 (.int .i64 0) 8 Try.underlying35 info3 rfl .i64 .i64 b (by omega) (by omega) wx
  have HC3 : Hid ((madeCells #[.int .i64 0] b).toList = icells (List.replicate b 0)) := made_k .i64 b
  generalize madeCells #[.int .i64 0] b = C3 at *
  have d1 : decide ((b : Int) < 1) = false := by simp; omega
  have d2 : decide ((64 : Int) < (b : Int)) = false := by simp; omega
  have d3 : decide ((p : Int) < 1) = false := by simp; omega
  have d4 : decide ((16 : Int) < (p : Int)) = false := by simp; omega
  obtain ⟨Z, hZ⟩ : ∃ Z, b * p = Z := ⟨_, rfl⟩
  have hZ1 : 1 ≤ Z := by rw [← hZ]; exact Nat.mul_le_mul h1 h3
  have hZ2 : Z ≤ 1024 := by rw [← hZ]; exact Nat.mul_le_mul h2 h4
  have x1 : (b : Int) * (p : Int) = (Z : Int) := by rw [← hZ]; push_cast; rfl
  obtain ⟨M, hM⟩ : ∃ M, Z * 64 = M := ⟨_, rfl⟩
  have x2 : (Z : Int) * 64 = (M : Int) := by omega
  have hMb : M ≤ 65536 := by omega
  have HZ := Lib.hid hZ
  have HM := Lib.hid hM
  have HX := Lib.hid hX
  clear hZ hM hX
  go_enter Try.func14, Try.ntmps14
  go_upto_region 4 with (fail)
  obtain ⟨V, hV⟩ : ∃ V, ((w.alloc (.cells #[.slice none 0 0, .int .i64 0, .slice none 0 0, .bool false, .int .i64 0, .slice none 0 0] 37)).alloc (.cells C3 3)).alloc (.cells #[.slice none 0 0, .int .i64 p, .slice (some ⟨w.heap.size + 1, 0, none⟩) b b, .bool false, .int .i64 (-1), .slice none 0 0] 37) = V := ⟨_, rfl⟩
  have hs1 : (w.alloc (.cells #[.slice none 0 0, .int .i64 0, .slice none 0 0, .bool false, .int .i64 0, .slice none 0 0] 37)).heap.size = w.heap.size + 1 := World.size_alloc _ _
  have hs2 : ((w.alloc (.cells #[.slice none 0 0, .int .i64 0, .slice none 0 0, .bool false, .int .i64 0, .slice none 0 0] 37)).alloc (.cells C3 3)).heap.size = w.heap.size + 1 + 1 := by rw [World.size_alloc, hs1]
  have HBV : Hid (Below w.heap.size w V) := by rw [← hV]; exact (below_two _ _ _).alloc (by rw [hs2]; omega) _
  have H6B : Hid (six V (w.heap.size + 1 + 1) (.slice none 0 0) (.int .i64 p) (.slice (some ⟨w.heap.size + 1, 0, none⟩) b b) (.bool false) (.int .i64 (-1)) (.slice none 0 0)) := by rw [← hV]; exact six_new _ _ _ _ _ _ _ _ _ hs2.symm
  have HSV : Hid (V.heap.size = w.heap.size + 1 + 1 + 1) := by rw [Hid, ← hV, World.size_alloc, hs2]
  have H6A : Hid (six V w.heap.size (.slice none 0 0) (.int .i64 0) (.slice none 0 0) (.bool false) (.int .i64 0) (.slice none 0 0)) := by
    rw [← hV]
    exact ((six_new w _ _ _ _ _ _ _ _ rfl).below ((Below.refl (w.heap.size + 1) _).alloc (by rw [hs1]; exact Nat.le_refl _) _) (by omega)).below ((Below.refl (w.heap.size + 1) _).alloc (by rw [hs2]; omega) _) (by omega)
  have HOW : Hid (V.ownsRow w.heap.size 3 1 (.slice (some ⟨w.heap.size + 1, 0, none⟩) b b) b (icells (List.replicate b 0))) := by
    have o1 : ((w.alloc (.cells #[.slice none 0 0, .int .i64 0, .slice none 0 0, .bool false, .int .i64 0, .slice none 0 0] 37)).alloc (.cells C3 3)).ownsRow w.heap.size 3 1 (.slice (some ⟨w.heap.size + 1, 0, none⟩) b b) b (icells (List.replicate b 0)) := by
      have := own_alloc (w := w.alloc (.cells #[.slice none 0 0, .int .i64 0, .slice none 0 0, .bool false, .int .i64 0, .slice none 0 0] 37)) (base := w.heap.size) (e := 3) HC3.out (by rw [icells_length, List.length_replicate]) (by rw [hs1]; omega) (by unfold maxLen; omega)
      rw [hs1] at this
      exact this
    rw [← hV]
    exact own_below o1 (below_one _ _)
  try rw [hV]
  clear hV hs1 hs2 hm3 HC3
  obtain ⟨i5, hi5, hz50, hz51, hz52⟩ := info_parts info5
  go_wp2
  go_loopw [30] (fun i wr => ∃ (j : Nat) (v : Value), j ≤ M ∧ i = .int .i64 j ∧ six wr w.heap.size (.slice none 0 0) (.int .i64 0) (.slice none 0 0) (.bool false) (.int .i64 0) (.slice none 0 0) ∧ six wr (w.heap.size + 1 + 1) (v) (.int .i64 p) (.slice (some ⟨w.heap.size + 1, 0, none⟩) b b) (.bool false) (.int .i64 (-1)) (.slice none 0 0) ∧ wr.ownsRow w.heap.size 5 1 v j (kcells .u8 (List.replicate j 255)) ∧ wr.ownsRow w.heap.size 3 1 (.slice (some ⟨w.heap.size + 1, 0, none⟩) b b) b (icells (List.replicate b 0)) ∧ Below w.heap.size w wr ∧ (∀ g, v.ownBlock = some g → w.heap.size + 1 + 1 < g)) (fun i _ => M - (intOf i).toNat)
  case atStart => exact ⟨0, .slice none 0 0, by omega, rfl, H6A.out, H6B.out, World.ownsRow_nil .., HOW.out, HBV.out, fun g hg => by simp [Value.ownBlock] at hg⟩
  case round =>
    obtain ⟨j, v, hj, rfl, h6a, h6b, ho, how, hb, hv⟩ := hrel
    have H1 := Lib.hid h6a
    have H2 := Lib.hid h6b
    have HO := Lib.hid ho
    have HW := Lib.hid how
    have HB := Lib.hid hb
    have HV := Lib.hid hv
    have hlt2 : w.heap.size + 1 + 1 < wr.heap.size := h6b.lt
    clear ho how hb hv
    by_cases hlt : j < M
    · have h6c := h6b.below (below_one wr (.cells #[.int .u8 255] 5)) (by omega)
      have c0 := h6c.1
      have ho1 := HO.out
      have HO1 := Lib.hid (own_below HO.out (below_one wr (.cells #[.int .u8 255] 5)))
      clear h6a h6b ho1
      obtain ⟨q1, q2, q3, q4, q5, q6, q7⟩ := H2.out
      clear q2 q3 q4 q5 q6 q7 h6c
      go_wp2_with (first | (at_builtin; refine wpList_append_own_at _ rfl _ _ 22 rfl w.heap.size 5 i5 (.int .u8 0) 1 1 Try.underlying22 hi5 hz50 hz51 hz52 rfl (by omega) v j _ rfl HO1.out _ 1 _ [.int .u8 255] rfl rfl (cell_one_new _ _ _) (by intro u hu; simp at hu; subst hu; rfl) (by unfold maxLen; omega) (by omega) (by rw [World.size_alloc]; omega) ?_))
      intro v' w2 hown hgrow hnil hat
      obtain ⟨A', c', rfl, hc1', hc2', _⟩ := own_form hown
      have HN : Hid (w2.ownsRow w.heap.size 5 1 (.slice A' (j + 1) c') (j + 1) (kcells .u8 (List.replicate (j + 1) 255))) := by
        have e : kcells .u8 (List.replicate (j + 1) 255) = kcells .u8 (List.replicate j 255) ++ [.int .u8 255] := by rw [List.replicate_succ', kcells_append]; rfl
        rw [Hid, e]
        exact hown
      have hnv : ∀ g, v.ownBlock = some g → w.heap.size + 1 + 1 < g := HV.out
      have hne : ∀ k, k ≤ w.heap.size + 1 + 1 → v.ownBlock ≠ some k := fun k hk e => by
        have := hnv k e
        omega
      have m1 := (H1.out.below (below_one wr (.cells #[.int .u8 255] 5)) (by omega)).grown hgrow (hne _ (by omega))
      have m2 := (H2.out.below (below_one wr (.cells #[.int .u8 255] 5)) (by omega)).grown hgrow (hne _ (by omega))
      have m3 := kept_of (own_below HW.out (below_one wr (.cells #[.int .u8 255] 5))) hgrow (fun g hg e => by
        have hg' : w.heap.size + 1 = g := by simpa [Value.ownBlock] using hg
        subst hg'
        exact hne _ (by omega) e)
      have HB2 : Hid (Below w.heap.size w w2) := (HB.out.alloc HB.out.size _).grown hgrow (by rw [World.size_alloc]; omega) (fun k hk => by have := hnv k hk; omega)
      have HV2 : Hid (∀ g, (Value.slice A' (j + 1) c').ownBlock = some g → w.heap.size + 1 + 1 < g) := fun g hg => by
        rcases hat with h | h
        · exact hnv g (by rw [← h]; exact hg)
        · rw [h] at hg
          injection hg with hg
          (try rw [World.size_alloc] at hg)
          omega
      have M1 : Hid (six (w2.setCell ⟨w.heap.size + 1 + 1, 0, none⟩ (.slice A' (j + 1) c')) w.heap.size (.slice none 0 0) (.int .i64 0) (.slice none 0 0) (.bool false) (.int .i64 0) (.slice none 0 0)) := m1.away _ _ (by simp only; omega)
      have M2 : Hid (six (w2.setCell ⟨w.heap.size + 1 + 1, 0, none⟩ (.slice A' (j + 1) c')) (w.heap.size + 1 + 1) (.slice A' (j + 1) c') (.int .i64 p) (.slice (some ⟨w.heap.size + 1, 0, none⟩) b b) (.bool false) (.int .i64 (-1)) (.slice none 0 0)) := m2.set0 _
      have M3 := Lib.hid (ownsRow_setCell_other m3 (a := ⟨w.heap.size + 1 + 1, 0, none⟩) (by simp [Value.ownBlock]) (.slice A' (j + 1) c'))
      have HN2 := Lib.hid (ownsRow_setCell_other HN.out (a := ⟨w.heap.size + 1 + 1, 0, none⟩) (fun e => by have := HV2.out (w.heap.size + 1 + 1) e; omega) (.slice A' (j + 1) c'))
      have HB3 : Hid (Below w.heap.size w (w2.setCell ⟨w.heap.size + 1 + 1, 0, none⟩ (.slice A' (j + 1) c'))) := HB2.out.setCell (p := ⟨w.heap.size + 1 + 1, 0, none⟩) (by simp only; omega) (.slice A' (j + 1) c')
      have d0 := m2.1
      have d1 := m2.2.2.2.2.2.2 0
      clear hown hgrow hnil hat hnv hne m1 m2 m3 c0 q1
      go_wp2
      go_roundw
      case rel => exact ⟨j + 1, _, by omega, by go_num, M1.out, M2.out, HN2.out, M3.out, HB3.out, HV2.out⟩
      case measure => simp [intOf]; omega
    · have hjn : M = j := by omega
      subst hjn
      obtain ⟨A2, c2, rfl, hc21, hc22, hr2⟩ := own_form HO.out
      obtain ⟨a0, a1, a2, a3, a4, a5, a6⟩ := h6b
      obtain ⟨b0, b1, b2, b3, b4, b5, b6⟩ := h6a
      have e0 := b6 0
      have e1 := b6 1
      have e2 := b6 2
      have e3 := b6 3
      have e4 := b6 4
      have e5 := b6 5
      have HNL : Hid ((newF b p).img.length = M ∧ (newF b p).wear.length = b) := ⟨by simp only [newF]; rw [List.length_replicate, HZ.out, HM.out], by simp [newF]⟩
      clear a6 b6 hr2 hlt
      go_wp2
      (try simp only [Exit.inBlock, Exit.then])
      refine bodyPost_ret (v := .tuple #[.agg #[.slice A2 M c2, .int .i64 p, .slice (some ⟨w.heap.size + 1, 0, none⟩) b b, .bool false, .int .i64 (-1), .slice none 0 0], .int .i64 0]) ?_ rfl ⟨⟨A2, c2, some ⟨w.heap.size + 1, 0, none⟩, b, none, 0⟩, by simp only [Rc.v, HNL.out.1, HNL.out.2]; rfl, ?_, ?_⟩
      · rw [results_cell_tmp rfl]
        go_simp
      · have hrx : RAt (fun b => X b ∨ b = w.heap.size) wr ⟨A2, c2, some ⟨w.heap.size + 1, 0, none⟩, b, none, 0⟩ (newF b p) :=
          ⟨HOK.out, RdX.own (by rw [kcells_length, HNL.out.1]) (by simp only [newF, HZ.out, HM.out]; exact HO.out) (fun g hg h => by
              have h2 := HV.out g hg
              rcases h with h | h
              · have := HX.out g h; omega
              · omega), by rw [HNL.out.1]; exact hc21, hc22, RdX.own (by rw [icells_length, HNL.out.2]) HW.out (fun g hg h => by
              have hg' : w.heap.size + 1 = g := by simpa [Value.ownBlock] using hg
              rcases h with h | h
              · have := HX.out g h; omega
              · omega), by rw [HNL.out.2]; exact Nat.le_refl _, by show b ≤ maxLen; unfold maxLen; omega, RdX.nil, Nat.le_refl _, Nat.zero_le _⟩
        refine RAt.weak (X := fun b => X b ∨ b = w.heap.size) ?_ (fun _ => .inl)
        (repeat (refine RAt.setCell ?_ _ _ (.inr rfl)))
        exact hrx
      · (repeat (refine Below.setCell ?_ (by simp only; omega) _))
        exact HB.out
end Go.Proofs.Ytjdknddnanopaaa
