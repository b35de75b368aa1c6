/-
  The reference's Load makes a flash.
-/
import Derived.Test.YtfeceamhlphelaaW26
import Derived.Deep.DeepCutAuto
namespace Go.Proofs.Ytfeceamhlphelaa
open Go.RowKit
set_option linter.unusedVariables false

theorem six_opens {w : World} {B : Nat} (h : six w B (.slice none 0 0) (.int .i64 0) (.slice none 0 0) (.bool false) (.int .i64 0) (.slice none 0 0)) : w.cell? ⟨B, 0, none⟩ = some (.slice none 0 0) ∧ w.cell? ⟨B, 1, none⟩ = some (.int .i64 0) ∧ w.cell? ⟨B, 2, none⟩ = some (.slice none 0 0) ∧ w.cell? ⟨B, 3, none⟩ = some (.bool false) ∧ w.cell? ⟨B, 4, none⟩ = some (.int .i64 0) ∧ w.cell? ⟨B, 5, none⟩ = some (.slice none 0 0) ∧ w.frozen? ⟨B, 0, none⟩ = false ∧ w.frozen? ⟨B, 1, none⟩ = false ∧ w.frozen? ⟨B, 2, none⟩ = false ∧ w.frozen? ⟨B, 3, none⟩ = false ∧ w.frozen? ⟨B, 4, none⟩ = false ∧ w.frozen? ⟨B, 5, none⟩ = false :=
  ⟨h.1, h.2.1, h.2.2.1, h.2.2.2.1, h.2.2.2.2.1, h.2.2.2.2.2.1, h.2.2.2.2.2.2 0, h.2.2.2.2.2.2 1, h.2.2.2.2.2.2 2, h.2.2.2.2.2.2 3, h.2.2.2.2.2.2 4, h.2.2.2.2.2.2 5⟩
theorem six_kept {w w' : World} {B : Nat} (h : six w B (.slice none 0 0) (.int .i64 0) (.slice none 0 0) (.bool false) (.int .i64 0) (.slice none 0 0)) (hb : Below w.heap.size w w') : w'.cell? ⟨B, 0, none⟩ = some (.slice none 0 0) ∧ w'.cell? ⟨B, 1, none⟩ = some (.int .i64 0) ∧ w'.cell? ⟨B, 2, none⟩ = some (.slice none 0 0) ∧ w'.cell? ⟨B, 3, none⟩ = some (.bool false) ∧ w'.cell? ⟨B, 4, none⟩ = some (.int .i64 0) ∧ w'.cell? ⟨B, 5, none⟩ = some (.slice none 0 0) ∧ w'.frozen? ⟨B, 0, none⟩ = false ∧ w'.frozen? ⟨B, 1, none⟩ = false ∧ w'.frozen? ⟨B, 2, none⟩ = false ∧ w'.frozen? ⟨B, 3, none⟩ = false ∧ w'.frozen? ⟨B, 4, none⟩ = false ∧ w'.frozen? ⟨B, 5, none⟩ = false := six_opens (h.below hb h.lt)
theorem own_some {w : World} {base : Nat} {e : TypeId} {size : Nat} {v : Value} {n : Nat} {xs : List Value} (h : w.ownsRow base e size v n xs) (h0 : 0 < n) :
    ∃ g c, v = .slice (some ⟨g, 0, none⟩) n c ∧ n ≤ c ∧ c ≤ maxLen ∧ base ≤ g ∧ g < w.heap.size := by
  obtain ⟨A, c, rfl, h1, h2, h3⟩ := own_form h
  obtain ⟨g, rfl, h4, h5⟩ := h3 h0
  exact ⟨g, c, rfl, h1, h2, h4, h5⟩
theorem six_seen {w : World} {B : Nat} {a b c d e f : Value} (h : six w B a b c d e f) (k : Nat) : w.frozen? ⟨B, k, none⟩ = false := h.2.2.2.2.2.2 k

set_option maxRecDepth 100000 in
set_option maxHeartbeats 8000000 in
theorem loadR_ok {X : Nat → Prop} (q : Nat) (A : Option Addr) (n c : Nat) (b : List Int) (w : World) (hX : ∀ b, X b → b < w.heap.size) (hA : Rd w w.heap.size A (kcells .u8 b)) (hn : b.length = n) (hb : Bytes b) (h : loadE q n = 0) :
    Calls Try.prog 45 #[.int .i64 q, .slice A n c] w fun e w' => ∃ y : Rc, e = .returned (.tuple #[y.v (loadF q b), .int .i64 0]) ∧ RAt X w' y (loadF q b) ∧ Below w.heap.size w w' := by
  have hok := loadF_ok (by rw [hn]; exact h) hb
  have HOK := Lib.hid hok
  have HX := Lib.hid hX
  unfold loadE at h
  split at h
  · omega
  rename_i h1
  split at h
  · omega
  rename_i h2
  simp only [Int.toNat_natCast] at h2
  have hq1 : 1 ≤ q := by omega
  have hq2 : q ≤ 16 := by omega
  obtain ⟨M, hM⟩ : ∃ M, 64 * q = M := ⟨_, rfl⟩
  rw [hM] at h2
  have x1 : (64 : Int) * (q : Int) = (M : Int) := by omega
  have hM0 : 64 ≤ M := by omega
  have hM1 : M ≤ 1024 := by omega
  have d4 : wrap64 (M : Int) = (M : Int) := by unfold wrap64; omega
  have q0 : ((M : Int) == 0) = false := by simp; omega
  have p1 : decide ((q : Int) < 1) = false := by simp; omega
  have p2 : decide ((16 : Int) < (q : Int)) = false := by simp; omega
  have hR : n % M = 0 := by omega
  obtain ⟨D, hD⟩ : ∃ D, n / M = D := ⟨_, rfl⟩
  have HLF : Hid (loadF q b = ⟨q, b, List.replicate D 0, false, -1, []⟩) := by unfold loadF; rw [Hid, hn, hM, hD]
  have hnM : D * M = n := by rw [← hD]; exact Nat.div_mul_cancel (Nat.dvd_of_mod_eq_zero hR)
  rw [hD] at h2
  have HD := Lib.hid hD
  have HR := Lib.hid hR
  clear hD hR hM h h1
  have hD1 : 1 ≤ D := by omega
  have hD2 : D ≤ 64 := by omega
  have hn1 : 64 ≤ n := by have := Nat.mul_le_mul hD1 hM0; rw [hnM] at this; omega
  have hn2 : n ≤ 65536 := by have := Nat.mul_le_mul hD2 (show M ≤ 1024 by omega); rw [hnM] at this; omega
  clear hnM h2
  have hn0 : 0 < n := by omega
  have d3 : wrap64 (D : Int) = (D : Int) := by unfold wrap64; omega
  have e1 : decide ((D : Int) < 1) = false := by simp; omega
  have e2 : decide ((64 : Int) < (D : Int)) = false := by simp; omega
  obtain ⟨C3, hC3⟩ : ∃ C, madeCells #[.int .i64 0] D = C := ⟨_, rfl⟩
  have HC3 : Hid (C3.toList = icells (List.replicate D 0)) := by rw [← hC3]; exact made_k .i64 D
  have hm3 : ∀ wx : World, (Instr.makeSlice 44 (.int .i64 (D : Int)) (.int .i64 (D : Int))).run Try.prog wx = .ok (.slice (some ⟨wx.heap.size, 0, none⟩) D D) (wx.alloc (.cells C3 3)) := by
    intro wx
    rw [← hC3]
    exact mk3 D hD2 wx
  have HN := Lib.hid hn
  have HA := Lib.hid hA
  have HKL : Hid ((kcells .u8 b).length = n * 1) := by rw [Hid, kcells_length, hn, Nat.mul_one]
  obtain ⟨i5, hi5, hz50, hz51, hz52⟩ := info_parts info5
  obtain ⟨V, hV⟩ : ∃ V, w.alloc (.cells #[.slice none 0 0, .int .i64 0, .slice none 0 0, .bool false, .int .i64 0, .slice none 0 0] 60) = V := ⟨_, rfl⟩
  have HBV : Hid (Below w.heap.size w V) := by rw [← hV]; exact below_one _ _
  have H6 : Hid (six V w.heap.size (.slice none 0 0) (.int .i64 0) (.slice none 0 0) (.bool false) (.int .i64 0) (.slice none 0 0)) := by rw [← hV]; exact six_new _ _ _ _ _ _ _ _ _ rfl
  have hVlt : w.heap.size < V.heap.size := H6.out.lt
  have HSV : Hid (V.heap.size = w.heap.size + 1) := by rw [Hid, ← hV, World.size_alloc]
  have HRD : Hid (∀ wx : World, Below V.heap.size V wx → Rd wx w.heap.size A (kcells .u8 b)) := fun wx hbx => HA.out.below (HBV.out.trans (hbx.mono HBV.out.size)) (Nat.le_refl _)
  have hb1 : Below V.heap.size V (V.alloc (.cells #[] 5)).drew := Below.drew (below_one _ _)
  have hb2 : Below V.heap.size V ((V.alloc (.cells #[] 5)).alloc (.cells C3 3)).drew := Below.drew (below_two _ _ _)
  have hb3 : Below V.heap.size V ((V.alloc (.cells C3 3)).alloc (.cells #[] 5)).drew := Below.drew (below_two _ _ _)
  have HR1 := Lib.hid (HRD.out _ hb1)
  have HR2 := Lib.hid (HRD.out _ hb2)
  have HR3 := Lib.hid (HRD.out _ hb3)
  have HB1 := Lib.hid hb1
  have HB2 := Lib.hid hb2
  have HB3 := Lib.hid hb3
  have d1 : (n : Int) / (M : Int) = (D : Int) := by rw [← HD.out]; push_cast; rfl
  have d2 : (n : Int).tdiv (M : Int) = (D : Int) := by rw [Int.tdiv_eq_ediv_of_nonneg (Int.natCast_nonneg n)]; exact d1
  have r1 : (n : Int) % (M : Int) = 0 := by have : ((n % M : Nat) : Int) = 0 := by rw [HR.out]; rfl
                                            push_cast at this; exact this
  have r2 : (n : Int).tmod (M : Int) = 0 := by rw [Int.tmod_eq_emod_of_nonneg (Int.natCast_nonneg n)]; exact r1
  rw [HLF.out] at HOK ⊢
  clear hA hn hb hok hC3 hX hb1 hb2 hb3 HRD
  go_enter Try.func45, Try.ntmps45
  go_upto_region 6 with (fail)
  try rw [hV]
  clear hV d1 d2 r1 r2
  go_region_law (first
    | (refine step_append_zero rfl _ _ 23 rfl 5 i5 (.int .u8 0) 1 1 Try.underlying23 hi5 hz50 hz51 hz52 rfl (by omega) _ rfl w.heap.size _ n _ (kcells .u8 b) rfl HR1.out HKL.out (kcells_one _ _) hn0 (by unfold maxLen; omega) (by omega) ?_; intro v2 w2 ho2 hb2; have hBB := HB1.out.trans (hb2.mono HB1.out.size); obtain ⟨g2, c2, rfl, hc21, hc22, hg21, hg22⟩ := own_some ho2 hn0; obtain ⟨j0, j1, j2, j3, j4, j5, n0, n1, n2, n3, n4, n5⟩ := six_kept H6.out hBB; have hlt2 : w.heap.size < w2.heap.size := Nat.lt_of_lt_of_le hVlt hBB.size)
    | (refine step_append_zero rfl _ _ 23 rfl 5 i5 (.int .u8 0) 1 1 Try.underlying23 hi5 hz50 hz51 hz52 rfl (by omega) _ rfl w.heap.size _ n _ (kcells .u8 b) rfl HR2.out HKL.out (kcells_one _ _) hn0 (by unfold maxLen; omega) (by omega) ?_; intro v2 w2 ho2 hb2; have hBB := HB2.out.trans (hb2.mono HB2.out.size); obtain ⟨g2, c2, rfl, hc21, hc22, hg21, hg22⟩ := own_some ho2 hn0; obtain ⟨j0, j1, j2, j3, j4, j5, n0, n1, n2, n3, n4, n5⟩ := six_kept H6.out hBB; have hlt2 : w.heap.size < w2.heap.size := Nat.lt_of_lt_of_le hVlt hBB.size)
    | (refine step_append_zero rfl _ _ 23 rfl 5 i5 (.int .u8 0) 1 1 Try.underlying23 hi5 hz50 hz51 hz52 rfl (by omega) _ rfl w.heap.size _ n _ (kcells .u8 b) rfl HR3.out HKL.out (kcells_one _ _) hn0 (by unfold maxLen; omega) (by omega) ?_; intro v2 w2 ho2 hb2; have hBB := HB3.out.trans (hb2.mono HB3.out.size); obtain ⟨g2, c2, rfl, hc21, hc22, hg21, hg22⟩ := own_some ho2 hn0; obtain ⟨j0, j1, j2, j3, j4, j5, n0, n1, n2, n3, n4, n5⟩ := six_kept H6.out hBB; have hlt2 : w.heap.size < w2.heap.size := Nat.lt_of_lt_of_le hVlt hBB.size))
  · have hg : V.heap.size ≤ g2 := Nat.le_trans HB1.out.size hg21
    have hgl : w.heap.size < g2 := Nat.lt_of_lt_of_le hVlt hg
    have HO : Hid (w2.ownsRow w.heap.size 5 1 (.slice (some ⟨g2, 0, none⟩) n c2) n (kcells .u8 b)) := own_base ho2 (Nat.le_trans HBV.out.size HB1.out.size)
    have HBF : Hid (Below w.heap.size w w2) := HBV.out.trans (hBB.mono HBV.out.size)
    have HRI : Hid (RdX (fun k => X k ∨ k = w.heap.size) w2 (some ⟨g2, 0, none⟩) (kcells .u8 b)) := RdX.own (by rw [kcells_length]; exact HN.out) HO.out (fun k hk h => by
      have hk' : g2 = k := by simpa [Value.ownBlock] using hk
      rcases h with h | h
      · have := HX.out k h; omega
      · omega)
    have hsz : w.heap.size < w2.heap.size := hlt2
    clear ho2 hb2 hBB hg21 hg
    go_wp2
    (try simp only [Exit.inBlock, Exit.then])
    refine bodyPost_ret (v := .tuple #[.agg #[.slice (some ⟨g2, 0, none⟩) n c2, .int .i64 q, .slice (some ⟨w2.heap.size, 0, none⟩) D D, .bool false, .int .i64 (-1), .slice none 0 0], .int .i64 0]) ?_ rfl ⟨⟨some ⟨g2, 0, none⟩, c2, some ⟨w2.heap.size, 0, none⟩, D, none, 0⟩, by simp only [Rc.v, HN.out, List.length_replicate]; rfl, RAt.weak (X := fun k => X k ∨ k = w.heap.size) ?_ (fun _ => .inl), ?_⟩
    · rw [results_cell_tmp rfl]
      go_simp
    · have hro : RdX (fun k => X k ∨ k = w.heap.size) ((put6 w2 w.heap.size (.slice (some ⟨g2, 0, none⟩) n c2) (.int .i64 q) (.slice (some ⟨w2.heap.size, 0, none⟩) D D) (.bool false) (.int .i64 (-1)) (.slice none 0 0)).alloc (.cells C3 3)) (some ⟨w2.heap.size, 0, none⟩) (icells (List.replicate D 0)) := by
        have hs := put6_size w2 w.heap.size (.slice (some ⟨g2, 0, none⟩) n c2) (.int .i64 q) (.slice (some ⟨w2.heap.size, 0, none⟩) D D) (.bool false) (.int .i64 (-1)) (.slice none 0 0)
        have o := own_alloc (w := put6 w2 w.heap.size (.slice (some ⟨g2, 0, none⟩) n c2) (.int .i64 q) (.slice (some ⟨w2.heap.size, 0, none⟩) D D) (.bool false) (.int .i64 (-1)) (.slice none 0 0)) (base := w.heap.size) (e := 3) (cs := C3) HC3.out (by rw [icells_length, List.length_replicate]) (by rw [hs]; omega) (by unfold maxLen; omega)
        rw [hs] at o
        refine RdX.own (by rw [icells_length, List.length_replicate]) o (fun k hk h => ?_)
        have hk' : w2.heap.size = k := by simpa [Value.ownBlock] using hk
        rcases h with h | h
        · have := HX.out k h; omega
        · omega
      refine ⟨HOK.out, ?_, by simp only [HN.out]; exact hc21, hc22, hro, by simp only [List.length_replicate]; exact Nat.le_refl _, by show D ≤ maxLen; unfold maxLen; omega, RdX.nil, Nat.le_refl _, Nat.zero_le _⟩
      refine RdX.below ?_ (below_one _ _)
      (repeat (refine RdX.setCell ?_ _ _ (.inr rfl)))
      exact HRI.out
    · refine Below.alloc ?_ (by simp only [World.size_setCell]; omega) _
      (repeat (refine Below.setCell ?_ (by simp only; omega) _))
      exact HBF.out
  · have hg : V.heap.size ≤ g2 := Nat.le_trans HB2.out.size hg21
    have hgl : w.heap.size < g2 := Nat.lt_of_lt_of_le hVlt hg
    have HO : Hid (w2.ownsRow w.heap.size 5 1 (.slice (some ⟨g2, 0, none⟩) n c2) n (kcells .u8 b)) := own_base ho2 (Nat.le_trans HBV.out.size HB2.out.size)
    have HBF : Hid (Below w.heap.size w w2) := HBV.out.trans (hBB.mono HBV.out.size)
    have HRI : Hid (RdX (fun k => X k ∨ k = w.heap.size) w2 (some ⟨g2, 0, none⟩) (kcells .u8 b)) := RdX.own (by rw [kcells_length]; exact HN.out) HO.out (fun k hk h => by
      have hk' : g2 = k := by simpa [Value.ownBlock] using hk
      rcases h with h | h
      · have := HX.out k h; omega
      · omega)
    have HOW : Hid (w2.ownsRow w.heap.size 3 1 (.slice (some ⟨V.heap.size + 1, 0, none⟩) D D) D (icells (List.replicate D 0))) := by
      have o := own_below (own_alloc (w := V.alloc (.cells #[] 5)) (base := w.heap.size) (e := 3) (cs := C3) HC3.out (by rw [icells_length, List.length_replicate]) (by rw [World.size_alloc]; omega) (by unfold maxLen; omega)) (Below.drew (Below.refl _ _))
      rw [World.size_alloc] at o
      exact own_below o hb2
    have HRW : Hid (RdX (fun k => X k ∨ k = w.heap.size) w2 (some ⟨V.heap.size + 1, 0, none⟩) (icells (List.replicate D 0))) := RdX.own (by rw [icells_length, List.length_replicate]) HOW.out (fun k hk h => by
      have hk' : V.heap.size + 1 = k := by simpa [Value.ownBlock] using hk
      rcases h with h | h
      · have := HX.out k h; omega
      · omega)
    clear ho2 hb2 hBB hg21 hg
    go_wp2
    (try simp only [Exit.inBlock, Exit.then])
    refine bodyPost_ret (v := .tuple #[.agg #[.slice (some ⟨g2, 0, none⟩) n c2, .int .i64 q, .slice (some ⟨V.heap.size + 1, 0, none⟩) D D, .bool false, .int .i64 (-1), .slice none 0 0], .int .i64 0]) ?_ rfl ⟨⟨some ⟨g2, 0, none⟩, c2, some ⟨V.heap.size + 1, 0, none⟩, D, none, 0⟩, by simp only [Rc.v, HN.out, List.length_replicate]; rfl, RAt.weak (X := fun k => X k ∨ k = w.heap.size) ?_ (fun _ => .inl), ?_⟩
    · rw [results_cell_tmp rfl]
      go_simp
    · (repeat (refine RAt.setCell ?_ _ _ (.inr rfl)))
      exact ⟨HOK.out, HRI.out, by simp only [HN.out]; exact hc21, hc22, HRW.out, by simp only [List.length_replicate]; exact Nat.le_refl _, by show D ≤ maxLen; unfold maxLen; omega, RdX.nil, Nat.le_refl _, Nat.zero_le _⟩
    · (repeat (refine Below.setCell ?_ (by simp only; omega) _))
      exact HBF.out
  · have hg : V.heap.size ≤ g2 := Nat.le_trans HB3.out.size hg21
    have hgl : w.heap.size < g2 := Nat.lt_of_lt_of_le hVlt hg
    have HO : Hid (w2.ownsRow w.heap.size 5 1 (.slice (some ⟨g2, 0, none⟩) n c2) n (kcells .u8 b)) := own_base ho2 (Nat.le_trans HBV.out.size HB3.out.size)
    have HBF : Hid (Below w.heap.size w w2) := HBV.out.trans (hBB.mono HBV.out.size)
    have HRI : Hid (RdX (fun k => X k ∨ k = w.heap.size) w2 (some ⟨g2, 0, none⟩) (kcells .u8 b)) := RdX.own (by rw [kcells_length]; exact HN.out) HO.out (fun k hk h => by
      have hk' : g2 = k := by simpa [Value.ownBlock] using hk
      rcases h with h | h
      · have := HX.out k h; omega
      · omega)
    have HOW : Hid (w2.ownsRow w.heap.size 3 1 (.slice (some ⟨V.heap.size, 0, none⟩) D D) D (icells (List.replicate D 0))) := by
      have o := own_below (own_alloc (w := V) (base := w.heap.size) (e := 3) (cs := C3) HC3.out (by rw [icells_length, List.length_replicate]) (by omega) (by unfold maxLen; omega)) (Below.drew (below_one _ (.cells #[] 5)))
      exact own_below o hb2
    have HRW : Hid (RdX (fun k => X k ∨ k = w.heap.size) w2 (some ⟨V.heap.size, 0, none⟩) (icells (List.replicate D 0))) := RdX.own (by rw [icells_length, List.length_replicate]) HOW.out (fun k hk h => by
      have hk' : V.heap.size = k := by simpa [Value.ownBlock] using hk
      rcases h with h | h
      · have := HX.out k h; omega
      · omega)
    clear ho2 hb2 hBB hg21 hg
    go_wp2
    (try simp only [Exit.inBlock, Exit.then])
    refine bodyPost_ret (v := .tuple #[.agg #[.slice (some ⟨g2, 0, none⟩) n c2, .int .i64 q, .slice (some ⟨V.heap.size, 0, none⟩) D D, .bool false, .int .i64 (-1), .slice none 0 0], .int .i64 0]) ?_ rfl ⟨⟨some ⟨g2, 0, none⟩, c2, some ⟨V.heap.size, 0, none⟩, D, none, 0⟩, by simp only [Rc.v, HN.out, List.length_replicate]; rfl, RAt.weak (X := fun k => X k ∨ k = w.heap.size) ?_ (fun _ => .inl), ?_⟩
    · rw [results_cell_tmp rfl]
      go_simp
    · (repeat (refine RAt.setCell ?_ _ _ (.inr rfl)))
      exact ⟨HOK.out, HRI.out, by simp only [HN.out]; exact hc21, hc22, HRW.out, by simp only [List.length_replicate]; exact Nat.le_refl _, by show D ≤ maxLen; unfold maxLen; omega, RdX.nil, Nat.le_refl _, Nat.zero_le _⟩
    · (repeat (refine Below.setCell ?_ (by simp only; omega) _))
      exact HBF.out
end Go.Proofs.Ytfeceamhlphelaa
