
/-
  The reference of layer 51: blank, and the first page of a slot for any store.
-/
import Derived.Test.YtjdknddnanopaaaRW75
namespace Go.Proofs.Ytjdknddnanopaaa
open Go.RowKit
set_option linter.unusedVariables false
set_option linter.unusedSimpArgs false

theorem blankF_app (a b : List Int) : blankF (a ++ b) = (blankF a && blankF b) := by unfold blankF; exact List.all_append
theorem blankN_bytes (f : Fl) (a n : Nat) : blankF ((f.img.drop (64 * a)).take (64 * n)) = blankN f a n := by
  induction n with
  | zero => rfl
  | succ n ih =>
    rw [blankN_succ, show 64 * (n + 1) = 64 * n + 64 by omega, List.take_add, blankF_app, ih, List.drop_drop]
    congr 2
    unfold pageF
    rw [show 64 * a + 64 * n = 64 * (a + n) by omega]
set_option maxRecDepth 100000 in
theorem blank_r {X : Nat → Prop} {w : World} {x : Rc} {g : Fl} (h : RAt X w x g) (a n : Nat) (hn : 1 ≤ n) (hab : a + n ≤ g.wear.length * g.pg) :
    Calls Try.prog 133 #[x.v g, .int .i64 (a : Int), .int .i64 (n : Int)] w fun e w' => e = .returned (.bool (blankN g a n)) ∧ Below w.heap.size w w' := by
  have hil := h.img_len
  have hlen := h.ok.len
  have hc1 := h.a1
  have hc2 := h.a2
  have H := Lib.hid h
  rw [← blankN_bytes]
  obtain ⟨NI, hNI⟩ : ∃ n, g.img.length = n := ⟨_, rfl⟩
  have hhi : 64 * a + 64 * n ≤ NI := by rw [← hNI, hlen]; omega
  have HPL : Hid (((g.img.drop (64 * a)).take (64 * n)).length = 64 * n) := by rw [Hid, List.length_take, List.length_drop, hNI]; omega
  have HPB : Hid (Bytes ((g.img.drop (64 * a)).take (64 * n))) := fun y hy => h.ok.byt y (List.mem_of_mem_drop (List.mem_of_mem_take hy))
  rw [hNI] at hil hc1
  obtain ⟨A, c, B, d, P, r⟩ := x
  simp only at hc1 hc2
  unfold maxLen at hc2
  show Calls Try.prog 133 #[.agg #[.slice A g.img.length c, .int .i64 g.pg, .slice B g.wear.length d, .bool g.down, .int .i64 g.fuse, .slice P g.picks.length r], _, _] w _
  rw [hNI]
  obtain ⟨V, hV⟩ : ∃ V, w.alloc (.cells #[.slice A NI c, .int .i64 g.pg, .slice B g.wear.length d, .bool g.down, .int .i64 g.fuse, .slice P g.picks.length r] 37) = V := ⟨_, rfl⟩
  have HBV : Hid (Below w.heap.size w V) := by rw [← hV]; exact below_one _ _
  have v0 : V.cell? ⟨w.heap.size, 0, none⟩ = some (.slice A NI c) := by rw [← hV]; exact cell_new_at _ _ _ _ _ _ rfl rfl
  have hRA : Rd w w.heap.size A (kcells .u8 g.img) := H.out.a.rd
  have hA : ∃ bb off, A = some ⟨bb, off, none⟩ := by
    obtain ⟨b, off, e, _⟩ := hRA (by
      intro e
      have := congrArg List.length e
      rw [kcells_length, hNI] at this
      simp at this
      omega)
    exact ⟨b, off, e⟩
  obtain ⟨bb, off, rfl⟩ := hA
  have HRP : Hid (Rd w w.heap.size (some ⟨bb, off + 64 * a, none⟩) (kcells .u8 ((g.img.drop (64 * a)).take (64 * n)))) := hRA.part (64 * a) (64 * n)
  obtain ⟨l, hl⟩ : ∃ l, (g.img.drop (64 * a)).take (64 * n) = l := ⟨_, rfl⟩
  rw [hl] at HRP HPL HPB ⊢
  obtain ⟨m, hm⟩ : ∃ m, 64 * n = m := ⟨_, rfl⟩
  rw [hm] at HPL
  have k0 : IntKind.i64.wrap (64 * (a : Int)) = 64 * (a : Int) := wrap_i64_small _ (by omega) (by omega)
  have k00 : IntKind.i64.wrap ((a : Int) + (n : Int)) = (a : Int) + (n : Int) := wrap_i64_small _ (by omega) (by omega)
  have k01 : IntKind.i64.wrap (64 * ((a : Int) + (n : Int))) = 64 * ((a : Int) + (n : Int)) := wrap_i64_small _ (by omega) (by omega)
  have k1 : 64 * (a : Int) ≤ 64 * ((a : Int) + (n : Int)) := by omega
  have k2 : 64 * ((a : Int) + (n : Int)) ≤ (c : Int) := by omega
  have k3 : (0 : Int) ≤ 64 * (a : Int) := by omega
  have k4 : (64 * (a : Int)).toNat = 64 * a := by omega
  have k5 : (64 * ((a : Int) + (n : Int))).toNat = 64 * a + m := by omega
  have k6 : ¬ (c = 64 * a) := by omega
  have k7 : 64 * a + m - 64 * a = m := by omega
  have hm2 : m ≤ 1000000 := by omega
  clear h hNI hlen hRA hl hm
  go_enter Try.func133, Try.ntmps133
  go_wp2
  try rw [hV]
  clear hV
  go_loopw [19] (fun i wr => ∃ k : Nat, k ≤ m ∧ i = .int .i64 k ∧ blankF (l.take k) = true ∧ Below w.heap.size w wr) (fun i _ => m - (intOf i).toNat)
  case atStart => exact ⟨0, by omega, rfl, rfl, HBV.out⟩
  case round =>
    obtain ⟨k, hk, rfl, hgd, hbr⟩ := hrel
    have HGD := Lib.hid hgd
    have HBR := Lib.hid hbr
    clear hgd hbr
    by_cases hlt : k < m
    · obtain ⟨y, hy⟩ := getElem?_of_lt (l := l) (k := k) (by rw [HPL.out]; exact hlt)
      obtain ⟨ba, off', e, _, c0⟩ := (HRP.out.below HBR.out (Nat.le_refl _)).kint hy
      injection e with e
      injection e with e1 e2
      subst e1
      subst e2
      have HY := Lib.hid hy
      clear hy
      by_cases h255 : y = 255
      · subst h255
        go_wp2
        go_roundw
        case rel => exact ⟨k + 1, by omega, by go_num, blankF_step HY.out HGD.out rfl, HBR.out⟩
        case measure => simp [intOf]; omega
      · have hne : (y != 255) = true := by simpa using h255
        have HNO : Hid (blankF l = false) := blankF_no HY.out h255
        clear h255
        go_wp2
        go_ret
        exact ⟨by rw [HNO.out]; rfl, HBR.out⟩
    · have hkn : k = m := by omega
      subst hkn
      have HE : Hid (blankF l = true) := by
        have := HGD.out
        rw [List.take_of_length_le (by rw [HPL.out]; exact Nat.le_refl _)] at this
        exact this
      go_wp2
      go_ret
      exact ⟨by rw [HE.out]; rfl, HBR.out⟩

set_option maxRecDepth 100000 in
/-- The first page of a slot, for any store. -/
theorem first_v (x : Rc) (g : Fl) (f : Nat) (Q : Option Addr) (n cq : Nat) (u1 u3 u4 u5 u6 u7 u8 u9 u10 u11 u12 u13 u14 : Value) (b j : Nat) (w : World) (hf2 : f ≤ 64) (hb : b ≤ 64) (hj : j ≤ 64) (hn : n ≤ 48) (hp : g.pg ≤ 16) :
    Calls Try.prog 104 #[.agg #[.int .i64 (f : Int), u1, .slice Q n cq, u3, u4, u5, u6, u7, u8, u9, u10, u11, u12, u13, u14], x.v g, .int .i64 b, .int .i64 j] w fun e w' => e = .returned (.int .i64 (((f + b) * g.pg + j * pgs n : Nat) : Int)) ∧ Below w.heap.size w w' := by
  obtain ⟨B, cc, D, d, P, r⟩ := x
  show Calls Try.prog 104 #[.agg #[.int .i64 (f : Int), u1, .slice Q n cq, u3, u4, u5, u6, u7, u8, u9, u10, u11, u12, u13, u14], .agg #[.slice B g.img.length cc, .int .i64 g.pg, .slice D g.wear.length d, .bool g.down, .int .i64 g.fuse, .slice P g.picks.length r], _, _] w _
  have HPG : Hid (∀ w, Calls Try.prog 102 #[.int .i64 (n : Int)] w fun e w' => e = .returned (.int .i64 (pgs n : Nat)) ∧ w' = w) := fun w => (pages_r n (by omega) w).mono fun _ _ h => ⟨h.1, h.2.symm⟩
  have hk8 := pgs_le hn
  obtain ⟨K, hK⟩ : ∃ K, pgs n = K := ⟨_, rfl⟩
  obtain ⟨pg, hpg⟩ : ∃ pg, g.pg = pg := ⟨_, rfl⟩
  obtain ⟨fb, hfb⟩ : ∃ fb, f + b = fb := ⟨_, rfl⟩
  obtain ⟨M1, hM1⟩ : ∃ M, fb * pg = M := ⟨_, rfl⟩
  obtain ⟨M2, hM2⟩ : ∃ M, j * K = M := ⟨_, rfl⟩
  rw [hK] at HPG hk8
  rw [hpg] at hp
  have hM1b : M1 ≤ 128 * 16 := by rw [← hM1]; exact Nat.mul_le_mul (by omega) hp
  have hM2b : M2 ≤ 64 * 8 := by rw [← hM2]; exact Nat.mul_le_mul hj hk8
  rw [hK, hpg, hfb, hM1, hM2]
  have t1 : IntKind.i64.wrap ((f : Int) + (b : Int)) = (fb : Int) := by rw [show (f : Int) + (b : Int) = (fb : Int) by omega]; exact wrap_i64_small _ (by omega) (by omega)
  have t2 : IntKind.i64.wrap ((fb : Int) * (pg : Int)) = (M1 : Int) := by
    have e : (fb : Int) * (pg : Int) = (M1 : Int) := by rw [← hM1]; push_cast; rfl
    rw [e]
    exact wrap_i64_small _ (by omega) (by omega)
  have t3 : IntKind.i64.wrap ((j : Int) * (K : Int)) = (M2 : Int) := by
    have e : (j : Int) * (K : Int) = (M2 : Int) := by rw [← hM2]; push_cast; rfl
    rw [e]
    exact wrap_i64_small _ (by omega) (by omega)
  have t4 : IntKind.i64.wrap ((M1 : Int) + (M2 : Int)) = ((M1 + M2 : Nat) : Int) := by
    have e : (M1 : Int) + (M2 : Int) = ((M1 + M2 : Nat) : Int) := by push_cast; rfl
    rw [e]
    exact wrap_i64_small _ (by omega) (by omega)
  generalize M1 + M2 = M at *
  clear hK hpg hfb hM1 hM2
  go_enter Try.func104, Try.ntmps104
  go_wp2
  go_quiet ((go_at_call 102; with_reducible exact Calls.quiet_of_same (HPG.out _)))
  go_wp2
  go_ret
  exact ⟨rfl, Below.drewN (below_two _ _ _) _⟩
end Go.Proofs.Ytjdknddnanopaaa
