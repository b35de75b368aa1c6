
/-
  mapping.Decode and the reference's.
-/
import Derived.Test.YtjdknddnanopaaaBW22
import Derived.Deep.RegionLaw
namespace Go.Proofs.Ytjdknddnanopaaa.Bus
open Go.RowKit
set_option linter.unusedVariables false

theorem own_rd {w : World} {base e size n c : Nat} {A : Option Addr} {xs : List Value} (h : w.ownsRow base e size (.slice A n c) n xs) : Rd w w.heap.size A xs := by
  obtain ⟨A', c', hv, _, _, hr⟩ := own_read h
  injection hv with e1 e2 e3
  subst e1
  exact hr

/-- Part of a slice. -/
theorem Rd.part {w : World} {B bb off : Nat} {k : IntKind} {b : List Int} (h : Rd w B (some ⟨bb, off, none⟩) (kcells k b)) (i n : Nat) : Rd w B (some ⟨bb, off + i, none⟩) (kcells k ((b.drop i).take n)) := by
  intro hne
  have hb : kcells k b ≠ [] := by
    intro e
    apply hne
    have : b = [] := by simpa [kcells] using e
    subst this
    simp [kcells]
  obtain ⟨b', off', e, hlt, hc⟩ := h hb
  obtain ⟨rfl, rfl⟩ : bb = b' ∧ off = off' := by simpa using e
  refine ⟨bb, off + i, rfl, hlt, fun j u hu => ?_⟩
  rw [Nat.add_assoc]
  refine hc _ _ ?_
  simp only [kcells, List.map_take, List.map_drop, List.getElem?_take] at hu ⊢
  split at hu
  · rw [List.getElem?_drop] at hu
    exact hu
  · cases hu

set_option maxRecDepth 100000 in
set_option maxHeartbeats 4000000 in
theorem Decode_any (A : Option Addr) (n c : Nat) (b : List Int) (w : World) (hA : Rd w w.heap.size A (kcells .u8 b)) (hn : b.length = n) (hc : n ≤ c) (hcc : c ≤ maxLen) (hr : Bytes b) :
    Calls Try.prog 49 #[.slice A n c] w fun e w' => ∃ Ar cr, e = .returned (.tuple #[.agg #[.int .i64 (decO b).1.1, .slice Ar (decO b).1.2.length cr], errV (decO b).2]) ∧ (decO b).1.2.length ≤ cr ∧ cr ≤ maxLen ∧
      Rd w' w'.heap.size Ar (kcells .u8 (decO b).1.2) ∧ Below w.heap.size w w' := by
  obtain ⟨q, hq⟩ : ∃ q, decO b = q := ⟨_, rfl⟩
  rw [hq]
  obtain ⟨⟨s, d⟩, ec⟩ := q
  simp only
  have HCC := Lib.hid hcc
  unfold maxLen at hcc
  unfold decO at hq
  rw [hn] at hq
  have HN := Lib.hid hn
  have HA := Lib.hid hA
  have HR := Lib.hid hr
  clear hn hA hr
  by_cases h3 : n < 3
  · rw [if_pos h3] at hq
    simp only [Prod.mk.injEq] at hq
    obtain ⟨⟨rfl, rfl⟩, rfl⟩ := hq
    go_enter Try.func49, Try.ntmps49
    go_wp2
    (try simp only [Exit.inBlock, Exit.then])
    refine bodyPost_ret (v := .tuple #[.agg #[.int .i64 0, .slice none 0 0], .iface 77 (.int .i64 18)]) ?_ rfl ⟨none, 0, rfl, Nat.le_refl _, Nat.zero_le _, fun h => absurd rfl h, ?_⟩
    · rw [results_cell_tmp rfl]
      go_simp
    · (try refine Below.setCell (p := ⟨w.heap.size, 1, none⟩) (Below.setCell (p := ⟨w.heap.size, 0, none⟩) ?_ (Nat.le_refl _) _) (Nat.le_refl _) _)
      exact (Below.refl _ _).alloc (Nat.le_refl _) _
  rw [if_neg h3] at hq
  obtain ⟨m, rfl⟩ : ∃ m, n = m + 3 := ⟨n - 3, by omega⟩
  obtain ⟨x1, hx1⟩ := getElem?_of_lt (l := b) (k := 1) (by rw [HN.out]; omega)
  obtain ⟨x0, hx0⟩ := getElem?_of_lt (l := b) (k := 0) (by rw [HN.out]; omega)
  obtain ⟨xl, hxl⟩ := getElem?_of_lt (l := b) (k := m + 2) (by rw [HN.out]; omega)
  rw [hx0, hx1, show m + 3 - 1 = m + 2 by omega, hxl, show m + 3 - 3 = m by omega] at hq
  simp only [Option.getD_some] at hq
  obtain ⟨bb, off, rfl, hbl, c0⟩ := HA.out.kint hx0
  have gx : ∀ (k : Nat) (z : Int), b[k]? = some z → w.cell? ⟨bb, off + k, none⟩ = some (.int .u8 z) := by
    intro k z hz
    obtain ⟨b2, o2, e, _, h⟩ := HA.out.kint hz
    obtain ⟨rfl, rfl⟩ : bb = b2 ∧ off = o2 := by simpa using e
    exact h
  have c1 := gx 1 x1 hx1
  have cl := gx (m + 2) xl hxl
  have hx0' := HR.out x0 (List.mem_of_getElem? hx0)
  have hx1' := HR.out x1 (List.mem_of_getElem? hx1)
  have hxl' := HR.out xl (List.mem_of_getElem? hxl)
  have h1m : (1 : Int) < (m : Int) + 3 := by omega
  clear gx hx0 hx1 hxl h3
  by_cases hform : x1 ≠ ((m + 3 : Nat) : Int) - 3 ∨ 35 < m + 3
  · rw [if_pos hform] at hq
    simp only [Prod.mk.injEq] at hq
    obtain ⟨⟨rfl, rfl⟩, rfl⟩ := hq
    by_cases h4 : x1 = m
    · have h5 : 32 < m := by omega
      subst h4
      clear hform
      go_enter Try.func49, Try.ntmps49
      go_wp2
      (try simp only [Exit.inBlock, Exit.then])
      refine bodyPost_ret (v := .tuple #[.agg #[.int .i64 0, .slice none 0 0], .iface 77 (.int .i64 2)]) ?_ rfl ⟨none, 0, rfl, Nat.le_refl _, Nat.zero_le _, fun h => absurd rfl h, ?_⟩
      · rw [results_cell_tmp rfl]
        go_simp
      · (try refine Below.setCell (p := ⟨w.heap.size, 1, none⟩) (Below.setCell (p := ⟨w.heap.size, 0, none⟩) ?_ (Nat.le_refl _) _) (Nat.le_refl _) _)
        exact (Below.refl _ _).alloc (Nat.le_refl _) _
    · have h4' : (x1 != (m : Int)) = true := by simp [h4]
      clear hform h4
      go_enter Try.func49, Try.ntmps49
      go_wp2
      (try simp only [Exit.inBlock, Exit.then])
      refine bodyPost_ret (v := .tuple #[.agg #[.int .i64 0, .slice none 0 0], .iface 77 (.int .i64 2)]) ?_ rfl ⟨none, 0, rfl, Nat.le_refl _, Nat.zero_le _, fun h => absurd rfl h, ?_⟩
      · rw [results_cell_tmp rfl]
        go_simp
      · (try refine Below.setCell (p := ⟨w.heap.size, 1, none⟩) (Below.setCell (p := ⟨w.heap.size, 0, none⟩) ?_ (Nat.le_refl _) _) (Nat.le_refl _) _)
        exact (Below.refl _ _).alloc (Nat.le_refl _) _
  rw [if_neg hform] at hq
  have h4 : x1 = m := by omega
  have h5 : m ≤ 32 := by omega
  subst h4
  clear hform
  obtain ⟨S, hS⟩ : ∃ S, sumF (b.take (m + 2)) = S := ⟨_, rfl⟩
  have hS256 : S < 256 := by rw [← hS]; exact sumF_lt (fun y hy => HR.out y (List.mem_of_mem_take hy))
  rw [hS] at hq
  have HSS := Lib.hid hS
  have HQ := Lib.hid hq
  clear hq hS
  go_enter Try.func49, Try.ntmps49
  go_upto_region 6 with (fail)
  obtain ⟨W, hW⟩ : ∃ W, w.alloc (.cells #[.int .i64 0, .slice none 0 0] 102) = W := ⟨_, rfl⟩
  have HBW : Hid (Below w.heap.size w W) := by rw [← hW]; exact (Below.refl _ _).alloc (Nat.le_refl _) _
  have k0 : W.cell? ⟨w.heap.size, 0, none⟩ = some (.int .i64 0) := by rw [← hW]; simp
  have k1 : W.cell? ⟨w.heap.size, 1, none⟩ = some (.slice none 0 0) := by rw [← hW]; simp
  have f0 : W.frozen? ⟨w.heap.size, 0, none⟩ = false := by rw [← hW]; simp
  have f1 : W.frozen? ⟨w.heap.size, 1, none⟩ = false := by rw [← hW]; simp
  have hlW : w.heap.size < W.heap.size := by rw [← hW]; simp
  rw [hW]
  clear hW
  have HAW := Lib.hid (HA.out.below HBW.out (Nat.le_refl _))
  have cl' : W.cell? ⟨bb, off + (m + 2), none⟩ = some (.int .u8 xl) := (HBW.out.cell (p := ⟨bb, off + (m + 2), none⟩) hbl).trans cl
  have c0' : W.cell? ⟨bb, off + 0, none⟩ = some (.int .u8 x0) := (HBW.out.cell (p := ⟨bb, off + 0, none⟩) hbl).trans c0
  have HRT : Hid (Rd W w.heap.size (some ⟨bb, off, none⟩) (kcells .u8 (b.take (m + 2)))) := by
    have := HAW.out.part 0 (m + 2)
    show Rd _ _ _ _
    simpa using this
  have HTL : Hid ((b.take (m + 2)).length = m + 2) := by rw [Hid, List.length_take, HN.out]; omega
  have HTB : Hid (Bytes (b.take (m + 2))) := fun y hy => HR.out y (List.mem_of_mem_take hy)
  have HSUM : Hid (∀ q, Calls Try.prog 94 #[.slice (some ⟨bb, off, none⟩) (m + 2) c] (W.drewN q) fun e w' => e = .returned (.int .i64 (S : Nat)) ∧ w' = W.drewN q) := fun q => by
    have := Sum_any (some ⟨bb, off, none⟩) (m + 2) c w.heap.size (b.take (m + 2)) (W.drewN q) HRT.out HTL.out (by omega) HCC.out HTB.out
    rw [HSS.out] at this
    exact this.mono fun _ _ ⟨x, y⟩ => ⟨x, y.symm⟩
  clear c0 c1 cl HRT
  by_cases hsum : xl = (S : Int)
  · have hd := HQ.out
    rw [if_neg (by simp [hsum])] at hd
    simp only [Prod.mk.injEq] at hd
    obtain ⟨⟨rfl, hdd⟩, rfl⟩ := hd
    have HD := Lib.hid hdd
    subst hsum
    clear hdd HQ
    go_quiet ((go_at_call 94; exact Calls.quiet_of_same (HSUM.out _)))
    have j0 : (W.drewN nq).cell? ⟨w.heap.size, 0, none⟩ = some (.int .i64 0) := k0
    have j1 : (W.drewN nq).cell? ⟨w.heap.size, 1, none⟩ = some (.slice none 0 0) := k1
    have e0 : (W.drewN nq).frozen? ⟨w.heap.size, 0, none⟩ = false := f0
    have e1 : (W.drewN nq).frozen? ⟨w.heap.size, 1, none⟩ = false := f1
    have jc : (W.drewN nq).cell? ⟨bb, off, none⟩ = some (.int .u8 x0) := by simpa using c0'
    have h0m : (0 : Int) < (m : Int) + 3 := by omega
    have hx0w : IntKind.i64.wrap x0 = x0 := IntWalk.i64_in _ (by omega)
    have ht2 : (2 + (m : Int)).toNat = m + 2 := by omega
    have hw2 : IntKind.i64.wrap (2 + (m : Int)) = 2 + m := IntWalk.i64_in _ (by omega)
    have HBD : Hid (Below w.heap.size w (W.drewN nq)) := Below.drewN HBW.out _
    have hlD : w.heap.size < (W.drewN nq).heap.size := hlW
    have HRP : Hid (Rd (W.drewN nq) w.heap.size (some ⟨bb, off + 2, none⟩) (kcells .u8 d)) := by
      rw [← HD.out]
      exact HAW.out.part 2 m
    have HDL : Hid (d.length = m) := by rw [← HD.out, Hid, List.length_take, List.length_drop, HN.out]; omega
    have HDK : Hid ((kcells .u8 d).length = m * 1) := by rw [Hid, kcells_length, HDL.out]; omega
    obtain ⟨i5, hi5, hz50, hz51, hz52⟩ := info_parts info5
    have hm0 : 0 ≤ maxLen := Nat.zero_le _
    have b1 : (2 : Int) ≤ 2 + (m : Int) := by omega
    have b2 : 2 + (m : Int) ≤ (c : Int) := by omega
    have b3 : c - 2 ≠ 0 := by omega
    have b4 : c ≠ 2 := by omega
    have hblD : bb < (W.drewN nq).heap.size := Nat.lt_trans hbl hlW
    generalize W.drewN nq = D at *
    have jc2 : (D.alloc (.cells #[] 5)).cell? ⟨bb, off, none⟩ = some (.int .u8 x0) := (((Below.refl D.heap.size D).alloc (Nat.le_refl _) (.cells #[] 5)).cell (p := ⟨bb, off, none⟩) hblD).trans jc
    clear k0 k1 f0 f1 c0' cl' HSUM HTB HTL HAW HBW hlW
    go_upto_region 8 with (fail)
    go_region_law (refine step_append_rd rfl (.tmp 45) (.tmp 49) 22 rfl D.heap.size 5 i5 (.int .u8 0) 1 1 Try.underlying22 hi5 hz50 hz51 hz52 rfl (by omega) _ 0 [] rfl (World.ownsRow_lit _ #[] 0 (Nat.le_refl _) hm0 rfl) w.heap.size _ m _ (kcells .u8 d) rfl (HRP.out.below (by first | exact (Below.drew (Below.refl w.heap.size D)).alloc (Nat.le_of_lt hlD) _ | exact Below.drew ((Below.refl w.heap.size D).alloc (Nat.le_of_lt hlD) _)) (Nat.le_refl _)) HDK.out (kcells_one _ _) (by unfold maxLen; omega) (by omega) (by simp) ?_; intro v' w' hown hgrow hat; obtain ⟨A', c', rfl, hc1, hc2, hrd⟩ := own_read hown; have hbx : Below D.heap.size D w' := Below.grown (by first | exact (Below.drew (Below.refl D.heap.size D)).alloc (Nat.le_refl _) _ | exact Below.drew ((Below.refl D.heap.size D).alloc (Nat.le_refl _) _)) hgrow (by simp) (fun k hk => by have hk' : some D.heap.size = some k := hk; injection hk'; omega); have zc := (hbx.cell (p := ⟨bb, off, none⟩) hblD).trans jc; have z0 := (hbx.cell (p := ⟨w.heap.size, 0, none⟩) hlD).trans j0; have z1 := (hbx.cell (p := ⟨w.heap.size, 1, none⟩) hlD).trans j1; have y0 := (hbx.frozen (p := ⟨w.heap.size, 0, none⟩) hlD).trans e0; have y1 := (hbx.frozen (p := ⟨w.heap.size, 1, none⟩) hlD).trans e1)
    all_goals
      have HOD : Hid (w'.ownsRow D.heap.size 5 1 (.slice A' (0 + m) c') (0 + m) (kcells .u8 d)) := hown
      have HBX : Hid (Below w.heap.size w w') := HBD.out.trans (hbx.mono (Nat.le_of_lt hlD))
      have HC1 : Hid (d.length ≤ c') := by rw [Hid, HDL.out]; omega
      have HC2 := Lib.hid hc2
      clear hown hrd hbx hc1 hc2
      go_wp2
      (try simp only [Exit.inBlock, Exit.then])
      refine bodyPost_ret (v := .tuple #[.agg #[.int .i64 x0, .slice A' (0 + m) c'], .nilIface]) ?_ rfl ⟨A', c', by rw [HDL.out, Nat.zero_add]; rfl, HC1.out, HC2.out, ?_, ?_⟩
      · rw [results_cell_tmp rfl]
        go_simp
      · have o2 := ownsRow_setCell_below (ownsRow_setCell_below HOD.out (a := ⟨w.heap.size, 0, none⟩) hlD (.int .i64 x0)) (a := ⟨w.heap.size, 1, none⟩) hlD (.slice A' m c')
        exact own_rd o2
      · exact Below.setCell (p := ⟨w.heap.size, 1, none⟩) (Below.setCell (p := ⟨w.heap.size, 0, none⟩) HBX.out (Nat.le_refl _) _) (Nat.le_refl _) _
  · have hd := HQ.out
    rw [if_pos hsum] at hd
    simp only [Prod.mk.injEq] at hd
    obtain ⟨⟨rfl, rfl⟩, rfl⟩ := hd
    have hsum' : (xl != (S : Int)) = true := by simp [hsum]
    clear HQ hsum
    go_quiet ((go_at_call 94; exact Calls.quiet_of_same (HSUM.out _)))
    have j0 : (W.drewN nq).cell? ⟨w.heap.size, 0, none⟩ = some (.int .i64 0) := k0
    have j1 : (W.drewN nq).cell? ⟨w.heap.size, 1, none⟩ = some (.slice none 0 0) := k1
    have e0 : (W.drewN nq).frozen? ⟨w.heap.size, 0, none⟩ = false := f0
    have e1 : (W.drewN nq).frozen? ⟨w.heap.size, 1, none⟩ = false := f1
    have HBD : Hid (Below w.heap.size w (W.drewN nq)) := Below.drewN HBW.out _
    generalize W.drewN nq = D at *
    clear k0 k1 f0 f1 c0' cl' HSUM HTB HTL HAW
    go_wp2
    (try simp only [Exit.inBlock, Exit.then])
    refine bodyPost_ret (v := .tuple #[.agg #[.int .i64 0, .slice none 0 0], .iface 77 (.int .i64 19)]) ?_ rfl ⟨none, 0, rfl, Nat.le_refl _, Nat.zero_le _, fun h => absurd rfl h, ?_⟩
    · rw [results_cell_tmp rfl]
      go_simp
    · (try refine Below.setCell (p := ⟨w.heap.size, 1, none⟩) (Below.setCell (p := ⟨w.heap.size, 0, none⟩) ?_ (Nat.le_refl _) _) (Nat.le_refl _) _)
      exact HBD.out
end Go.Proofs.Ytjdknddnanopaaa.Bus
