/-
  The statements' helpers: Clip, size, fill.
-/
import Derived.Test.YtfeceamhlphelaaW7
import Derived.Lib.MinMax
namespace Go.Proofs.Ytfeceamhlphelaa
open Go.RowKit
set_option linter.unusedVariables false

def clipI (x lo hi : Int) : Int := max lo (min x hi)

theorem clip_any (x lo hi : Int) (w : World) : Calls Try.prog 24 #[.int .i64 x, .int .i64 lo, .int .i64 hi] w fun e w' => e = .returned (.int .i64 (clipI x lo hi)) ∧ w = w' := by
  go_enter Try.func24, Try.ntmps24
  go_wp2
  go_ret
  exact ⟨rfl, rfl⟩

theorem size_any (a b : Int) (w : World) : Calls Try.prog 22 #[.agg #[.int .i64 a, .int .i64 b]] w fun e w' => e = .returned (.tuple #[.int .i64 (clipI a 1 4), .int .i64 (clipI b 1 4)]) ∧ Below w.heap.size w w' := by
  have HC : Hid (∀ x wx, Calls Try.prog 24 #[.int .i64 x, .int .i64 1, .int .i64 4] wx fun e w' => e = .returned (.int .i64 (clipI x 1 4)) ∧ w' = wx) := fun x wx => (clip_any x 1 4 wx).mono fun _ _ ⟨a, b⟩ => ⟨a, b.symm⟩
  go_enter Try.func22, Try.ntmps22
  go_upto_region 1 with (fail)
  obtain ⟨W, hW⟩ : ∃ W, w.alloc (.cells #[.int .i64 a, .int .i64 b] 22) = W := ⟨_, rfl⟩
  have HBW : Hid (Below w.heap.size w W) := by rw [← hW]; exact (Below.refl _ _).alloc (Nat.le_refl _) _
  have m0 : W.cell? ⟨w.heap.size, 0, none⟩ = some (.int .i64 a) := by rw [← hW]; simp
  have m1 : W.cell? ⟨w.heap.size, 1, none⟩ = some (.int .i64 b) := by rw [← hW]; simp
  rw [hW]
  clear hW
  go_quiet ((go_at_call 24; with_reducible exact Calls.quiet_of_same (HC.out _ _)))
  go_wp2
  go_ret2
  exact ⟨rfl, Below.drewN HBW.out _⟩

theorem own_k {w : World} {base e g n cap : Nat} {ki : IntKind} {l : List Int} (hl : l.length = n) (h : w.ownsRow base e 1 (.slice (some ⟨g, 0, none⟩) n cap) n (kcells ki l)) {k : Nat} {x : Int} (hx : l[k]? = some x) : w.cell? ⟨g, k, none⟩ = some (.int ki x) := by
  have := (List.getElem?_eq_some_iff.1 hx).1
  rw [h.cellAt k (by omega)]
  simp [kcells, hx]
theorem own_set_k {w : World} {base e g n cap : Nat} {ki : IntKind} {l : List Int} (h : w.ownsRow base e 1 (.slice (some ⟨g, 0, none⟩) n cap) n (kcells ki l)) (k : Nat) (x : Int) :
    (w.setCell ⟨g, k, none⟩ (.int ki x)).ownsRow base e 1 (.slice (some ⟨g, 0, none⟩) n cap) n (kcells ki (l.set k x)) := by
  have : kcells ki (l.set k x) = (kcells ki l).set k (.int ki x) := by simp [kcells]
  rw [this]
  exact (h.stored k (.int ki x)).1

/-- A page of one byte. -/
theorem fill_any (x : Int) (hx : 0 ≤ x ∧ x < 256) (w : World) : Calls Try.prog 27 #[.int .u8 x] w fun e w' => ∃ A, e = .returned (.slice A 64 64) ∧ w'.ownsRow w.heap.size 5 1 (.slice A 64 64) 64 (kcells .u8 (List.replicate 64 x)) ∧ Below w.heap.size w w' := by
  have hm8 : ∀ wx : World, (Instr.makeSlice 23 (.int .i64 64) (.int .i64 64)).run Try.prog wx = .ok (.slice (some ⟨wx.heap.size, 0, none⟩) 64 64) (wx.alloc (.cells (madeCells #[.int .u8 0] 64) 5)) := fun wx =>
    run_make_row' 23 5 (.int .u8 0) 1 Try.underlying23 info5 rfl .i64 .i64 64 (by omega) (by omega) wx
  have HC8 : Hid ((madeCells #[.int .u8 0] 64).toList = kcells .u8 (List.replicate 64 0)) := made_k .u8 64
  generalize madeCells #[.int .u8 0] 64 = C8 at *
  go_enter Try.func27, Try.ntmps27
  go_upto_region 2 with (fail)
  obtain ⟨W, hW⟩ : ∃ W, w.alloc (.cells C8 5) = W := ⟨_, rfl⟩
  have HBW : Hid (Below w.heap.size w W) := by rw [← hW]; exact (Below.refl _ _).alloc (Nat.le_refl _) _
  have HOW : Hid (W.ownsRow w.heap.size 5 1 (.slice (some ⟨w.heap.size, 0, none⟩) 64 64) 64 (kcells .u8 (List.replicate 64 0))) := by
    rw [← hW]
    exact own_alloc HC8.out (by rw [kcells_length, List.length_replicate]) (Nat.le_refl _) (by unfold maxLen; omega)
  rw [hW]
  clear hW hm8
  obtain ⟨hx1, hx2⟩ := hx
  go_wp2
  go_loopw [8] (fun i wr => ∃ j : Nat, j ≤ 64 ∧ i = .int .i64 j ∧ wr.ownsRow w.heap.size 5 1 (.slice (some ⟨w.heap.size, 0, none⟩) 64 64) 64 (kcells .u8 (lay (List.replicate 64 0) 0 ((List.replicate 64 x).take j))) ∧ Below w.heap.size w wr) (fun i _ => 64 - (intOf i).toNat)
  case atStart => exact ⟨0, by omega, rfl, by rw [List.take_zero, lay_nil]; exact HOW.out, HBW.out⟩
  case round =>
    obtain ⟨j, hj, rfl, hO, hB⟩ := hrel
    have HO := Lib.hid hO
    have HB := Lib.hid hB
    clear hO hB
    by_cases hlt : j < 64
    · have hll : (lay (List.replicate 64 0) 0 ((List.replicate 64 x).take j)).length = 64 := by rw [lay_length _ _ _ (by rw [List.length_take, List.length_replicate, List.length_replicate]; omega), List.length_replicate]
      obtain ⟨z, hz⟩ := getElem?_of_lt (l := lay (List.replicate 64 0) 0 ((List.replicate 64 x).take j)) (k := j) (by rw [hll]; exact hlt)
      have d0 := own_k hll HO.out hz
      have d1 : wr.frozen? ⟨w.heap.size, j, none⟩ = false := HO.out.frozenAt _
      have hst := lay_step (img := List.replicate 64 0) (b := List.replicate 64 x) (a := 0) (i := j) (x := x) (by rw [List.length_replicate, List.length_replicate]; omega) (by rw [List.getElem?_replicate, if_pos hlt])
      rw [Nat.zero_add] at hst
      have n1 := own_set_k HO.out j x
      rw [hst] at n1
      have HN1 := Lib.hid n1
      have HN2 : Hid (Below w.heap.size w _) := HB.out.setCell (p := ⟨w.heap.size, j, none⟩) (Nat.le_refl _) (.int .u8 x)
      clear hz n1 hst hll
      go_wp2
      go_roundw
      case rel => exact ⟨j + 1, by omega, by go_num, HN1.out, HN2.out⟩
      case measure => simp [intOf]; omega
    · have hjn : j = 64 := by omega
      subst hjn
      have hl2 : lay (List.replicate 64 0) 0 ((List.replicate 64 x).take 64) = List.replicate 64 x := by
        rw [List.take_of_length_le (by rw [List.length_replicate]; exact Nat.le_refl _)]
        simp [lay]
      have hfin := HO.out
      rw [hl2] at hfin
      have HFIN := Lib.hid hfin
      clear hfin hl2
      go_wp2
      go_ret
      exact ⟨_, rfl, HFIN.out, HB.out⟩

theorem set_same {α : Type} {l : List α} {j : Nat} {z : α} (h : l[j]? = some z) : l.set j z = l := by
  apply List.ext_getElem?
  intro k
  rw [List.getElem?_set]
  split
  · rename_i e
    subst e
    rw [if_pos (List.getElem?_eq_some_iff.1 h).1, h]
  · rfl
theorem cell_new_at (w : World) (cs : Array Value) (t : TypeId) (j : Nat) (u : Value) (g : Nat) (hg : g = w.heap.size) (h : cs[j]? = some u) : (w.alloc (.cells cs t)).cell? ⟨g, j, none⟩ = some u := by
  subst hg
  rw [World.cell?_alloc_new]
  exact h

def pageO (n : Int) (b : List Int) : List Int := if n = 7 then b.take 100 else (List.range 64).map (fun i => b[i % b.length]?.getD 0)
theorem pageO_bytes {n : Int} {b : List Int} (hb : Bytes b) : Bytes (pageO n b) := by
  unfold pageO
  split
  · exact fun x hx => hb x (List.mem_of_mem_take hx)
  · intro x hx
    simp only [List.mem_map] at hx
    obtain ⟨i, _, rfl⟩ := hx
    cases e : b[i % b.length]? with
    | none => simp
    | some y => exact hb y (List.mem_of_getElem? e)

theorem apart_own {L : Lc} {w0 w w' : World} {f : Fl} (h : FlAt w0 w L f) {A : Option Addr} {n c e : Nat} {xs : List Value} (hn : xs.length = n) (ho : w'.ownsRow w.heap.size e 1 (.slice A n c) n xs) : Apart L w' A xs := by
  intro hne
  obtain ⟨b, off, hA, hlt, hc⟩ := own_rd ho hne
  obtain ⟨A', c', hv, _, _, hpos⟩ := own_form ho
  injection hv with e1 e2 e3
  obtain ⟨g, hg, hb1, hb2⟩ := hpos (by
    cases xs with
    | nil => exact absurd rfl hne
    | cons x r => simp at hn; omega)
  rw [← e1, hA] at hg
  injection hg with hg
  injection hg with hg1 hg2
  have hd := h.ld
  have hi := h.bi.2
  have hw := h.bw.2
  exact ⟨b, off, hA, hlt, by omega, by omega, by omega, hc⟩
theorem apart_rd {L : Lc} {w0 w : World} {f : Fl} (h : FlAt w0 w L f) {A : Option Addr} {xs : List Value} (hr : Rd w w0.heap.size A xs) : Apart L w A xs := by
  intro hne
  obtain ⟨b, off, hA, hlt, hc⟩ := hr hne
  have hd := h.bd
  have hi := h.bi.1
  have hw := h.bw.1
  exact ⟨b, off, hA, Nat.lt_of_lt_of_le hlt h.below.size, by omega, by omega, by omega, hc⟩

set_option maxRecDepth 100000 in
set_option maxHeartbeats 2000000 in
theorem page_any (k a n : Int) (B : Option Addr) (m e : Nat) (b : List Int) (P : Option Addr) (q r : Nat) (B0 : Nat) (w : World) (hB : Rd w B0 B (kcells .u8 b)) (hB0 : B0 ≤ w.heap.size) (hm : b.length = m) (hme : m ≤ e) (hemx : e ≤ maxLen) (hb : Bytes b) :
    Calls Try.prog 25 #[.agg #[.int .u8 k, .int .i64 a, .int .i64 n, .slice B m e, .slice P q r]] w fun e w' => ∃ A m' c', e = .returned (.slice A m' c') ∧ (pageO n b).length = m' ∧ m' ≤ c' ∧ c' ≤ maxLen ∧ Below w.heap.size w w' ∧ ((A = B ∧ n = 7) ∨ w'.ownsRow w.heap.size 5 1 (.slice A m' c') m' (kcells .u8 (pageO n b))) := by
  unfold maxLen at hemx
  by_cases h7 : n = 7
  · have HL : Hid ((pageO n b).length = min m 100) := by unfold pageO; rw [Hid, if_pos h7, List.length_take, hm]; exact Nat.min_comm _ _
    have hsl : (min (m : Int) 100) = ((min m 100 : Nat) : Int) := by omega
    obtain ⟨M, hM⟩ : ∃ M, min m 100 = M := ⟨_, rfl⟩
    rw [hM] at HL hsl
    have k1 : (0 : Int) ≤ (M : Int) := by omega
    have k2 : (M : Int) ≤ (e : Int) := by omega
    subst h7
    clear hM hB hm
    go_enter Try.func25, Try.ntmps25
    go_wp2
    go_ret
    exact ⟨B, M, e, rfl, HL.out, by omega, by unfold maxLen; omega, (Below.refl _ _).alloc (Nat.le_refl _) _, .inl (by simp)⟩
  · have h7' : (n == 7) = false := by simpa using h7
    obtain ⟨pg, hpg⟩ : ∃ pg, pageO n b = pg := ⟨_, rfl⟩
    have hpg2 : pg = (List.range 64).map (fun i => b[i % b.length]?.getD 0) := by rw [← hpg]; unfold pageO; rw [if_neg h7]
    have hpl : pg.length = 64 := by rw [hpg2]; simp
    have HPG : Hid (∀ j, j < 64 → pg[j]? = some (b[j % m]?.getD 0)) := by
      intro j hj
      rw [hpg2, ← hm]
      simp [hj]
    have HPL := Lib.hid hpl
    have HPE := Lib.hid hpg
    have HM := Lib.hid hm
    have HBB := Lib.hid hB
    have hm8 : ∀ wx : World, (Instr.makeSlice 23 (.int .i64 64) (.int .i64 64)).run Try.prog wx = .ok (.slice (some ⟨wx.heap.size, 0, none⟩) 64 64) (wx.alloc (.cells (madeCells #[.int .u8 0] 64) 5)) := fun wx =>
      run_make_row' 23 5 (.int .u8 0) 1 Try.underlying23 info5 rfl .i64 .i64 64 (by omega) (by omega) wx
    have HC8 : Hid ((madeCells #[.int .u8 0] 64).toList = kcells .u8 (List.replicate 64 0)) := made_k .u8 64
    generalize madeCells #[.int .u8 0] 64 = C8 at *
    clear hpg hpg2 hpl hm hB
    go_enter Try.func25, Try.ntmps25
    go_upto_region 4 with (fail)
    obtain ⟨V, hV⟩ : ∃ W, w.alloc (.cells #[.int .u8 k, .int .i64 a, .int .i64 n, .slice B m e, .slice P q r] 36) = W := ⟨_, rfl⟩
    have HBV : Hid (Below w.heap.size w V) := by rw [← hV]; exact (Below.refl _ _).alloc (Nat.le_refl _) _
    have v3 : V.cell? ⟨w.heap.size, 3, none⟩ = some (.slice B m e) := by rw [← hV]; exact cell_new_at _ _ _ _ _ _ rfl rfl
    have hsV : V.heap.size = w.heap.size + 1 := by rw [← hV]; simp
    rw [hV]
    clear hV
    obtain ⟨W, hW⟩ : ∃ W, V.alloc (.cells C8 5) = W := ⟨_, rfl⟩
    have HBW : Hid (Below w.heap.size w W) := by rw [← hW]; exact HBV.out.alloc (by omega) _
    have hlV : w.heap.size < V.heap.size := by omega
    have w3 : W.cell? ⟨w.heap.size, 3, none⟩ = some (.slice B m e) := by rw [← hW]; exact (((Below.refl V.heap.size V).alloc (Nat.le_refl _) _).cell (p := ⟨w.heap.size, 3, none⟩) hlV).trans v3
    have HOW : Hid (W.ownsRow w.heap.size 5 1 (.slice (some ⟨w.heap.size + 1, 0, none⟩) 64 64) 64 (kcells .u8 (List.replicate 64 0))) := by
      rw [← hW, ← hsV]
      exact own_alloc HC8.out (by rw [kcells_length, List.length_replicate]) (by omega) (by unfold maxLen; omega)
    have hlW : w.heap.size < W.heap.size := World.block_lt_of_cell? W _ w3
    rw [hW]
    clear hW hm8 v3 HBV
    generalize hg : w.heap.size + 1 = g at *
    have HG := Lib.hid hg
    clear hg hsV hlV
    go_wp2
    go_loopw [18] (fun i wr => ∃ j : Nat, j ≤ 64 ∧ i = .int .i64 j ∧ wr.ownsRow w.heap.size 5 1 (.slice (some ⟨g, 0, none⟩) 64 64) 64 (kcells .u8 (lay (List.replicate 64 0) 0 (pg.take j))) ∧ Below w.heap.size w wr ∧ wr.cell? ⟨w.heap.size, 3, none⟩ = some (.slice B m e)) (fun i _ => 64 - (intOf i).toNat)
    case atStart => exact ⟨0, by omega, rfl, by rw [List.take_zero, lay_nil]; exact HOW.out, HBW.out, w3⟩
    case round =>
      obtain ⟨j, hj, rfl, hO, hBr, x3⟩ := hrel
      have HO := Lib.hid hO
      have HBr := Lib.hid hBr
      have hgd : w.heap.size ≤ g ∧ g < wr.heap.size := hO.lt _ rfl
      clear hO hBr
      by_cases hlt : j < 64
      · have hll : (lay (List.replicate 64 0) 0 (pg.take j)).length = 64 := by rw [lay_length _ _ _ (by rw [List.length_take, HPL.out, List.length_replicate]; omega), List.length_replicate]
        obtain ⟨z, hz⟩ := getElem?_of_lt (l := lay (List.replicate 64 0) 0 (pg.take j)) (k := j) (by rw [hll]; exact hlt)
        have d0 := own_k hll HO.out hz
        have d1 : wr.frozen? ⟨g, j, none⟩ = false := HO.out.frozenAt _
        obtain ⟨y, hy⟩ := getElem?_of_lt (l := pg) (k := j) (by rw [HPL.out]; exact hlt)
        have hst := lay_step (img := List.replicate 64 0) (b := pg) (a := 0) (i := j) (x := y) (by rw [HPL.out, List.length_replicate]; omega) hy
        rw [Nat.zero_add] at hst
        have n1 := own_set_k HO.out j y
        rw [hst] at n1
        have HN1 := Lib.hid n1
        have HN2 : Hid (Below w.heap.size w _) := HBr.out.setCell (p := ⟨g, j, none⟩) hgd.1 (.int .u8 y)
        have hgb : g ≠ w.heap.size := by have := HG.out; omega
        have HN3 : Hid ((wr.setCell ⟨g, j, none⟩ (.int .u8 y)).cell? ⟨w.heap.size, 3, none⟩ = some (.slice B m e)) := (cell_of_block (Below.heap_setCell _ _ _ _ (by simp only; exact fun h => hgb h.symm))).trans x3
        by_cases hm0 : m = 0
        · have hy0 : y = z := by
            have h1 := HPG.out j hlt
            have hbn : b = [] := List.eq_nil_of_length_eq_zero (by rw [HM.out]; exact hm0)
            rw [hy, hbn] at h1
            rw [lay_get _ _ _ (by rw [List.length_take, HPL.out, List.length_replicate]; omega), List.length_take, HPL.out, if_neg (by omega), List.getElem?_replicate, if_pos hlt] at hz
            have h2 : y = 0 := by simpa using Option.some.inj h1
            rw [h2]
            exact Option.some.inj hz
          subst hy0
          have hsame := set_same hz
          rw [hsame] at hst
          have hO2 := HO.out
          rw [hst] at hO2
          have HO2 := Lib.hid hO2
          have hm0' : decide (0 < (m : Int)) = false := by simp; omega
          subst hm0
          clear hz n1 hst hll hy hsame hO2 hgd hgb HN1 HN2 HN3
          go_wp2
          go_roundw
          case rel => exact ⟨j + 1, by omega, by go_num, HO2.out, HBr.out, x3⟩
          case measure => simp [intOf]; omega
        · obtain ⟨jm, hjm⟩ : ∃ jm, j % m = jm := ⟨_, rfl⟩
          have hjl : jm < m := by rw [← hjm]; exact Nat.mod_lt _ (by omega)
          have r1 : (j : Int) % (m : Int) = jm := by rw [← hjm]; push_cast; rfl
          have r2 : (j : Int).tmod (m : Int) = jm := by rw [Int.tmod_eq_emod_of_nonneg (by omega)]; exact r1
          have r3 : ((m : Int) == 0) = false := by simp; omega
          have r4 : (0 : Int) < (m : Int) := by omega
          obtain ⟨y2, hy2⟩ := getElem?_of_lt (l := b) (k := jm) (by rw [HM.out]; exact hjl)
          have hyy : y2 = y := by
            have h1 := HPG.out j hlt
            rw [hy, hjm, hy2] at h1
            exact (Option.some.inj h1).symm
          subst hyy
          have HBr0 : Hid (Rd wr B0 B (kcells .u8 b)) := HBB.out.below HBr.out hB0
          obtain ⟨bb, off, rfl, hbl, c0⟩ := HBr0.out.kint hy2
          have HN4 : Hid (((wr.setCell ⟨g, j, none⟩ (.int .u8 y2)).drew).ownsRow w.heap.size 5 1 (.slice (some ⟨g, 0, none⟩) 64 64) 64 (kcells .u8 (lay (List.replicate 64 0) 0 (pg.take (j + 1))))) := own_below HN1.out (Below.drew (Below.refl _ _))
          clear hz n1 hst hll hy hgd hgb hy2 hjm hm0
          go_upto_region 8 with (fail)
          go_region
          all_goals
            go_wp2
            go_roundw
            case rel => exact ⟨j + 1, by omega, by go_num, HN4.out, Below.drew HN2.out, HN3.out⟩
            case measure => simp [intOf]; omega
      · have hjn : j = 64 := by omega
        subst hjn
        have hl2 : lay (List.replicate 64 0) 0 (pg.take 64) = pg := by
          rw [List.take_of_length_le (by rw [HPL.out]; exact Nat.le_refl _)]
          unfold lay
          rw [HPL.out]
          simp
        have hfin := HO.out
        rw [hl2] at hfin
        have HFIN := Lib.hid hfin
        clear hfin hl2
        go_wp2
        go_ret
        exact ⟨_, 64, 64, rfl, by rw [HPE.out]; exact HPL.out, by omega, by unfold maxLen; omega, HBr.out, .inr (by rw [HPE.out]; exact HFIN.out)⟩
end Go.Proofs.Ytfeceamhlphelaa
