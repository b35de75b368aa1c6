/-
  A new flash.
-/
import Derived.Test.YtfeceamhlphelaaW6
import Derived.Deep.OwnRows
namespace Go.Proofs.Ytfeceamhlphelaa
open Go.RowKit
set_option linter.unusedVariables false

theorem made_k (k : IntKind) (n : Nat) : (madeCells #[.int k 0] n).toList = kcells k (List.replicate n 0) := by
  apply List.ext_getElem?
  intro j
  simp only [madeCells, kcells, Array.toList_map, Array.toList_range, List.getElem?_map]
  by_cases hj : j < n
  · rw [List.getElem?_range hj, List.getElem?_replicate, if_pos hj]
    simp
    rw [Nat.mod_one]
    rfl
  · rw [List.getElem?_eq_none (by simp; omega), List.getElem?_replicate, if_neg hj]
    rfl

theorem frozen_row {w : World} {g j : Nat} {cs : Array Value} {t : TypeId} (h : w.heap[g]? = some (.cells cs t (0, 0))) : w.frozen? ⟨g, j, none⟩ = false := by
  simp [World.frozen?, h]

/-- A flash that was just made. -/
theorem FlAt.fresh {w w' : World} (L : Lc) (f : Fl) (hok : f.ok) (hp : f.picks = []) (hb : Below w.heap.size w w') (hd : w'.heap[L.d]? = some (.cells #[.int .i64 f.pg, .slice (some ⟨L.gi, 0, none⟩) f.img.length L.ci, .slice (some ⟨L.gw, 0, none⟩) f.wear.length L.cw, .bool f.down, .int .i64 f.fuse, .slice none 0 0] 126 (0, 0)))
    (hbd : w.heap.size ≤ L.d) (ni : L.d ≠ L.gi) (nw : L.d ≠ L.gw) (iw : L.gi ≠ L.gw)
    (oi : w'.ownsRow w.heap.size 5 1 (.slice (some ⟨L.gi, 0, none⟩) f.img.length L.ci) f.img.length (kcells .u8 f.img)) (ow : w'.ownsRow w.heap.size 3 1 (.slice (some ⟨L.gw, 0, none⟩) f.wear.length L.cw) f.wear.length (icells f.wear))
    (hA : L.Ap = none) (hc : L.cp = 0) : FlAt w w' L f := by
  have hx : ∀ j, w'.cell? ⟨L.d, j, none⟩ = _ := fun j => cell_of_row w' L.d j _ 126 (0, 0) hd
  refine ⟨hok, hb, hbd, (Array.getElem?_eq_some_iff.1 hd).1, ni, nw, iw, ?_, ?_, ?_, ?_, ?_, ?_, fun j => frozen_row hd, oi, ow, ?_, ?_, ?_⟩
  · rw [hx 0]; rfl
  · rw [hx 1]; rfl
  · rw [hx 2]; rfl
  · rw [hx 3]; rfl
  · rw [hx 4]; rfl
  · rw [hx 5, hp, hA, hc]; rfl
  · rw [hp, hc]; exact Nat.le_refl _
  · rw [hc]; exact Nat.zero_le _
  · rw [hp]; exact fun h => absurd rfl h

theorem own_alloc {w : World} {base e : Nat} {cs : Array Value} {xs : List Value} {n : Nat} (hc : cs.toList = xs) (hl : xs.length = n) (hb : base ≤ w.heap.size) (hm : n ≤ maxLen) :
    (w.alloc (.cells cs e)).ownsRow base e 1 (.slice (some ⟨w.heap.size, 0, none⟩) n n) n xs := by
  refine ⟨by omega, .inr ⟨w.heap.size, n, cs, rfl, hb, ?_, Nat.le_refl _, hm, ?_, ?_⟩⟩
  · show (w.heap.push _)[w.heap.size]? = _
    simp
  · rw [← Array.length_toList, hc]; omega
  · rw [hc, List.take_of_length_le (by omega)]

theorem heap_new (w : World) (cs : Array Value) (e : Nat) : (w.alloc (.cells cs e)).heap[w.heap.size]? = some (.cells cs e (0, 0)) := by
  show (w.heap.push _)[w.heap.size]? = _
  simp

set_option maxRecDepth 100000 in
set_option maxHeartbeats 4000000 in
theorem new_ok (b p : Nat) (w : World) (h1 : 1 ≤ b) (h2 : b ≤ 64) (h3 : 1 ≤ p) (h4 : p ≤ 16) :
    Calls Try.prog 23 #[.int .i64 b, .int .i64 p] w fun e w' => ∃ L, e = .returned (.tuple #[.pointer (some ⟨L.d, 0, none⟩), .nilIface]) ∧ FlAt w w' L (newF b p) := by
  obtain ⟨N, hN⟩ : ∃ N, b * p * 64 = N := ⟨_, rfl⟩
  have hN2 : N ≤ 65536 := by rw [← hN]; have := Nat.mul_le_mul h2 h4; omega
  have hN1 : 64 ≤ N := by rw [← hN]; have := Nat.mul_le_mul h1 h3; omega
  have e1 : (b : Int) * (p : Int) * 64 = (N : Int) := by rw [← hN]; push_cast; rfl
  go_enter Try.func23, Try.ntmps23
  go_wp2_with (fail)
  (with_reducible refine (within_yes b 1 64 w (by omega) (by omega)).mono ?_)
  rintro e w1 ⟨rfl, rfl⟩
  go_wp2_with (fail)
  (with_reducible refine (within_yes p 1 16 w (by omega) (by omega)).mono ?_)
  rintro e w1 ⟨rfl, rfl⟩
  go_upto_region 3 with (fail)
  obtain ⟨C8, hC8⟩ : ∃ C, madeCells #[.int .u8 0] N = C := ⟨_, rfl⟩
  obtain ⟨C3, hC3⟩ : ∃ C, madeCells #[.int .i64 0] b = C := ⟨_, rfl⟩
  have HC8 : Hid (C8.toList = kcells .u8 (List.replicate N 0)) := by rw [← hC8]; exact made_k .u8 N
  have HC3 : Hid (C3.toList = icells (List.replicate b 0)) := by rw [← hC3]; exact made_k .i64 b
  have hm8 : ∀ wx : World, (Instr.makeSlice 23 (.int .i64 (N : Int)) (.int .i64 (N : Int))).run Try.prog wx = .ok (.slice (some ⟨wx.heap.size, 0, none⟩) N N) (wx.alloc (.cells C8 5)) := by
    intro wx
    rw [← hC8]
    exact run_make_row' 23 5 (.int .u8 0) 1 Try.underlying23 info5 rfl .i64 .i64 N (by omega) (by omega) wx
  have hm3 : ∀ wx : World, (Instr.makeSlice 44 (.int .i64 (b : Int)) (.int .i64 (b : Int))).run Try.prog wx = .ok (.slice (some ⟨wx.heap.size, 0, none⟩) b b) (wx.alloc (.cells C3 3)) := by
    intro wx
    rw [← hC3]
    exact run_make_row' 44 3 (.int .i64 0) 8 Try.underlying44 info3 rfl .i64 .i64 b (by omega) (by omega) wx
  have HN := Lib.hid hN
  obtain ⟨BP, hBP⟩ : ∃ BP, b * p = BP := ⟨_, rfl⟩
  have q1 : (b : Int) * (p : Int) = (BP : Int) := by rw [← hBP]; push_cast; rfl
  have q2 : (BP : Int) * 64 = (N : Int) := by rw [← hN, hBP]; push_cast; rfl
  have hBP2 : BP ≤ 1024 := by omega
  have q3 : IntKind.i64.wrap (BP : Int) = BP := IntWalk.i64_in _ (by omega)
  have q4 : IntKind.i64.wrap (N : Int) = N := IntWalk.i64_in _ (by omega)
  clear hC8 hC3 hN hBP e1
  have hok : (⟨p, List.replicate N 0, List.replicate b 0, false, -1, []⟩ : Fl).ok := ⟨h3, h4, by simpa using h1, by simpa using h2, by simp only [List.length_replicate]; exact HN.out.symm, (by
    intro x hx
    rw [List.mem_replicate] at hx
    omega), (by intro x hx; simp at hx), by simp, by simp⟩
  have HOK := Lib.hid hok
  clear hok
  go_region
  · obtain ⟨W, hW⟩ : ∃ W, (((w.alloc (.cells C8 5)).alloc (.cells C3 3)).alloc (.cells #[.int .i64 p, .slice (some ⟨w.heap.size, 0, none⟩) N N, .slice (some ⟨w.heap.size + 1, 0, none⟩) b b, .bool false, .int .i64 (-1), .slice none 0 0] 126)).drew = W := ⟨_, rfl⟩
    have hF : FlAt w W ⟨w.heap.size + 1 + 1, w.heap.size, w.heap.size + 1, N, b, none, 0⟩ ⟨p, List.replicate N 0, List.replicate b 0, false, -1, []⟩ := by
      have o1 := own_alloc (w := w) (base := w.heap.size) (e := 5) HC8.out (by rw [kcells_length, List.length_replicate]) (Nat.le_refl _) (by unfold maxLen; omega)
      have o2 := own_alloc (w := w.alloc (.cells C8 5)) (base := w.heap.size) (e := 3) HC3.out (by rw [icells_length, List.length_replicate]) (by simp) (by unfold maxLen; omega)
      rw [World.size_alloc] at o2
      rw [← hW]
      refine FlAt.fresh _ _ HOK.out rfl (Below.drew ((((Below.refl _ _).alloc (Nat.le_refl _) _).alloc (by simp) _).alloc (by simp; omega) _)) ?_ (by simp only; omega) (by simp only; omega) (by simp only; omega) (by simp only; omega) ?_ ?_ rfl rfl
      · have := heap_new ((w.alloc (.cells C8 5)).alloc (.cells C3 3)) #[.int .i64 p, .slice (some ⟨w.heap.size, 0, none⟩) N N, .slice (some ⟨w.heap.size + 1, 0, none⟩) b b, .bool false, .int .i64 (-1), .slice none 0 0] 126
        simp only [World.size_alloc] at this
        simp only [List.length_replicate]
        exact this
      · simp only [List.length_replicate]
        exact own_below ((o1.alloc _).alloc _) (Below.drew (Below.refl _ _))
      · simp only [List.length_replicate]
        exact own_below (o2.alloc _) (Below.drew (Below.refl _ _))
    rw [hW]
    clear hW
    have HF := Lib.hid hF
    clear hF
    generalize w.heap.size + 1 + 1 = d at *
    generalize w.heap.size + 1 = gw at *
    generalize w.heap.size = gi at *
    have h0 := HF.out.c1
    simp only [List.length_replicate] at h0
    go_wp2
    go_loopw [32] (fun i wr => ∃ j : Nat, j ≤ N ∧ i = .int .i64 j ∧ FlAt w wr ⟨d, gi, gw, N, b, none, 0⟩ ⟨p, lay (List.replicate N 0) 0 ((List.replicate N 255).take j), List.replicate b 0, false, -1, []⟩) (fun i _ => N - (intOf i).toNat)
    case atStart =>
      refine ⟨0, by omega, rfl, ?_⟩
      rw [List.take_zero, lay_nil]
      exact HF.out
    case round =>
      obtain ⟨j, hj, rfl, hF⟩ := hrel
      have HFj := Lib.hid hF
      clear hF
      have hll : (lay (List.replicate N 0) 0 ((List.replicate N 255).take j)).length = N := by rw [lay_length _ _ _ (by rw [List.length_take, List.length_replicate, List.length_replicate]; omega), List.length_replicate]
      have c1 := HFj.out.c1
      simp only [hll] at c1
      by_cases hlt : j < N
      · obtain ⟨z, hz⟩ := getElem?_of_lt (l := lay (List.replicate N 0) 0 ((List.replicate N 255).take j)) (k := j) (by rw [hll]; exact hlt)
        have d0 := HFj.out.byte hz
        have d1 := HFj.out.bfz j
        obtain ⟨n1, _⟩ := HFj.out.img j 255 (by omega)
        have hst := lay_step (img := List.replicate N 0) (b := List.replicate N 255) (a := 0) (i := j) (x := 255) (by rw [List.length_replicate, List.length_replicate]; omega) (by rw [List.getElem?_replicate, if_pos hlt])
        rw [Nat.zero_add] at hst
        simp only [hst] at n1
        have HN1 := Lib.hid n1
        clear hz n1 hst hll h0
        go_wp2
        go_roundw
        case rel => exact ⟨j + 1, by omega, by go_num, HN1.out⟩
        case measure => simp [intOf]; omega
      · have hjn : j = N := by omega
        subst hjn
        have hfin := HFj.out
        have hl2 : lay (List.replicate j 0) 0 ((List.replicate j 255).take j) = List.replicate j 255 := by
          rw [List.take_of_length_le (by rw [List.length_replicate]; exact Nat.le_refl _)]
          simp [lay]
        rw [hl2] at hfin
        have HFIN : Hid (FlAt w wr ⟨d, gi, gw, j, b, none, 0⟩ (newF b p)) := by
          unfold newF
          rw [HN.out]
          exact hfin
        clear hfin hl2 hll c1 h0
        go_wp2
        go_ret2
        exact ⟨⟨d, gi, gw, j, b, none, 0⟩, rfl, HFIN.out⟩
  · obtain ⟨W, hW⟩ : ∃ W, (((w.alloc (.cells C3 3)).alloc (.cells C8 5)).alloc (.cells #[.int .i64 p, .slice (some ⟨w.heap.size + 1, 0, none⟩) N N, .slice (some ⟨w.heap.size, 0, none⟩) b b, .bool false, .int .i64 (-1), .slice none 0 0] 126)).drew = W := ⟨_, rfl⟩
    have hF : FlAt w W ⟨w.heap.size + 1 + 1, w.heap.size + 1, w.heap.size, N, b, none, 0⟩ ⟨p, List.replicate N 0, List.replicate b 0, false, -1, []⟩ := by
      have o1 := own_alloc (w := w) (base := w.heap.size) (e := 3) HC3.out (by rw [icells_length, List.length_replicate]) (Nat.le_refl _) (by unfold maxLen; omega)
      have o2 := own_alloc (w := w.alloc (.cells C3 3)) (base := w.heap.size) (e := 5) HC8.out (by rw [kcells_length, List.length_replicate]) (by simp) (by unfold maxLen; omega)
      rw [World.size_alloc] at o2
      rw [← hW]
      refine FlAt.fresh _ _ HOK.out rfl (Below.drew ((((Below.refl _ _).alloc (Nat.le_refl _) _).alloc (by simp) _).alloc (by simp; omega) _)) ?_ (by simp only; omega) (by simp only; omega) (by simp only; omega) (by simp only; omega) ?_ ?_ rfl rfl
      · have := heap_new ((w.alloc (.cells C3 3)).alloc (.cells C8 5)) #[.int .i64 p, .slice (some ⟨w.heap.size + 1, 0, none⟩) N N, .slice (some ⟨w.heap.size, 0, none⟩) b b, .bool false, .int .i64 (-1), .slice none 0 0] 126
        simp only [World.size_alloc] at this
        simp only [List.length_replicate]
        exact this
      · simp only [List.length_replicate]
        exact own_below (o2.alloc _) (Below.drew (Below.refl _ _))
      · simp only [List.length_replicate]
        exact own_below ((o1.alloc _).alloc _) (Below.drew (Below.refl _ _))
    rw [hW]
    clear hW
    have HF := Lib.hid hF
    clear hF
    generalize w.heap.size + 1 + 1 = d at *
    generalize w.heap.size + 1 = gi at *
    generalize w.heap.size = gw at *
    have h0 := HF.out.c1
    simp only [List.length_replicate] at h0
    go_wp2
    go_loopw [32] (fun i wr => ∃ j : Nat, j ≤ N ∧ i = .int .i64 j ∧ FlAt w wr ⟨d, gi, gw, N, b, none, 0⟩ ⟨p, lay (List.replicate N 0) 0 ((List.replicate N 255).take j), List.replicate b 0, false, -1, []⟩) (fun i _ => N - (intOf i).toNat)
    case atStart =>
      refine ⟨0, by omega, rfl, ?_⟩
      rw [List.take_zero, lay_nil]
      exact HF.out
    case round =>
      obtain ⟨j, hj, rfl, hF⟩ := hrel
      have HFj := Lib.hid hF
      clear hF
      have hll : (lay (List.replicate N 0) 0 ((List.replicate N 255).take j)).length = N := by rw [lay_length _ _ _ (by rw [List.length_take, List.length_replicate, List.length_replicate]; omega), List.length_replicate]
      have c1 := HFj.out.c1
      simp only [hll] at c1
      by_cases hlt : j < N
      · obtain ⟨z, hz⟩ := getElem?_of_lt (l := lay (List.replicate N 0) 0 ((List.replicate N 255).take j)) (k := j) (by rw [hll]; exact hlt)
        have d0 := HFj.out.byte hz
        have d1 := HFj.out.bfz j
        obtain ⟨n1, _⟩ := HFj.out.img j 255 (by omega)
        have hst := lay_step (img := List.replicate N 0) (b := List.replicate N 255) (a := 0) (i := j) (x := 255) (by rw [List.length_replicate, List.length_replicate]; omega) (by rw [List.getElem?_replicate, if_pos hlt])
        rw [Nat.zero_add] at hst
        simp only [hst] at n1
        have HN1 := Lib.hid n1
        clear hz n1 hst hll h0
        go_wp2
        go_roundw
        case rel => exact ⟨j + 1, by omega, by go_num, HN1.out⟩
        case measure => simp [intOf]; omega
      · have hjn : j = N := by omega
        subst hjn
        have hfin := HFj.out
        have hl2 : lay (List.replicate j 0) 0 ((List.replicate j 255).take j) = List.replicate j 255 := by
          rw [List.take_of_length_le (by rw [List.length_replicate]; exact Nat.le_refl _)]
          simp [lay]
        rw [hl2] at hfin
        have HFIN : Hid (FlAt w wr ⟨d, gi, gw, j, b, none, 0⟩ (newF b p)) := by
          unfold newF
          rw [HN.out]
          exact hfin
        clear hfin hl2 hll c1 h0
        go_wp2
        go_ret2
        exact ⟨⟨d, gi, gw, j, b, none, 0⟩, rfl, HFIN.out⟩

theorem new_no (b p : Int) (w : World) (h : (b < 1 ∨ 64 < b) ∨ (p < 1 ∨ 16 < p)) :
    Calls Try.prog 23 #[.int .i64 b, .int .i64 p] w fun e w' => e = .returned (.tuple #[.pointer none, .iface 40 (.int .i64 3)]) ∧ w = w' := by
  by_cases h1 : b < 1 ∨ 64 < b
  · clear h
    have H1 := Lib.hid h1
    clear h1
    go_enter Try.func23, Try.ntmps23
    go_wp2_with (fail)
    (with_reducible refine (within_no b 1 64 w H1.out).mono ?_)
    rintro e w1 ⟨rfl, rfl⟩
    go_wp2
    go_ret2
    exact ⟨rfl, rfl⟩
  · have H1 : Hid (1 ≤ b ∧ b ≤ 64) := by show _ ∧ _; omega
    have H2 : Hid (p < 1 ∨ 16 < p) := by
      rcases h with h | h
      · exact absurd h h1
      · exact h
    clear h h1
    go_enter Try.func23, Try.ntmps23
    go_wp2_with (fail)
    (with_reducible refine (within_yes b 1 64 w H1.out.1 H1.out.2).mono ?_)
    rintro e w1 ⟨rfl, rfl⟩
    go_wp2_with (fail)
    (with_reducible refine (within_no p 1 16 w H2.out).mono ?_)
    rintro e w1 ⟨rfl, rfl⟩
    go_wp2
    go_ret2
    exact ⟨rfl, rfl⟩
end Go.Proofs.Ytfeceamhlphelaa
