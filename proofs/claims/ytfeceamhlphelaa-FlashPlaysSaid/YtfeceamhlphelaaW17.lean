/-
  The memory against the specification's (is).
-/
import Derived.Test.YtfeceamhlphelaaW16
namespace Go.Proofs.Ytfeceamhlphelaa
open Go.RowKit
set_option linter.unusedVariables false
set_option linter.unusedSimpArgs false

set_option maxRecDepth 100000 in
set_option maxHeartbeats 8000000 in
theorem same_any {w0 w : World} {L : Lc} {f g : Fl} {X : Nat → Prop} {x : Rc} (h : FlAt w0 w L f) (hx : RAt X w x g) (hs : Sim f g) :
    Calls Try.prog 41 #[.pointer (some ⟨L.d, 0, none⟩), x.v g] w fun e w' => e = .returned (.bool true) ∧ Below w.heap.size w w' := by
  obtain ⟨NI, hNI⟩ : ∃ n, g.img.length = n := ⟨_, rfl⟩
  obtain ⟨NW, hNW⟩ : ∃ n, g.wear.length = n := ⟨_, rfl⟩
  obtain ⟨NP, hNP⟩ : ∃ n, g.picks.length = n := ⟨_, rfl⟩
  obtain ⟨str, hstr⟩ : ∃ s, strOfNums g.img = s := ⟨_, rfl⟩
  have hwb : NW ≤ maxLen := by rw [← hNW]; exact Nat.le_trans hx.b1 hx.b2
  have hsi : f.img = g.img := hs.img.symm
  have hsw : f.wear = g.wear := hs.wear.symm
  have HSI := Lib.hid hsi
  have HSW := Lib.hid hsw
  have hd : f.down = g.down := hs.down.symm
  have hp : f.pg = g.pg := hs.pg.symm
  have HD := Lib.hid hd
  have HP := Lib.hid hp
  have HX := Lib.hid hx
  have H := Lib.hid h
  have HNI := Lib.hid hNI
  have HNW := Lib.hid hNW
  have HST := Lib.hid hstr
  obtain ⟨A, c, B, d, P, r⟩ := x
  show Calls Try.prog 41 #[.pointer (some ⟨L.d, 0, none⟩), .agg #[.slice A g.img.length c, .int .i64 g.pg, .slice B g.wear.length d, .bool g.down, .int .i64 g.fuse, .slice P g.picks.length r]] w _
  rw [hNI, hNW, hNP]
  obtain ⟨V, hV⟩ : ∃ V, w.alloc (.cells #[.slice A NI c, .int .i64 g.pg, .slice B NW d, .bool g.down, .int .i64 g.fuse, .slice P NP r] 60) = V := ⟨_, rfl⟩
  have HBV : Hid (Below w.heap.size w V.drew) := by rw [← hV]; exact Below.drew ((Below.refl _ _).alloc (Nat.le_refl _) _)
  have v0 : V.cell? ⟨w.heap.size, 0, none⟩ = some (.slice A NI c) := by rw [← hV]; exact cell_new_at _ _ _ _ _ _ rfl rfl
  have v1 : V.cell? ⟨w.heap.size, 1, none⟩ = some (.int .i64 g.pg) := by rw [← hV]; exact cell_new_at _ _ _ _ _ _ rfl rfl
  have v2 : V.cell? ⟨w.heap.size, 2, none⟩ = some (.slice B NW d) := by rw [← hV]; exact cell_new_at _ _ _ _ _ _ rfl rfl
  have v3 : V.cell? ⟨w.heap.size, 3, none⟩ = some (.bool g.down) := by rw [← hV]; exact cell_new_at _ _ _ _ _ _ rfl rfl
  have hgV : w.heap.size < V.heap.size := World.block_lt_of_cell? V _ v0
  have HFD : Hid (FlAt w0 V.drew L f) := H.out.later HBV.out
  have HXD : Hid (RAt X V.drew ⟨A, c, B, d, P, r⟩ g) := HX.out.below HBV.out
  have t0 : (convert 23 9 (.slice A NI c)).run Try.prog V.drew = .ok (.string str) V.drew := by rw [← HST.out]; exact str_of HXD.out.a.rd HNI.out
  have hk2 : ∀ w' : World, Below V.drew.heap.size V.drew w' → w'.cell? ⟨w.heap.size, 0, none⟩ = some (.slice A NI c) ∧ w'.cell? ⟨w.heap.size, 1, none⟩ = some (.int .i64 g.pg) ∧ w'.cell? ⟨w.heap.size, 2, none⟩ = some (.slice B NW d) ∧ w'.cell? ⟨w.heap.size, 3, none⟩ = some (.bool g.down) ∧ (convert 23 9 (.slice A NI c)).run Try.prog w' = .ok (.string str) w' := fun w' hb =>
    ⟨(hb.cell (p := ⟨w.heap.size, 0, none⟩) hgV).trans v0, (hb.cell (p := ⟨w.heap.size, 1, none⟩) hgV).trans v1, (hb.cell (p := ⟨w.heap.size, 2, none⟩) hgV).trans v2, (hb.cell (p := ⟨w.heap.size, 3, none⟩) hgV).trans v3, by rw [← HST.out]; exact str_of (HXD.out.a.below hb).rd HNI.out⟩
  have HK2 := Lib.hid hk2
  have e1 : (((f.wear.length : Nat) : Int) == (NW : Int)) = true := by rw [hsw, hNW]; simp
  clear hx h hNI hNW hNP hstr hk2 hs hsi hsw
  rw [HSW.out, HNW.out] at e1
  go_enter Try.func41, Try.ntmps41
  go_upto_region 1 with (fail)
  try rw [hV]
  clear hV
  refine wp_region_noPanic ?_
  refine wp_region_held_drew (S := (fun w' => w'.cell? ⟨w.heap.size, 0, none⟩ = some (.slice A NI c) ∧ w'.cell? ⟨w.heap.size, 1, none⟩ = some (.int .i64 g.pg) ∧ w'.cell? ⟨w.heap.size, 2, none⟩ = some (.slice B NW d) ∧ w'.cell? ⟨w.heap.size, 3, none⟩ = some (.bool g.down) ∧ (convert 23 9 (.slice A NI c)).run Try.prog w' = .ok (.string str) w')) (by kernel_rfl) ?_ (fun hHeld => ?_)
  · first | assumption | exact HK2.out _ (Below.refl _ _) | exact HK2.out _ hb2 | exact HK2.out _ hb3 | exact HK2.out _ hb5
  refine wpAnyH_take (i := 0) (v := ?_) rfl (by kernel_rfl) (by kernel_rfl) (by kernel_rfl) (fun _ _ _ h => h) (Or.inl ⟨by rfl, ?_⟩) (by assumption) ?_
  rotate_left
  focus (intro w hSw; (try dsimp only at hSw); go_simp; (try with_reducible rfl))
  try simp only [Act.put, List.setIfInBounds_toArray, List.set_cons_zero, List.set_cons_succ]
  refine wpAnyH_take (i := 2) (v := ?_) rfl (by kernel_rfl) (by kernel_rfl) (by kernel_rfl) (fun _ _ _ h => h) (Or.inl ⟨by rfl, ?_⟩) (by assumption) ?_
  rotate_left
  focus (intro w hSw; (try dsimp only at hSw); go_simp; (try with_reducible rfl))
  try simp only [Act.put, List.setIfInBounds_toArray, List.set_cons_zero, List.set_cons_succ]
  refine wpAnyH_take (i := 3) (v := ?_) rfl (by kernel_rfl) (by kernel_rfl) (by kernel_rfl) (fun _ _ _ h => h) (Or.inl ⟨by rfl, ?_⟩) (by assumption) ?_
  rotate_left
  focus (intro w hSw; (try dsimp only at hSw); go_simp; (try with_reducible rfl))
  try simp only [Act.put, List.setIfInBounds_toArray, List.set_cons_zero, List.set_cons_succ]
  refine wpAnyH_take (i := 4) (v := ?_) rfl (by kernel_rfl) (by kernel_rfl) (by kernel_rfl) (fun _ _ _ h => h) (Or.inl ⟨by rfl, ?_⟩) (by assumption) ?_
  rotate_left
  focus (intro w hSw; (try dsimp only at hSw); go_simp; (try with_reducible rfl))
  try simp only [Act.put, List.setIfInBounds_toArray, List.set_cons_zero, List.set_cons_succ]
  refine wpAnyH_ready (rs := [1]) (by kernel_rfl) (by simp) ?_
  refine AllReadyH.cons rfl (fun K hK => ?_) AllReadyH.nil
  go_simp
  go_at_call 42
  with_reducible refine (blocks_any HFD.out).mono ?_
  rintro e w1 ⟨rfl, rfl⟩
  rw [HSW.out, HNW.out]
  refine hK.out _ _ ?_ (fun hHeld => ?_)
  · first | assumption | exact HK2.out _ (Below.refl _ _) | exact HK2.out _ hb2 | exact HK2.out _ hb3 | exact HK2.out _ hb5
  clear hK K
  try simp only [Act.put, List.setIfInBounds_toArray, List.set_cons_zero, List.set_cons_succ]
  refine wpAnyH_take (i := 5) (v := ?_) rfl (by kernel_rfl) (by kernel_rfl) (by kernel_rfl) (fun _ _ _ h => h) (Or.inl ⟨by rfl, ?_⟩) (by assumption) ?_
  rotate_left
  focus (intro w hSw; (try dsimp only at hSw); go_simp; (try with_reducible rfl))
  try simp only [Act.put, List.setIfInBounds_toArray, List.set_cons_zero, List.set_cons_succ]
  refine wpAnyH_take (i := 6) (v := ?_) rfl (by kernel_rfl) (by kernel_rfl) (by kernel_rfl) (fun _ _ _ h => h) (Or.inl ⟨by rfl, ?_⟩) (by assumption) ?_
  rotate_left
  focus (intro w hSw; (try dsimp only at hSw); go_simp; (try with_reducible rfl))
  try simp only [Act.put, List.setIfInBounds_toArray, List.set_cons_zero, List.set_cons_succ]
  refine wpAnyH_take (i := 7) (v := ?_) rfl (by kernel_rfl) (by kernel_rfl) (by kernel_rfl) (fun _ _ _ h => h) (Or.inl ⟨by rfl, ?_⟩) (by assumption) ?_
  rotate_left
  focus (intro w hSw; (try dsimp only at hSw); go_simp; (try with_reducible rfl))
  try simp only [Act.put, List.setIfInBounds_toArray, List.set_cons_zero, List.set_cons_succ]
  refine wpAnyH_take (i := 9) (v := ?_) rfl (by kernel_rfl) (by kernel_rfl) (by kernel_rfl) (fun _ _ _ h => h) (Or.inl ⟨by rfl, ?_⟩) (by assumption) ?_
  rotate_left
  focus (intro w hSw; (try dsimp only at hSw); go_simp; (try with_reducible rfl))
  try simp only [Act.put, List.setIfInBounds_toArray, List.set_cons_zero, List.set_cons_succ]
  refine wpAnyH_take (i := 10) (v := ?_) rfl (by kernel_rfl) (by kernel_rfl) (by kernel_rfl) (fun _ _ _ h => h) (Or.inl ⟨by rfl, ?_⟩) (by assumption) ?_
  rotate_left
  focus (intro w hSw; (try dsimp only at hSw); go_simp; (try with_reducible rfl))
  try simp only [Act.put, List.setIfInBounds_toArray, List.set_cons_zero, List.set_cons_succ]
  refine wpAnyH_ready (rs := [8]) (by kernel_rfl) (by simp) ?_
  refine AllReadyH.cons rfl (fun K hK => ?_) AllReadyH.nil
  go_simp
  go_at_call 43
  with_reducible refine (pages_any HFD.out).mono ?_
  rintro e w1 ⟨rfl, rfl⟩
  rw [HP.out]
  refine hK.out _ _ ?_ (fun hHeld => ?_)
  · first | assumption | exact HK2.out _ (Below.refl _ _) | exact HK2.out _ hb2 | exact HK2.out _ hb3 | exact HK2.out _ hb5
  clear hK K
  try simp only [Act.put, List.setIfInBounds_toArray, List.set_cons_zero, List.set_cons_succ]
  refine wpAnyH_take (i := 11) (v := ?_) rfl (by kernel_rfl) (by kernel_rfl) (by kernel_rfl) (fun _ _ _ h => h) (Or.inl ⟨by rfl, ?_⟩) (by assumption) ?_
  rotate_left
  focus (intro w hSw; (try dsimp only at hSw); go_simp; (try with_reducible rfl))
  try simp only [Act.put, List.setIfInBounds_toArray, List.set_cons_zero, List.set_cons_succ]
  refine wpAnyH_take (i := 12) (v := ?_) rfl (by kernel_rfl) (by kernel_rfl) (by kernel_rfl) (fun _ _ _ h => h) (Or.inl ⟨by rfl, ?_⟩) (by assumption) ?_
  rotate_left
  focus (intro w hSw; (try dsimp only at hSw); go_simp; (try with_reducible rfl))
  try simp only [Act.put, List.setIfInBounds_toArray, List.set_cons_zero, List.set_cons_succ]
  refine wpAnyH_take (i := 13) (v := ?_) rfl (by kernel_rfl) (by kernel_rfl) (by kernel_rfl) (fun _ _ _ h => h) (Or.inl ⟨by rfl, ?_⟩) (by assumption) ?_
  rotate_left
  focus (intro w hSw; (try dsimp only at hSw); go_simp; (try with_reducible rfl))
  try simp only [Act.put, List.setIfInBounds_toArray, List.set_cons_zero, List.set_cons_succ]
  refine wpAnyH_take (i := 14) (v := ?_) rfl (by kernel_rfl) (by kernel_rfl) (by kernel_rfl) (fun _ _ _ h => h) (Or.inl ⟨by rfl, ?_⟩) (by assumption) ?_
  rotate_left
  focus (intro w hSw; (try dsimp only at hSw); go_simp; (try with_reducible rfl))
  try simp only [Act.put, List.setIfInBounds_toArray, List.set_cons_zero, List.set_cons_succ]
  refine wpAnyH_take (i := 16) (v := ?_) rfl (by kernel_rfl) (by kernel_rfl) (by kernel_rfl) (fun _ _ _ h => h) (Or.inl ⟨by rfl, ?_⟩) (by assumption) ?_
  rotate_left
  focus (intro w hSw; (try dsimp only at hSw); go_simp; (try with_reducible rfl))
  try simp only [Act.put, List.setIfInBounds_toArray, List.set_cons_zero, List.set_cons_succ]
  refine wpAnyH_take (i := 17) (v := ?_) rfl (by kernel_rfl) (by kernel_rfl) (by kernel_rfl) (fun _ _ _ h => h) (Or.inl ⟨by rfl, ?_⟩) (by assumption) ?_
  rotate_left
  focus (intro w hSw; (try dsimp only at hSw); go_simp; (try with_reducible rfl))
  try simp only [Act.put, List.setIfInBounds_toArray, List.set_cons_zero, List.set_cons_succ]
  refine wpAnyH_ready (rs := [15]) (by kernel_rfl) (by simp) ?_
  refine AllReadyH.cons rfl (fun K hK => ?_) AllReadyH.nil
  go_simp
  go_at_call 33
  with_reducible refine (down_any HFD.out).mono ?_
  rintro e w1 ⟨rfl, rfl⟩
  rw [HD.out]
  refine hK.out _ _ ?_ (fun hHeld => ?_)
  · first | assumption | exact HK2.out _ (Below.refl _ _) | exact HK2.out _ hb2 | exact HK2.out _ hb3 | exact HK2.out _ hb5
  clear hK K
  try simp only [Act.put, List.setIfInBounds_toArray, List.set_cons_zero, List.set_cons_succ]
  refine wpAnyH_take (i := 18) (v := ?_) rfl (by kernel_rfl) (by kernel_rfl) (by kernel_rfl) (fun _ _ _ h => h) (Or.inl ⟨by rfl, ?_⟩) (by assumption) ?_
  rotate_left
  focus (intro w hSw; (try dsimp only at hSw); go_simp; (try with_reducible rfl))
  try simp only [Act.put, List.setIfInBounds_toArray, List.set_cons_zero, List.set_cons_succ]
  refine wpAnyH_take (i := 19) (v := ?_) rfl (by kernel_rfl) (by kernel_rfl) (by kernel_rfl) (fun _ _ _ h => h) (Or.inl ⟨by rfl, ?_⟩) (by assumption) ?_
  rotate_left
  focus (intro w hSw; (try dsimp only at hSw); go_simp; (try with_reducible rfl))
  try simp only [Act.put, List.setIfInBounds_toArray, List.set_cons_zero, List.set_cons_succ]
  refine wpAnyH_take (i := 20) (v := ?_) rfl (by kernel_rfl) (by kernel_rfl) (by kernel_rfl) (fun _ _ _ h => h) (Or.inl ⟨by rfl, ?_⟩) (by assumption) ?_
  rotate_left
  focus (intro w hSw; (try dsimp only at hSw); go_simp; (try with_reducible rfl))
  try simp only [Act.put, List.setIfInBounds_toArray, List.set_cons_zero, List.set_cons_succ]
  refine wpAnyH_take (i := 21) (v := ?_) rfl (by kernel_rfl) (by kernel_rfl) (by kernel_rfl) (fun _ _ _ h => h) (Or.inl ⟨by rfl, ?_⟩) (by assumption) ?_
  rotate_left
  focus (intro w hSw; (try dsimp only at hSw); go_simp; (try with_reducible rfl))
  try simp only [Act.put, List.setIfInBounds_toArray, List.set_cons_zero, List.set_cons_succ]
  refine wpAnyH_take (i := 23) (v := ?_) rfl (by kernel_rfl) (by kernel_rfl) (by kernel_rfl) (fun _ _ _ h => h) (Or.inl ⟨by rfl, ?_⟩) (by assumption) ?_
  rotate_left
  focus (intro w hSw; (try dsimp only at hSw); go_simp; (try with_reducible rfl))
  try simp only [Act.put, List.setIfInBounds_toArray, List.set_cons_zero, List.set_cons_succ]
  refine wpAnyH_take (i := 24) (v := ?_) rfl (by kernel_rfl) (by kernel_rfl) (by kernel_rfl) (fun _ _ _ h => h) (Or.inl ⟨by rfl, ?_⟩) (by assumption) ?_
  rotate_left
  focus (intro w hSw; (try dsimp only at hSw); go_simp; (try with_reducible rfl))
  try simp only [Act.put, List.setIfInBounds_toArray, List.set_cons_zero, List.set_cons_succ]
  refine wpAnyH_ready (rs := [22]) (by kernel_rfl) (by simp) ?_
  refine AllReadyH.cons rfl (fun K hK => ?_) AllReadyH.nil
  go_simp
  go_at_call 31
  with_reducible refine (wear_any HFD.out).mono ?_
  rintro e w2 ⟨v2', rfl, ho2, hb2⟩
  rw [HSW.out, HNW.out] at ho2
  obtain ⟨A2, c2, rfl, hc21, hc22, hr2⟩ := own_read ho2
  refine hK.out _ _ ?_ (fun hHeld => ?_)
  · first | assumption | exact HK2.out _ (Below.refl _ _) | exact HK2.out _ hb2 | exact HK2.out _ hb3 | exact HK2.out _ hb5
  clear hK K
  try simp only [Act.put, List.setIfInBounds_toArray, List.set_cons_zero, List.set_cons_succ]
  refine wpAnyH_ready (rs := [25]) (by kernel_rfl) (by simp) ?_
  refine AllReadyH.cons rfl (fun K hK => ?_) AllReadyH.nil
  go_simp
  go_at_call 51
  with_reducible refine (ints_any A2 B NW NW c2 d g.wear g.wear w2 hr2 (HXD.out.b.below hb2).rd HNW.out HNW.out hwb hwb).mono ?_
  rintro e w3 ⟨rfl, k3, rfl⟩
  have hb3 := Below.drewN hb2 k3
  simp only [decide_true]
  refine hK.out _ _ ?_ (fun hHeld => ?_)
  · first | assumption | exact HK2.out _ (Below.refl _ _) | exact HK2.out _ hb2 | exact HK2.out _ hb3 | exact HK2.out _ hb5
  clear hK K
  try simp only [Act.put, List.setIfInBounds_toArray, List.set_cons_zero, List.set_cons_succ]
  refine wpAnyH_take (i := 26) (v := ?_) rfl (by kernel_rfl) (by kernel_rfl) (by kernel_rfl) (fun _ _ _ h => h) (Or.inl ⟨by rfl, ?_⟩) (by assumption) ?_
  rotate_left
  focus (intro w hSw; (try dsimp only at hSw); go_simp; (try with_reducible rfl))
  try simp only [Act.put, List.setIfInBounds_toArray, List.set_cons_zero, List.set_cons_succ]
  refine wpAnyH_take (i := 27) (v := ?_) rfl (by kernel_rfl) (by kernel_rfl) (by kernel_rfl) (fun _ _ _ h => h) (Or.inl ⟨by rfl, ?_⟩) (by assumption) ?_
  rotate_left
  focus (intro w hSw; (try dsimp only at hSw); go_simp; (try with_reducible rfl))
  try simp only [Act.put, List.setIfInBounds_toArray, List.set_cons_zero, List.set_cons_succ]
  refine wpAnyH_take (i := 28) (v := ?_) rfl (by kernel_rfl) (by kernel_rfl) (by kernel_rfl) (fun _ _ _ h => h) (Or.inl ⟨by rfl, ?_⟩) (by assumption) ?_
  rotate_left
  focus (intro w hSw; (try dsimp only at hSw); go_simp; (try with_reducible rfl))
  try simp only [Act.put, List.setIfInBounds_toArray, List.set_cons_zero, List.set_cons_succ]
  refine wpAnyH_take (i := 31) (v := ?_) rfl (by kernel_rfl) (by kernel_rfl) (by kernel_rfl) (fun _ _ _ h => h) (Or.inl ⟨by rfl, ?_⟩) (by assumption) ?_
  rotate_left
  focus (intro w hSw; (try dsimp only at hSw); go_simp; (try with_reducible rfl))
  try simp only [Act.put, List.setIfInBounds_toArray, List.set_cons_zero, List.set_cons_succ]
  refine wpAnyH_take (i := 32) (v := ?_) rfl (by kernel_rfl) (by kernel_rfl) (by kernel_rfl) (fun _ _ _ h => h) (Or.inl ⟨by rfl, ?_⟩) (by assumption) ?_
  rotate_left
  focus (intro w hSw; (try dsimp only at hSw); go_simp; (try with_reducible rfl))
  try simp only [Act.put, List.setIfInBounds_toArray, List.set_cons_zero, List.set_cons_succ]
  refine wpAnyH_take (i := 33) (v := ?_) rfl (by kernel_rfl) (by kernel_rfl) (by kernel_rfl) (fun _ _ _ h => h) (Or.inl ⟨by rfl, ?_⟩) (by assumption) ?_
  rotate_left
  focus (intro w hSw; (try dsimp only at hSw); go_simp; (try with_reducible rfl))
  try simp only [Act.put, List.setIfInBounds_toArray, List.set_cons_zero, List.set_cons_succ]
  refine wpAnyH_ready (rs := [29]) (by kernel_rfl) (by simp) ?_
  refine AllReadyH.cons rfl (fun K hK => ?_) AllReadyH.nil
  go_simp
  go_at_call 36
  with_reducible refine (image_any (HFD.out.later hb3)).mono ?_
  rintro e w5 ⟨v5', rfl, ho5, hb4⟩
  rw [HSI.out, HNI.out] at ho5
  obtain ⟨A5, c5, rfl, hc51, hc52, hr5⟩ := own_read ho5
  have hb5 := hb3.trans (hb4.mono hb3.size)
  have t5 : (convert 23 9 (.slice A5 NI c5)).run Try.prog w5 = .ok (.string str) w5 := by rw [← HST.out]; exact str_of hr5 HNI.out
  refine hK.out _ _ ?_ (fun hHeld => ?_)
  · first | assumption | exact HK2.out _ (Below.refl _ _) | exact HK2.out _ hb2 | exact HK2.out _ hb3 | exact HK2.out _ hb5
  clear hK K
  try simp only [Act.put, List.setIfInBounds_toArray, List.set_cons_zero, List.set_cons_succ]
  refine wpAnyH_more (T := (fun w' => (convert 23 9 (.slice A5 NI c5)).run Try.prog w' = .ok (.string str) w' ∧ (fun w' => w'.cell? ⟨w.heap.size, 0, none⟩ = some (.slice A NI c) ∧ w'.cell? ⟨w.heap.size, 1, none⟩ = some (.int .i64 g.pg) ∧ w'.cell? ⟨w.heap.size, 2, none⟩ = some (.slice B NW d) ∧ w'.cell? ⟨w.heap.size, 3, none⟩ = some (.bool g.down) ∧ (convert 23 9 (.slice A NI c)).run Try.prog w' = .ok (.string str) w') w')) (fun _ h => h.2) _ _ _ _ ?_
  have hHeld2 : (fun w' => (convert 23 9 (.slice A5 NI c5)).run Try.prog w' = .ok (.string str) w' ∧ (fun w' => w'.cell? ⟨w.heap.size, 0, none⟩ = some (.slice A NI c) ∧ w'.cell? ⟨w.heap.size, 1, none⟩ = some (.int .i64 g.pg) ∧ w'.cell? ⟨w.heap.size, 2, none⟩ = some (.slice B NW d) ∧ w'.cell? ⟨w.heap.size, 3, none⟩ = some (.bool g.down) ∧ (convert 23 9 (.slice A NI c)).run Try.prog w' = .ok (.string str) w') w') w5 := ⟨t5, hHeld⟩
  refine wpAnyH_take (i := 30) (v := ?_) rfl (by kernel_rfl) (by kernel_rfl) (by kernel_rfl) (fun _ _ _ h => h) (Or.inl ⟨by rfl, ?_⟩) (by assumption) ?_
  rotate_left
  focus (intro w hSw; (try dsimp only at hSw); go_simp; (try with_reducible rfl))
  try simp only [Act.put, List.setIfInBounds_toArray, List.set_cons_zero, List.set_cons_succ]
  refine wpAnyH_take (i := 34) (v := ?_) rfl (by kernel_rfl) (by kernel_rfl) (by kernel_rfl) (fun _ _ _ h => h) (Or.inl ⟨by rfl, ?_⟩) (by assumption) ?_
  rotate_left
  focus (intro w hSw; (try dsimp only at hSw); go_simp; (try with_reducible rfl))
  try simp only [Act.put, List.setIfInBounds_toArray, List.set_cons_zero, List.set_cons_succ]
  refine wpAnyH_take (i := 35) (v := ?_) rfl (by kernel_rfl) (by kernel_rfl) (by kernel_rfl) (fun _ _ _ h => h) (Or.inl ⟨by rfl, ?_⟩) (by assumption) ?_
  rotate_left
  focus (intro w hSw; (try dsimp only at hSw); go_simp; (try with_reducible rfl))
  try simp only [Act.put, List.setIfInBounds_toArray, List.set_cons_zero, List.set_cons_succ]
  refine wpAnyH_take (i := 36) (v := ?_) rfl (by kernel_rfl) (by kernel_rfl) (by kernel_rfl) (fun _ _ _ h => h) (Or.inl ⟨by rfl, ?_⟩) (by assumption) ?_
  rotate_left
  focus (intro w hSw; (try dsimp only at hSw); go_simp; (try with_reducible rfl))
  try simp only [Act.put, List.setIfInBounds_toArray, List.set_cons_zero, List.set_cons_succ]
  refine wpAnyH_done (by kernel_rfl) ?_ _
  refine NoPanic.normal ?_
  have HB5 : Hid (Below w.heap.size w w5) := HBV.out.trans (hb5.mono HBV.out.size)
  clear hHeld2 hHeld
  go_simp
  go_wp2
  go_ret
  exact ⟨rfl, HB5.out⟩
end Go.Proofs.Ytfeceamhlphelaa
