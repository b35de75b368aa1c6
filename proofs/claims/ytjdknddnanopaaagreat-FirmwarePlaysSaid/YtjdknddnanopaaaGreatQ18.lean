/-
  Part 18 of the proof.
-/
import Derived.Test.YtjdknddnanopaaaGreatQ17
namespace Go.Proofs.YtjdknddnanopaaaGreat
open Go.RowKit Tryz
set_option maxRecDepth 100000
set_option maxHeartbeats 16000000
set_option linter.all false
variable {b : Bk} {g : Fl} {X : Nat → Prop} {B : Nat} {w w' : World} {r : Rb} {x : Rc} {n : Int} {e : Ending}
def wZ (X : Nat → Prop) (B : Nat) (w : World) (r : Rb) (g : Fl) (q : Bk × List Int × Int) (e : Ending) (w' : World) : Prop :=
 ∃ A n c, e = .returned (.tuple #[.agg (ba r q.1), .slice A n c, .int .i64 q.2.2]) ∧ q.2.1.length = n ∧ n ≤ c ∧ c ≤ maxLen ∧ cn X w' A (ag .u8 q.2.1) ∧ gP X B w' r q.1 g.pg ∧ bW w w'
theorem wZ.no (h : gP X B w r b g.pg) (hb : bW w w') (k : Int) (he : e = .returned (.tuple #[.agg (ba r b), .slice none 0 0, .int .i64 k])) : wZ X B w r g (b, [], k) e w' :=
 ⟨none, 0, 0, he, rfl, Nat.le_refl _, Nat.zero_le _, fun e => absurd rfl e, h.below hb, hb⟩
theorem Kx (ho : bS g b) {s : Nat} (hs : s ≤ 1) : ∃ l : Nat, aU b (4 + 3 * s) = l ∧ l ≤ aN g b.aa ∧ 0 ≤ aU b (5 + 3 * s) ∧ aU b (5 + 3 * s) < 4294967296 := by
 obtain ⟨a, t, k, v0, l0, c0, v1, l1, c1, hv, q1, q2, q3, q4, q5, q6, q7, q8, q9⟩ := ho.vec
 unfold aU
 rw [hv]
 rcases (by omega : s = 0 ∨ s = 1) with rfl | rfl
 ·exact ⟨l0, rfl, q5, (by show (0 : Int) ≤ (c0 : Int); omega), (by show ((c0 : Nat) : Int) < 4294967296; omega)⟩
 exact ⟨l1, rfl, q8, (by show (0 : Int) ≤ (c1 : Int); omega), (by show ((c1 : Nat) : Int) < 4294967296; omega)⟩
theorem Ek (r : Rb) (b : Bk) (x : Rc) (g : Fl) (hz : (ar b g).af = true) (s : Int) (w : World) :
 Calls prog 52 #[.agg (ba r b), .agg (xa x g), .int .i64 s] w fun e w' => e = .returned (.tuple #[.agg (ba r (ar b g)), .slice none 0 0, .int .i64 20]) ∧ bW w w' := by
 obtain ⟨C, hC⟩ := ex (ba r b)
 obtain ⟨F, hF⟩ := ex (xa x g)
 obtain ⟨C1, jg⟩ := ex (ba r (ar b g))
 have HD := iD (fun w => fY r b x g w)
 rw [hC, hF, jg] at HD
 rw [hz] at HD
 have HS : Hid (C.size = 26) := by rw [← hC]; exact bC _ _
 have lW : Hid (C1.size = 26) := by rw [← jg]; exact bC _ _
 have uH : Hid (F.size = 6) := by rw [← hF]; exact aQ _ _
 have iH : Hid (C1.all (·.oneCell') = true) := by rw [← jg]; exact eX _ _
 rw [hC, hF, jg]
 clear hC hF jg hz
 obtain ⟨W, hW⟩ := ex (((w.alloc (.cells C 45)).alloc (.cells F 35)).alloc (.cells zB 45))
 have H0 := iD (Fr.three hW)
 go_enter func52, ntmps52
 go_upto_region 1 with (fail)
 try rw [hW]
 clear hW
 refine wp_region_list ?_
 refine lB H0.aC HS ?_
 refine lF H0.dL uH ?_
 refine cP (HD W) ?_
 rintro e v1 ⟨rfl, dB⟩
 have H2 := iD (H0.ab dB)
 clear dB
 refine rP ?_
 refine wV (.tuple #[.agg C1, .bool true]) ?_
 refine wV (.agg C1) ?_
 refine wV (.bool true) ?_
 refine sP 0 H2 fun w3 _ H3 => ?_
 go_upto_region 3 with (fail)
 refine wp_region_list ?_
 refine lB H3.aC lW ?_
 refine sP 2 H3 fun w4 _ H4 => ?_
 go_wp2
 (try simp only [Exit.inBlock, Exit.then])
 refine rJ rfl H4.eT (gE lW) ⟨rfl, H4.below⟩
theorem Ej (h : gP X B w r b g.pg) (hR : cf X w x g) (hX : ∀ b, X b → b < w.heap.size) (ho : bS g b) (hw : Wk g b) (s : Int) :
 Calls prog 52 #[.agg (bq r b r.q b.st), .agg (xa x g), .int .i64 s] w (wZ X B w r g (dp b g s)) := by
 obtain ⟨b9, o9, tY, aW, fB⟩ := km h.v ho.JK
 have yR : (bq r b r.q b.st)[6]? = some (.slice (some ⟨b9, o9, none⟩) 9 r.q.c3) := by
  show some (Value.slice r.q.Q3 b.st.an.length r.q.c3) = _
  rw [tY, ho.JK]
 have oY : (bq r b r.q b.st)[19]? = some (.bool b.au) := rfl
 have wh : (bq r b r.q b.st)[20]? = some (.int .i64 b.dst) := rfl
 have HD := iD (fun w => fY r b x g w)
 rw [hw.rd, hw.br, kU] at HD
 obtain ⟨q, lk⟩ := ex (dp b g s)
 have fU : Hid (q = if ¬ (0 ≤ s ∧ s ≤ 1) then (b, [], 10) else if aU b (4 + 3 * s.toNat) = 0 ∨ (b.au = true ∧ (b.dst : Int) = s) then (b, [], 12) else if eS (fv g b s.toNat (aU b (4 + 3 * s.toNat)).toNat) ≠ aU b (5 + 3 * s.toNat) then (b, [], 19) else (b, fv g b s.toNat (aU b (4 + 3 * s.toNat)).toNat, 0)) := by
  rw [Hid, ← lk]
  unfold dp
  rw [hw.rd, iN (by rw [hw.br]; decide)]
 rw [lk]
 have HX := iD hX
 have HH := iD h
 have zi := iD hR
 have gV := iD ho
 have Nw := iD yR
 have uK := iD oY
 have PQ := iD wh
 obtain ⟨W, hW⟩ := ex (((w.alloc (.cells (bq r b r.q b.st) 45)).alloc (.cells (xa x g) 35)).alloc (.cells zB 45))
 have H0 := iD (Fr.three hW)
 by_cases fp : s < 0
 ·clear fB
  clear yR oY wh hX h hR ho hw lk tY
  go_enter func52, ntmps52
  go_upto_region 1 with (fail)
  try rw [hW]
  clear hW
  refine wp_region_list ?_
  refine jM H0.aC ?_
  refine xr H0.dL ?_
  refine cP (HD W) ?_
  rintro e v1 ⟨rfl, dB⟩
  have H2 := iD (H0.ab dB)
  clear dB
  refine rP ?_
  refine wV (.tuple #[.agg (bq r b r.q b.st), .bool false]) ?_
  refine wV (.agg (bq r b r.q b.st)) ?_
  refine wV (.bool false) ?_
  refine sP 0 H2 fun w3 _ H3 => ?_
  go_upto_region 5 with (fail)
  refine wp_region_list ?_
  refine jM H3.aC ?_
  refine sP 2 H3 fun w4 _ H4 => ?_
  go_wp2
  (try simp only [Exit.inBlock, Exit.then])
  refine rJ rfl H4.eT (gE (aY r b r.q b.st)) (by rw [fU, iP oM]; exact wZ.no HH H4.below 10 rfl)
 by_cases gC : 1 < s
 ·clear fB
  clear yR oY wh hX h hR ho hw lk tY
  go_enter func52, ntmps52
  go_upto_region 1 with (fail)
  try rw [hW]
  clear hW
  refine wp_region_list ?_
  refine jM H0.aC ?_
  refine xr H0.dL ?_
  refine cP (HD W) ?_
  rintro e v1 ⟨rfl, dB⟩
  have H2 := iD (H0.ab dB)
  clear dB
  refine rP ?_
  refine wV (.tuple #[.agg (bq r b r.q b.st), .bool false]) ?_
  refine wV (.agg (bq r b r.q b.st)) ?_
  refine wV (.bool false) ?_
  refine sP 0 H2 fun w3 _ H3 => ?_
  go_upto_region 5 with (fail)
  refine wp_region_list ?_
  refine jM H3.aC ?_
  refine sP 2 H3 fun w4 _ H4 => ?_
  go_wp2
  (try simp only [Exit.inBlock, Exit.then])
  refine rJ rfl H4.eT (gE (aY r b r.q b.st)) (by rw [fU, iP oM]; exact wZ.no HH H4.below 10 rfl)
 obtain ⟨sn, rfl⟩ := Int.eq_ofNat_of_zero_le (a := s) oM
 have Uc : sn ≤ 1 := oM
 obtain ⟨L, hL, hLs, Dx, hV2⟩ := Kx ho Uc
 obtain ⟨V, hV⟩ := ex (aU b (5 + 3 * sn))
 rw [hV] at Dx hV2
 rw [Int.toNat_natCast, hL, hV, Int.toNat_natCast] at fU
 have GS := iD (pV hR.ok ho Uc hLs)
 have Dm := iD (fun (h1 : 1 ≤ L) (W : World) (hb : bW w W) => GH (r := r) hR ho ⟨rfl, rfl⟩ ho sn L Uc h1 hLs W hb)
 obtain ⟨img, Sp⟩ := ex (fv g b sn L)
 rw [Sp] at GS Dm fU
 obtain ⟨Z, hZ⟩ := ex (eS img)
 have HZ := iD hZ
 have YX : 0 ≤ Z ∧ Z < 4294967296 := by rw [← hZ]; exact l6 img
 obtain ⟨hZ3, hZ4⟩ := YX
 rw [hZ] at fU
 have QR := iD (fun (V9 : World) (hb : bW w V9) => (hb.cell (p := ⟨b9, o9 + (4 + 3 * sn), none⟩) aW).trans (fB (4 + 3 * sn) oM))
 rw [show b.st.an[4 + 3 * sn]?.getD 0 = (L : Int) from hL] at QR
 have o7 := iD (fun (V9 : World) (hb : bW w V9) => (hb.cell (p := ⟨b9, o9 + (5 + 3 * sn), none⟩) aW).trans (fB (5 + 3 * sn) oM))
 rw [show b.st.an[5 + 3 * sn]?.getD 0 = V from hV] at o7
 have hL8 : L ≤ 8192 := GS.2.2
 obtain ⟨up, gM⟩ := ex b.au
 obtain ⟨dd, Lx⟩ := ex b.dst
 rw [gM, Lx] at fU
 rw [gM] at uK
 rw [Lx] at PQ
 have i2 : ¬ ((1 : Int) < (sn : Int)) := oM
 have i3 : ¬ ((sn : Int) < 0) := oM
 have q1 : IntKind.i64.wrap (3 * (sn : Int)) = 3 * (sn : Int) := IntWalk.i64_in _ oM
 have q2 : IntKind.i64.wrap (4 + 3 * (sn : Int)) = 4 + 3 * (sn : Int) := IntWalk.i64_in _ oM
 have q3 : IntKind.i64.wrap (5 + 3 * (sn : Int)) = 5 + 3 * (sn : Int) := IntWalk.i64_in _ oM
 have k0 : (0 : Int) ≤ 4 + 3 * (sn : Int) := oM
 have k1 : 4 + 3 * (sn : Int) < 9 := oM
 have k2 : (4 + 3 * (sn : Int)).toNat = 4 + 3 * sn := oM
 have k3 : (0 : Int) ≤ 5 + 3 * (sn : Int) := oM
 have k4 : 5 + 3 * (sn : Int) < 9 := oM
 have k5 : (5 + 3 * (sn : Int)).toNat = 5 + 3 * sn := oM
 have q5 : IntKind.i64.wrap Z = Z := IntWalk.i64_in _ oM
 clear fp gC
 clear fB gM Lx hL hV Sp hZ yR oY wh hX h hR ho hw lk tY
 go_enter func52, ntmps52
 go_upto_region 1 with (fail)
 try rw [hW]
 clear hW
 refine wp_region_list ?_
 refine jM H0.aC ?_
 refine xr H0.dL ?_
 refine cP (HD W) ?_
 rintro e v1 ⟨rfl, dB⟩
 have H2 := iD (H0.ab dB)
 clear dB
 refine rP ?_
 refine wV (.tuple #[.agg (bq r b r.q b.st), .bool false]) ?_
 refine wV (.agg (bq r b r.q b.st)) ?_
 refine wV (.bool false) ?_
 refine sP 0 H2 fun w3 _ H3 => ?_
 have d6 := H3.cell0 6 Nw
 have d19 := H3.cell0 19 uK
 have d20 := H3.cell0 20 PQ
 have d4 := QR _ H3.below
 by_cases Qo : L = 0
 ·have hl0' : ((L : Int) == 0) = true := by simp; omega
  go_upto_region 8 with (fail)
  refine wp_region_list ?_
  refine jM H3.aC ?_
  refine sP 2 H3 fun w4 _ H4 => ?_
  go_wp2
  (try simp only [Exit.inBlock, Exit.then])
  refine rJ rfl H4.eT (gE (aY r b r.q b.st)) (by rw [fU, iN oM, iP (.inl oM)]; exact wZ.no HH H4.below 12 rfl)
 have hl0' : ((L : Int) == 0) = false := by simp; omega
 by_cases hud : up = true ∧ dd = sn
 ·obtain ⟨rfl, rfl⟩ := hud
  go_upto_region 8 with (fail)
  refine wp_region_list ?_
  refine jM H3.aC ?_
  refine sP 2 H3 fun w4 _ H4 => ?_
  go_wp2
  (try simp only [Exit.inBlock, Exit.then])
  refine rJ rfl H4.eT (gE (aY r b r.q b.st)) (by rw [fU, iN oM, iP (by simp)]; exact wZ.no HH H4.below 12 rfl)
 have LD : ¬ ((L : Int) = 0 ∨ (up = true ∧ (dd : Int) = (sn : Int))) := by
  rintro (e | ⟨e1, e2⟩)
  ·omega
  exact hud ⟨e1, oM⟩
 have Y6 := iD LD
 clear LD
 have vY : up = false ∨ (up = true ∧ ((dd : Int) == (sn : Int)) = false) := by
  cases up with
  | false => exact .inl rfl
  | true =>
   have h9 : ¬ ((dd : Int) = (sn : Int)) := fun e => hud ⟨rfl, oM⟩
   exact .inr ⟨rfl, by simpa using h9⟩
 clear hud
 rcases vY with rfl | ⟨rfl, qc⟩
 ·go_upto_region 9 with (fail)
  refine wp_region_list ?_
  refine jM H3.aC ?_
  refine xr H3.dL ?_
  go_wp2_with (fail)
  refine (Dm oM _ H3.below).mono ?_
  have Sn := H3.len
  rintro e v5 ⟨A5, c5, rfl, OD, OC, tX, Gj, gD⟩
  have XU := iD (Gj (XF X w.heap.size 3) (XF.lt HX Sn))
  clear Gj
  clear d6 d19 d20 d4
  have H4 := iD (H3.ab gD)
  have UK := iD tX
  have LC := nF A5 L c5 img v5.drew ((tX.below fT cV)) GS.2.1 GS.1 oM
  rw [HZ] at LC
  have lV := iD LC
  clear LC gD tX
  go_upto_region 10 with (fail)
  have H5 := iD (H4.ab fT)
  refine wp_region_held_drew (S := fun w' => w'.heap[w.heap.size]? = some (.cells (bq r b r.q b.st) 45 (0, 0)) ∧ w'.cell? ⟨b9, o9 + (5 + 3 * sn), none⟩ = some (.int .i64 V)) (by kernel_rfl) (⟨H5.aC, o7 _ H5.below⟩) (fun _ => ?_)
  refine tV 0 (.slice A5 L c5) (⟨H5.aC, o7 _ H5.below⟩) ?_
  refine vP 3 w.heap.size 2 (⟨H5.aC, o7 _ H5.below⟩) ?_
  refine vP 4 w.heap.size 6 (⟨H5.aC, o7 _ H5.below⟩) ?_
  refine tL 5 _ rfl (yC fun _ hS => gH hS.1 Nw) (⟨H5.aC, o7 _ H5.below⟩) ?_
  refine tV 6 (.int .i64 ((sn : Int))) (⟨H5.aC, o7 _ H5.below⟩) ?_
  refine tV 7 (.int .i64 (3 * (sn : Int))) (⟨H5.aC, o7 _ H5.below⟩) ?_
  refine tV 8 (.int .i64 (5 + 3 * (sn : Int))) (⟨H5.aC, o7 _ H5.below⟩) ?_
  refine tV 9 (.pointer (some ⟨b9, o9 + (5 + 3 * sn), none⟩)) (⟨H5.aC, o7 _ H5.below⟩) ?_
  refine tL 10 (.int .i64 V) rfl (YB (by rfl) _ rfl b9 (o9 + (5 + 3 * sn)) rfl (.int .i64 V) (fun w' hS => ZR hS.2)) (⟨H5.aC, o7 _ H5.below⟩) ?_
  refine wI 1 (cW (lV) ?_)
  rintro e v6 ⟨rfl, q6, rfl⟩
  obtain ⟨v6, yM⟩ := ex (v5.drew.drewN q6)
  have Y9 : bW v5 v6 := by rw [← yM]; exact Below.drewN (Below.drew bV) q6
  have H6 : Hid (Fr w v6 [((bq r b r.q b.st), 45), ((xa x g), 35), (zB, 45)]) := by rw [← yM]; exact H5.ab (Below.drewN bV q6)
  rw [yM]
  clear yM
  refine rW ⟨H6.aC, o7 _ H6.below⟩ ?_
  refine vN 2 (Z) (⟨H6.aC, o7 _ H6.below⟩) ?_
  refine tV 11 (.bool (Z != V)) (⟨H6.aC, o7 _ H6.below⟩) ?_
  refine wD ?_
  by_cases hz : Z = V
  rotate_left
  ·have hz' : (Z != V) = true := by simpa using hz
   go_upto_region 11 with (fail)
   refine wp_region_list ?_
   refine jM H6.aC ?_
   refine sP 2 H6 fun w7 _ H7 => ?_
   go_wp2
   (try simp only [Exit.inBlock, Exit.then])
   refine rJ rfl H7.eT (gE (aY r b r.q b.st)) (by rw [fU, iN oM, iN Y6.out, iP hz]; exact wZ.no HH H7.below 19 rfl)
  subst hz
  have hz' : (Z != Z) = false := by simp
  have Q6 := iD (XU.ao (ah.ak (X := XF X w.heap.size 3) Y9))
  go_upto_region 12 with (fail)
  refine wp_region_list ?_
  refine jM H6.aC ?_
  refine wV (.slice A5 L c5) ?_
  refine sP 2 H6 fun w7 o H7 => ?_
  have MP := iD (Q6.ao (M7 o))
  go_wp2
  (try simp only [Exit.inBlock, Exit.then])
  refine rJ rfl H7.eT (gE (aY r b r.q b.st)) ?_
  rw [fU, iN oM, iN Y6.out, iN (by simp)]
  exact ⟨A5, L, c5, rfl, GS.2.1, OD, OC, MP.cX (fun _ => .inl), HH.below H7.below, H7.below⟩
 go_upto_region 9 with (fail)
 refine wp_region_list ?_
 refine jM H3.aC ?_
 refine xr H3.dL ?_
 go_wp2_with (fail)
 refine (Dm oM _ H3.below).mono ?_
 have Sn := H3.len
 rintro e v5 ⟨A5, c5, rfl, OD, OC, tX, Gj, gD⟩
 have XU := iD (Gj (XF X w.heap.size 3) (XF.lt HX Sn))
 clear Gj
 clear d6 d19 d20 d4
 have H4 := iD (H3.ab gD)
 have UK := iD tX
 have LC := nF A5 L c5 img v5.drew ((tX.below fT cV)) GS.2.1 GS.1 oM
 rw [HZ] at LC
 have lV := iD LC
 clear LC gD tX
 go_upto_region 10 with (fail)
 have H5 := iD (H4.ab fT)
 refine wp_region_held_drew (S := fun w' => w'.heap[w.heap.size]? = some (.cells (bq r b r.q b.st) 45 (0, 0)) ∧ w'.cell? ⟨b9, o9 + (5 + 3 * sn), none⟩ = some (.int .i64 V)) (by kernel_rfl) (⟨H5.aC, o7 _ H5.below⟩) (fun _ => ?_)
 refine tV 0 (.slice A5 L c5) (⟨H5.aC, o7 _ H5.below⟩) ?_
 refine vP 3 w.heap.size 2 (⟨H5.aC, o7 _ H5.below⟩) ?_
 refine vP 4 w.heap.size 6 (⟨H5.aC, o7 _ H5.below⟩) ?_
 refine tL 5 _ rfl (yC fun _ hS => gH hS.1 Nw) (⟨H5.aC, o7 _ H5.below⟩) ?_
 refine tV 6 (.int .i64 ((sn : Int))) (⟨H5.aC, o7 _ H5.below⟩) ?_
 refine tV 7 (.int .i64 (3 * (sn : Int))) (⟨H5.aC, o7 _ H5.below⟩) ?_
 refine tV 8 (.int .i64 (5 + 3 * (sn : Int))) (⟨H5.aC, o7 _ H5.below⟩) ?_
 refine tV 9 (.pointer (some ⟨b9, o9 + (5 + 3 * sn), none⟩)) (⟨H5.aC, o7 _ H5.below⟩) ?_
 refine tL 10 (.int .i64 V) rfl (YB (by rfl) _ rfl b9 (o9 + (5 + 3 * sn)) rfl (.int .i64 V) (fun w' hS => ZR hS.2)) (⟨H5.aC, o7 _ H5.below⟩) ?_
 refine wI 1 (cW (lV) ?_)
 rintro e v6 ⟨rfl, q6, rfl⟩
 obtain ⟨v6, yM⟩ := ex (v5.drew.drewN q6)
 have Y9 : bW v5 v6 := by rw [← yM]; exact Below.drewN (Below.drew bV) q6
 have H6 : Hid (Fr w v6 [((bq r b r.q b.st), 45), ((xa x g), 35), (zB, 45)]) := by rw [← yM]; exact H5.ab (Below.drewN bV q6)
 rw [yM]
 clear yM
 refine rW ⟨H6.aC, o7 _ H6.below⟩ ?_
 refine vN 2 (Z) (⟨H6.aC, o7 _ H6.below⟩) ?_
 refine tV 11 (.bool (Z != V)) (⟨H6.aC, o7 _ H6.below⟩) ?_
 refine wD ?_
 by_cases hz : Z = V
 rotate_left
 ·have hz' : (Z != V) = true := by simpa using hz
  go_upto_region 11 with (fail)
  refine wp_region_list ?_
  refine jM H6.aC ?_
  refine sP 2 H6 fun w7 _ H7 => ?_
  go_wp2
  (try simp only [Exit.inBlock, Exit.then])
  refine rJ rfl H7.eT (gE (aY r b r.q b.st)) (by rw [fU, iN oM, iN Y6.out, iP hz]; exact wZ.no HH H7.below 19 rfl)
 subst hz
 have hz' : (Z != Z) = false := by simp
 have Q6 := iD (XU.ao (ah.ak (X := XF X w.heap.size 3) Y9))
 go_upto_region 12 with (fail)
 refine wp_region_list ?_
 refine jM H6.aC ?_
 refine wV (.slice A5 L c5) ?_
 refine sP 2 H6 fun w7 o H7 => ?_
 have MP := iD (Q6.ao (M7 o))
 go_wp2
 (try simp only [Exit.inBlock, Exit.then])
 refine rJ rfl H7.eT (gE (aY r b r.q b.st)) ?_
 rw [fU, iN oM, iN Y6.out, iN (by simp)]
 exact ⟨A5, L, c5, rfl, GS.2.1, OD, OC, MP.cX (fun _ => .inl), HH.below H7.below, H7.below⟩
theorem N9 (h : gP X B w r b g.pg) (hR : cf X w x g) (hX : ∀ b, X b → b < w.heap.size) (ho : bS g b) (hJ : b.af = false → jJ g b n) (s : Int) :
 Calls prog 52 #[.agg (ba r b), .agg (xa x g), .int .i64 s] w (wZ X B w r g (dp b g s)) := by
 by_cases hz : (ar b g).af = true
 ·refine (Ek r b x g hz s w).mono ?_
  rintro e w' ⟨he, hb⟩
  have : dp b g s = (ar b g, [], 20) := by unfold dp; rw [iP hz]
  rw [this]
  exact wZ.no (h.fk g) hb 20 he
 exact Ej h hR hX ho (Wk.of hz hJ) s
def rE (X : Nat → Prop) (B : Nat) (w : World) (r : Rb) (p : Nat) (b' : Bk) (g' : Fl) (v : Value) (k : Int) (e : Ending) (w' : World) : Prop :=
 ∃ (r' : Rb) (y : Rc), e = .returned (.tuple #[.agg (ba r' b'), .agg (xa y g'), v, .int .i64 k]) ∧ gP X B w' r' b' p ∧ cf X w' y g' ∧ (∀ k, (Value.slice r'.E r'.ne r'.ce).ownBlock = some k → (Value.slice r.E r.ne r.ce).ownBlock = some k) ∧ bW w w'
theorem rE.same (h : gP X B w r b g.pg) (hR : cf X w x g) (hb : bW w w') {v : Value} {k : Int} (he : e = .returned (.tuple #[.agg (ba r b), .agg (xa x g), v, .int .i64 k])) : rE X B w r g.pg b g v k e w' := ⟨r, x, he, h.below hb, hR.below hb, fun _ hk => hk, hb⟩
theorem I7 (r : Rb) (b : Bk) (x : Rc) (g : Fl) (hz : (ar b g).af = true) (w : World) :
 Calls prog 47 #[.agg (ba r b), .agg (xa x g)] w fun e w' => e = .returned (.tuple #[.agg (ba r (ar b g)), .agg (xa x g), .int .i64 0, .int .i64 20]) ∧ bW w w' := by
 obtain ⟨C, hC⟩ := ex (ba r b)
 obtain ⟨F, hF⟩ := ex (xa x g)
 obtain ⟨C1, jg⟩ := ex (ba r (ar b g))
 have HD := iD (fun w => fY r b x g w)
 rw [hC, hF, jg] at HD
 rw [hz] at HD
 have HS : Hid (C.size = 26) := by rw [← hC]; exact bC _ _
 have lW : Hid (C1.size = 26) := by rw [← jg]; exact bC _ _
 have uH : Hid (F.size = 6) := by rw [← hF]; exact aQ _ _
 have HOF : Hid (F.all (·.oneCell') = true) := by rw [← hF]; exact mE _ _
 have iH : Hid (C1.all (·.oneCell') = true) := by rw [← jg]; exact eX _ _
 rw [hC, hF, jg]
 clear hC hF jg hz
 obtain ⟨W, hW⟩ := ex ((((w.alloc (.cells C 45)).alloc (.cells F 35)).alloc (.cells zB 45)).alloc (.cells zF 35))
 have H0 := iD (Fr.four hW)
 go_enter func47, ntmps47
 go_upto_region 1 with (fail)
 try rw [hW]
 clear hW
 refine wp_region_list ?_
 refine lB H0.aC HS ?_
 refine lF H0.dL uH ?_
 refine cP (HD W) ?_
 rintro e v1 ⟨rfl, dB⟩
 have H2 := iD (H0.ab dB)
 clear dB
 refine rP ?_
 refine wV (.tuple #[.agg C1, .bool true]) ?_
 refine wV (.agg C1) ?_
 refine wV (.bool true) ?_
 refine sP 0 H2 fun w3 _ H3 => ?_
 go_upto_region 3 with (fail)
 refine rV H3 ?_ (h5 := lW) (h6 := uH)
 exact fun _ o H6 => ⟨rfl, H6.below⟩
theorem I6 (h : gP X B w r b g.pg) (hR : cf X w x g) (hX : ∀ b, X b → b < w.heap.size) (ho : bS g b) (hw : Wk g b) (hq : b.st.seq ≤ n) (hn : n < 1000000) :
 Calls prog 47 #[.agg (bq r b r.q b.st), .agg (xa x g)] w (rE X B w r g.pg (cz b g).1 (cz b g).2.1 (.int .i64 (cz b g).2.2.1) (cz b g).2.2.2) := by
 obtain ⟨b9, o9, tY, aW, fB⟩ := km h.v ho.JK
 have qQ := ho.av
 have yR : (bq r b r.q b.st)[6]? = some (.slice (some ⟨b9, o9, none⟩) 9 r.q.c3) := by
  show some (Value.slice r.q.Q3 b.st.an.length r.q.c3) = _
  rw [tY, ho.JK]
 have qW : (bq r b r.q b.st)[17]? = some (.int .i64 b.av) := rfl
 have HD := iD (fun w => fY r b x g w)
 rw [hw.rd, hw.br, kU] at HD
 obtain ⟨q, lk⟩ := ex (cz b g)
 have fU : Hid (q = if b.av ≠ 2 then (b, g, 0, 12) else if aU b 1 = 2 then ({ b with av := (aU b 0).toNat }, g, aU b 0, 0) else
  if 0 < aU b 2 then (if (aA (aV b.st 2 (aU b 2 - 1)) g).2.2 ≠ 0 then ({ b with st := (aA (aV b.st 2 (aU b 2 - 1)) g).1, af := true }, (aA (aV b.st 2 (aU b 2 - 1)) g).2.1, 0, 20) else ({ b with st := (aA (aV b.st 2 (aU b 2 - 1)) g).1, av := (aU b 1).toNat }, (aA (aV b.st 2 (aU b 2 - 1)) g).2.1, aU b 1, 0))
  else (if (aA (aV b.st 1 2) g).2.2 ≠ 0 then ({ b with st := (aA (aV b.st 1 2) g).1, af := true }, (aA (aV b.st 1 2) g).2.1, 0, 20) else ({ b with st := (aA (aV b.st 1 2) g).1, av := (aU b 0).toNat }, (aA (aV b.st 1 2) g).2.1, aU b 0, 0))) := by
  rw [Hid, ← lk]
  unfold cz
  rw [hw.rd, iN (by rw [hw.br]; decide)]
  by_cases z1 : b.av ≠ 2
  ·rw [iP z1, iP z1]
  rw [iN z1, iN z1]
  by_cases z2 : aU b 1 = 2
  ·rw [iP z2, iP z2]
  rw [iN z2, iN z2]
  by_cases z3 : 0 < aU b 2
  ·simp only [iP z3]
  simp only [iN z3]
 rw [lk]
 obtain ⟨fp, gC, je⟩ := ho.T2
 have uB : 0 ≤ aU b 2 ∧ aU b 2 ≤ 3 := by
  obtain ⟨a, t, k, v0, l0, c0, v1, l1, c1, hv, -, -, q3, -⟩ := ho.vec
  unfold aU
  rw [hv]
  exact ⟨(by show (0 : Int) ≤ (k : Int); omega), (by show (k : Int) ≤ 3; omega)⟩
 obtain ⟨uB, R6⟩ := uB
 obtain ⟨va, Er⟩ := ex (aU b 0)
 obtain ⟨vt, JL⟩ := ex (aU b 1)
 obtain ⟨vk, Lj⟩ := ex (aU b 2)
 rw [Er] at fp
 rw [JL] at gC je
 rw [Lj] at uB R6
 have xV := iD (fun (V9 : World) (hb : bW w V9) (j : Nat) (hj : j < 9) => (hb.cell (p := ⟨b9, o9 + j, none⟩) aW).trans (fB j hj))
 have Py : Hid (b.st.an[0]?.getD 0 = va ∧ b.st.an[1]?.getD 0 = vt ∧ b.st.an[2]?.getD 0 = vk) := ⟨Er, JL, Lj⟩
 rw [Er, JL, Lj] at fU
 have Vv : 0 ≤ va ∧ va ≤ 1 := oM
 obtain ⟨aaa, abP⟩ := Vv
 have HX := iD hX
 have HH := iD h
 have zi := iD hR
 have gV := iD ho
 have Np := iD hw
 have Ns := iD (hw.lv.enc hq hn)
 have Nw := iD yR
 have nh : Hid (∀ (q : Qv) (s : St) (v : Int), 0 ≤ v → (bq r b q s).setIfInBounds 17 (.int .i64 v) = bq r { b with av := v.toNat } q s) := fun q s v hv => by
  obtain ⟨n, rfl⟩ := Int.eq_ofNat_of_zero_le hv
  rfl
 have rM : Hid (∀ (q : Qv) (s : St), (bq r b q s).setIfInBounds 18 (.bool true) = bq r { b with af := true } q s) := fun q s => rfl
 have AP : Hid (∀ q s, (bq r b q s)[17]? = some (.int .i64 b.av)) := fun _ _ => rfl
 have uL : Hid (∀ q s, (bq r b q s)[18]? = some (.bool b.af)) := fun _ _ => rfl
 obtain ⟨n0, xu⟩ := ex b.av
 rw [xu] at qQ AP
 have Ra := iD xu
 obtain ⟨W, hW⟩ := ex ((((w.alloc (.cells (bq r b r.q b.st) 45)).alloc (.cells (xa x g) 35)).alloc (.cells zB 45)).alloc (.cells zF 35))
 have H0 := iD (Fr.four hW)
 clear yR qW tY fB Er JL Lj hX h hR ho hw lk xu hq hn
 go_enter func47, ntmps47
 go_upto_region 1 with (fail)
 try rw [hW]
 clear hW
 refine wp_region_list ?_
 refine jM H0.aC ?_
 refine xr H0.dL ?_
 refine cP (HD W) ?_
 rintro e v1 ⟨rfl, dB⟩
 have H2 := iD (H0.ab dB)
 clear dB
 refine rP ?_
 refine wV (.tuple #[.agg (bq r b r.q b.st), .bool false]) ?_
 refine wV (.agg (bq r b r.q b.st)) ?_
 refine wV (.bool false) ?_
 refine sP 0 H2 fun w3 _ H3 => ?_
 have d17 := H3.cell0 17 (AP r.q b.st)
 by_cases h2 : n0 = 2
 rotate_left
 ·have LH : ((n0 : Int) != 2) = true := by simp; omega
  go_upto_region 5 with (fail)
  refine rV H3 ?_
  exact fun _ o H6 => (by rw [fU, iP (show b.av ≠ 2 by rw [Ra]; exact h2)]; exact rE.same HH zi H6.below rfl)
 subst h2
 go_upto_region 6 with (fail)
 have d6 := H3.cell0 6 Nw
 have d0 := xV _ H3.below 0 oM
 have d1 := xV _ H3.below 1 oM
 have d2 := xV _ H3.below 2 oM
 rw [Py.1, Nat.add_zero] at d0
 rw [Py.2.1] at d1
 rw [Py.2.2] at d2
 go_quiet (fail)
 obtain ⟨v6, yM⟩ := ex (w3.drewN nq)
 have H4 : Hid (Fr w v6 [((bq r b r.q b.st), 45), ((xa x g), 35), (zB, 45), (zF, 35)]) := by rw [← yM]; exact H3.ab (Below.drewN bV nq)
 rw [yM]
 clear yM d17 d6 d0 d1 d2
 by_cases ht : vt = 2
 ·have ht' : (vt == 2) = true := by simpa using ht
  have Xe := H4.cell0 17 (AP r.q b.st)
  have f17 := H4.sZ 17
  go_upto_region 9 with (fail)
  clear Xe f17
  have H5 := iD (H4.iC 17 (.int .i64 va))
  rw [nh r.q b.st va aaa] at H5
  generalize (v6.setCell ⟨w.heap.size, 17, none⟩ (.int .i64 va)) = w5 at H5 ⊢
  refine rF H5 fun H6 => ?_
  refine tL 0 _ rfl (iK (fun _ hS => hS.1) ((aY r { b with av := va.toNat } r.q b.st))) H6.fN ?_
  refine tL 1 _ rfl (jT (fun _ hS => hS.2) ((aQ x g))) H6.fN ?_
  refine vN 2 va H6.fN ?_
  refine wI 3 (sW 2 H6 fun w7 _ H7 => ?_)
  refine ⟨H7.fN, ?_⟩
  refine wI 4 (sW 3 H7 fun w8 _ H8 => ?_)
  refine ⟨H8.fN, ?_⟩
  refine vN 5 va H8.fN ?_
  refine vN 6 0 H8.fN ?_
  refine wD ?_
  go_wp2
  (try simp only [Exit.inBlock, Exit.then])
  refine rT rfl H8.eT H8.Kz (gE (aY r { b with av := va.toNat } r.q b.st)) (pv (aQ x g)) (by rw [fU, iN (show ¬ (b.av ≠ 2) by rw [Ra]; simp), iP ht]; exact rE.same (b := { b with av := va.toNat }) (HH.with rfl rfl rfl (fun e => e)) zi H8.below rfl)
 have ht' : (vt == 2) = false := by simpa using ht
 by_cases A0 : 0 < vk
 ·have q9 : IntKind.i64.wrap (vk - 1) = vk - 1 := IntWalk.i64_in _ oM
  have J1 := iD (HH.v.xf H4.below 4)
  go_upto_region 12 with (fail)
  refine wp_region_list ?_
  refine jM H4.aC ?_
  refine wV (.int .i64 vk) ?_
  refine wV (.int .i64 (vk - 1)) ?_
  have gC := lO (r := r) (b := b) J1 gV.ok (XF.lt HX (H4.len)) 2 (vk - 1)
  obtain ⟨s1, Bf⟩ := ex (aV b.st 2 (vk - 1))
  rw [Bf] at gC
  have zl := iD Bf
  have QY := iD gC
  have uG : Hid (bD g s1) := by rw [← Bf]; exact eH gV.ok (by unfold dH; omega)
  clear gC Bf
  refine cP (QY) ?_
  rintro e u1 ⟨q1, rfl, iE, dB⟩
  have H5 := iD (H4.ab dB)
  have uX := iD iE
  clear iE dB
  refine rP ?_
  refine sP 0 H5 fun w6 o H6 => ?_
  have Jm := iD (uX.ao (M8 o))
  have Dd := iD (gN b.st (2) (vk - 1))
  rw [zl] at Dd
  have Bi := iD (zi.xf H6.below 4)
  have fS := CS Jm Bi uG (XF.lt HX H6.len) (by rw [Dd.1]; exact Ns.1) (fun _ => by rw [Dd.2.2.1, Dd.2.2.2]; exact Ns.2)
  obtain ⟨tt, Na⟩ := ex (aA s1 g)
  rw [Na] at fS
  obtain ⟨s2, g2, k2⟩ := tt
  simp only at fS
  have uo := iD fS
  have XA := iD Na
  clear fS Na
  go_upto_region 16 with (fail)
  refine wp_region_list ?_
  refine wV (.pointer (some ⟨w.heap.size, 2, none⟩)) ?_
  refine Ig rfl _ rfl w.heap.size rfl (bq r b q1 s1) (sa q1 s1) H6.aC (CV r b q1 s1) (cD q1 s1) ?_
  refine xr H6.dL ?_
  refine cP (uo) ?_
  rintro e v8 ⟨q2, y2, rfl, jB, Lf, dZ⟩
  have H7 := iD (H6.ab dZ)
  have xU := iD jB
  have No := iD Lf
  clear jB Lf dZ
  refine rP ?_
  refine wV (.tuple #[.agg (sa q2 s2), .agg (xa y2 g2), .int .i64 k2]) ?_
  refine wV (.agg (sa q2 s2)) ?_
  refine wV (.agg (xa y2 g2)) ?_
  refine wV (.int .i64 k2) ?_
  refine wV (.pointer (some ⟨w.heap.size, 2, none⟩)) ?_
  refine Hf rfl _ _ rfl rfl w.heap.size (sa q2 s2) rfl rfl _ (bq r b q2 s2) H7.aC (cD q2 s2) (aY r b q1 s1) (gK q2 s2) (wR r b q1 q2 s1 s2) ?_
  have H8 := iD (H7.BL (bq r b q2 s2))
  have MK := iD (xU.ao (ah.row v8 w.heap.size (bq r b q2 s2) (pJ _ _)))
  have MF := iD (No.ao (ah.row v8 w.heap.size (bq r b q2 s2) (pJ _ _)))
  generalize v8.setRow w.heap.size (bq r b q2 s2) = w8 at H8 MK MF ⊢
  refine sP 1 H8 fun w9 o H9 => ?_
  have MJ := iD (MK.ao (NX o))
  have ME := iD (MF.ao (NX o))
  by_cases hk : k2 = 0
  rotate_left
  ·have hk' : (k2 != 0) = true := by simpa using hk
   have L8 := H9.cell0 18 (uL q2 s2)
   have f18 := H9.sZ 18
   go_upto_region 19 with (fail)
   clear L8 f18
   have jY := iD (MJ.ao (ah.set w9 ⟨w.heap.size, 18, none⟩ (.bool true) (pJ X _)))
   have iG := iD (ME.ao (ah.set w9 ⟨w.heap.size, 18, none⟩ (.bool true) (pJ X _)))
   have nk := iD (H9.iC 18 (.bool true))
   rw [rM q2 s2] at nk
   generalize (w9.setCell ⟨w.heap.size, 18, none⟩ (.bool true)) = TY at nk jY iG ⊢
   refine rV nk ?_
   exact fun _ o nC => (by rw [fU, iN (show ¬ (b.av ≠ 2) by rw [Ra]; simp), iN ht, iP oM, zl, XA, iP hk]; exact ⟨{ r with q := q2 }, y2, rfl, gP.dead ((jY.ao (o _)).cX (fun _ => .inl)) rfl, (iG.ao (o _)).cX (fun _ => .inl), fun _ hk => hk, nC.below⟩)
  have hk' : (k2 != 0) = false := by simpa using hk
  subst hk
  have Xe := H9.cell0 17 (AP q2 s2)
  have f17 := H9.sZ 17
  go_upto_region 21 with (fail)
  clear Xe f17
  have jY := iD (MJ.ao (ah.set w9 ⟨w.heap.size, 17, none⟩ (.int .i64 vt) (pJ X _)))
  have iG := iD (ME.ao (ah.set w9 ⟨w.heap.size, 17, none⟩ (.int .i64 vt) (pJ X _)))
  have nk := iD (H9.iC 17 (.int .i64 vt))
  rw [nh q2 s2 vt oM] at nk
  generalize (w9.setCell ⟨w.heap.size, 17, none⟩ (.int .i64 vt)) = TY at nk jY iG ⊢
  have Tk := iD (jY.below fT)
  have tn := iD (iG.below fT)
  refine rF nk fun kW => ?_
  refine tL 0 _ rfl (iK (fun _ hS => hS.1) ((aY r { b with av := vt.toNat } q2 s2))) kW.fN ?_
  refine tL 1 _ rfl (jT (fun _ hS => hS.2) ((aQ y2 g2))) kW.fN ?_
  refine vN 2 vt kW.fN ?_
  refine wI 3 (sW 2 kW fun w12 o yd => ?_)
  have Fq := iD (Tk.ao (M7 o))
  have Fj := iD (tn.ao (M7 o))
  refine ⟨yd.fN, ?_⟩
  refine wI 4 (sW 3 yd fun ZN o nC => ?_)
  have Fp := iD (Fq.ao (Vi o))
  have Fi := iD (Fj.ao (Vi o))
  refine ⟨nC.fN, ?_⟩
  refine vN 5 vt nC.fN ?_
  refine vN 6 0 nC.fN ?_
  refine wD ?_
  go_wp2
  (try simp only [Exit.inBlock, Exit.then])
  refine rT rfl nC.eT nC.Kz (gE (aY r { b with av := vt.toNat } q2 s2)) (pv (aQ y2 g2)) (by rw [fU, iN (show ¬ (b.av ≠ 2) by rw [Ra]; simp), iN ht, iP oM, zl, XA, iN (by simp)]; exact ⟨{ r with q := q2 }, y2, rfl, ⟨Fp.cX (fun _ => .inl), (HH.below nC.below).er, (HH.below nC.below).dt⟩, Fi.cX (fun _ => .inl), fun _ hk => hk, nC.below⟩)
 have J1 := iD (HH.v.xf H4.below 4)
 go_upto_region 13 with (fail)
 refine wp_region_list ?_
 refine jM H4.aC ?_
 have gC := lO (r := r) (b := b) J1 gV.ok (XF.lt HX (H4.len)) 1 (2)
 obtain ⟨s1, Bf⟩ := ex (aV b.st 1 (2))
 rw [Bf] at gC
 have zl := iD Bf
 have QY := iD gC
 have uG : Hid (bD g s1) := by rw [← Bf]; exact eH gV.ok (by unfold dH; omega)
 clear gC Bf
 refine cP (QY) ?_
 rintro e u1 ⟨q1, rfl, iE, dB⟩
 have H5 := iD (H4.ab dB)
 have uX := iD iE
 clear iE dB
 refine rP ?_
 refine sP 0 H5 fun w6 o H6 => ?_
 have Jm := iD (uX.ao (M8 o))
 have Dd := iD (gN b.st (1) (2))
 rw [zl] at Dd
 have Bi := iD (zi.xf H6.below 4)
 have fS := CS Jm Bi uG (XF.lt HX H6.len) (by rw [Dd.1]; exact Ns.1) (fun _ => by rw [Dd.2.2.1, Dd.2.2.2]; exact Ns.2)
 obtain ⟨tt, Na⟩ := ex (aA s1 g)
 rw [Na] at fS
 obtain ⟨s2, g2, k2⟩ := tt
 simp only at fS
 have uo := iD fS
 have XA := iD Na
 clear fS Na
 go_upto_region 16 with (fail)
 refine wp_region_list ?_
 refine wV (.pointer (some ⟨w.heap.size, 2, none⟩)) ?_
 refine Ig rfl _ rfl w.heap.size rfl (bq r b q1 s1) (sa q1 s1) H6.aC (CV r b q1 s1) (cD q1 s1) ?_
 refine xr H6.dL ?_
 refine cP (uo) ?_
 rintro e v8 ⟨q2, y2, rfl, jB, Lf, dZ⟩
 have H7 := iD (H6.ab dZ)
 have xU := iD jB
 have No := iD Lf
 clear jB Lf dZ
 refine rP ?_
 refine wV (.tuple #[.agg (sa q2 s2), .agg (xa y2 g2), .int .i64 k2]) ?_
 refine wV (.agg (sa q2 s2)) ?_
 refine wV (.agg (xa y2 g2)) ?_
 refine wV (.int .i64 k2) ?_
 refine wV (.pointer (some ⟨w.heap.size, 2, none⟩)) ?_
 refine Hf rfl _ _ rfl rfl w.heap.size (sa q2 s2) rfl rfl _ (bq r b q2 s2) H7.aC (cD q2 s2) (aY r b q1 s1) (gK q2 s2) (wR r b q1 q2 s1 s2) ?_
 have H8 := iD (H7.BL (bq r b q2 s2))
 have MK := iD (xU.ao (ah.row v8 w.heap.size (bq r b q2 s2) (pJ _ _)))
 have MF := iD (No.ao (ah.row v8 w.heap.size (bq r b q2 s2) (pJ _ _)))
 generalize v8.setRow w.heap.size (bq r b q2 s2) = w8 at H8 MK MF ⊢
 refine sP 1 H8 fun w9 o H9 => ?_
 have MJ := iD (MK.ao (NX o))
 have ME := iD (MF.ao (NX o))
 by_cases hk : k2 = 0
 rotate_left
 ·have hk' : (k2 != 0) = true := by simpa using hk
  have L8 := H9.cell0 18 (uL q2 s2)
  have f18 := H9.sZ 18
  go_upto_region 19 with (fail)
  clear L8 f18
  have jY := iD (MJ.ao (ah.set w9 ⟨w.heap.size, 18, none⟩ (.bool true) (pJ X _)))
  have iG := iD (ME.ao (ah.set w9 ⟨w.heap.size, 18, none⟩ (.bool true) (pJ X _)))
  have nk := iD (H9.iC 18 (.bool true))
  rw [rM q2 s2] at nk
  generalize (w9.setCell ⟨w.heap.size, 18, none⟩ (.bool true)) = TY at nk jY iG ⊢
  refine rV nk ?_
  exact fun _ o nC => (by rw [fU, iN (show ¬ (b.av ≠ 2) by rw [Ra]; simp), iN ht, iN oM, zl, XA, iP hk]; exact ⟨{ r with q := q2 }, y2, rfl, gP.dead ((jY.ao (o _)).cX (fun _ => .inl)) rfl, (iG.ao (o _)).cX (fun _ => .inl), fun _ hk => hk, nC.below⟩)
 have hk' : (k2 != 0) = false := by simpa using hk
 subst hk
 have Xe := H9.cell0 17 (AP q2 s2)
 have f17 := H9.sZ 17
 go_upto_region 21 with (fail)
 clear Xe f17
 have jY := iD (MJ.ao (ah.set w9 ⟨w.heap.size, 17, none⟩ (.int .i64 va) (pJ X _)))
 have iG := iD (ME.ao (ah.set w9 ⟨w.heap.size, 17, none⟩ (.int .i64 va) (pJ X _)))
 have nk := iD (H9.iC 17 (.int .i64 va))
 rw [nh q2 s2 va oM] at nk
 generalize (w9.setCell ⟨w.heap.size, 17, none⟩ (.int .i64 va)) = TY at nk jY iG ⊢
 have Tk := iD (jY.below fT)
 have tn := iD (iG.below fT)
 refine rF nk fun kW => ?_
 refine tL 0 _ rfl (iK (fun _ hS => hS.1) ((aY r { b with av := va.toNat } q2 s2))) kW.fN ?_
 refine tL 1 _ rfl (jT (fun _ hS => hS.2) ((aQ y2 g2))) kW.fN ?_
 refine vN 2 va kW.fN ?_
 refine wI 3 (sW 2 kW fun w12 o yd => ?_)
 have Fq := iD (Tk.ao (M7 o))
 have Fj := iD (tn.ao (M7 o))
 refine ⟨yd.fN, ?_⟩
 refine wI 4 (sW 3 yd fun ZN o nC => ?_)
 have Fp := iD (Fq.ao (Vi o))
 have Fi := iD (Fj.ao (Vi o))
 refine ⟨nC.fN, ?_⟩
 refine vN 5 va nC.fN ?_
 refine vN 6 0 nC.fN ?_
 refine wD ?_
 go_wp2
 (try simp only [Exit.inBlock, Exit.then])
 refine rT rfl nC.eT nC.Kz (gE (aY r { b with av := va.toNat } q2 s2)) (pv (aQ y2 g2)) (by rw [fU, iN (show ¬ (b.av ≠ 2) by rw [Ra]; simp), iN ht, iN oM, zl, XA, iN (by simp)]; exact ⟨{ r with q := q2 }, y2, rfl, ⟨Fp.cX (fun _ => .inl), (HH.below nC.below).er, (HH.below nC.below).dt⟩, Fi.cX (fun _ => .inl), fun _ hk => hk, nC.below⟩)
theorem Ta (h : gP X B w r b g.pg) (hR : cf X w x g) (hX : ∀ b, X b → b < w.heap.size) (ho : bS g b) (hJ : b.af = false → jJ g b n) (hn : n < 1000000) :
 Calls prog 47 #[.agg (ba r b), .agg (xa x g)] w (rE X B w r g.pg (cz b g).1 (cz b g).2.1 (.int .i64 (cz b g).2.2.1) (cz b g).2.2.2) := by
 by_cases hz : (ar b g).af = true
 ·refine (I7 r b x g hz w).mono ?_
  rintro e w' ⟨he, hb⟩
  have : cz b g = (ar b g, g, 0, 20) := by unfold cz; rw [iP hz]
  rw [this]
  exact rE.same (h.fk g) hR hb he
 have hw := Wk.of hz hJ
 exact I6 h hR hX ho hw (hJ hw.br).sq hn
end Go.Proofs.YtjdknddnanopaaaGreat
