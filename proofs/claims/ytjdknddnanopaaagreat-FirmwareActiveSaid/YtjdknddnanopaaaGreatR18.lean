/-
  Part 18 of the proof.
-/
import Derived.Test.YtjdknddnanopaaaGreatR17
namespace Go.Proofs.YtjdknddnanopaaaGreat
open Go.RowKit Tryz
set_option maxRecDepth 100000
set_option maxHeartbeats 16000000
set_option linter.all false
variable {b : Bk} {g : Fl} {X : Nat → Prop} {B : Nat} {w w' : World} {r : Rb} {x : Rc} {n : Int} {e : Ending}
def wY (X : Nat → Prop) (B : Nat) (w : World) (r : Rb) (g : Fl) (q : Bk × List Int × Int) (e : Ending) (w' : World) : Prop :=
 ∃ A n c, e = .returned (.tuple #[.agg (ba r q.1), .slice A n c, .int .i64 q.2.2]) ∧ q.2.1.length = n ∧ n ≤ c ∧ c ≤ maxLen ∧ cn X w' A (ag .u8 q.2.1) ∧ gW X B w' r q.1 g.pg ∧ bW w w'
theorem wY.no (h : gW X B w r b g.pg) (hb : bW w w') (k : Int) (he : e = .returned (.tuple #[.agg (ba r b), .slice none 0 0, .int .i64 k])) : wY X B w r g (b, [], k) e w' :=
 ⟨none, 0, 0, he, rfl, Nat.le_refl _, Nat.zero_le _, fun e => absurd rfl e, h.below hb, hb⟩
theorem Kv (ho : bU g b) {s : Nat} (hs : s ≤ 1) : ∃ l : Nat, aV b (4 + 3 * s) = l ∧ l ≤ aM g b.aa ∧ 0 ≤ aV b (5 + 3 * s) ∧ aV b (5 + 3 * s) < 4294967296 := by
 obtain ⟨a, t, k, v0, l0, c0, v1, l1, c1, hv, q1, q2, q3, q4, q5, q6, q7, q8, q9⟩ := ho.vec
 unfold aV
 rw [hv]
 rcases (by omega : s = 0 ∨ s = 1) with rfl | rfl
 ·exact ⟨l0, rfl, q5, (by show (0 : Int) ≤ (c0 : Int); omega), (by show ((c0 : Nat) : Int) < 4294967296; omega)⟩
 exact ⟨l1, rfl, q8, (by show (0 : Int) ≤ (c1 : Int); omega), (by show ((c1 : Nat) : Int) < 4294967296; omega)⟩
theorem Eu (r : Rb) (b : Bk) (x : Rc) (g : Fl) (hz : (aq b g).af = true) (s : Int) (w : World) :
 Calls prog 52 #[.agg (ba r b), .agg (xa x g), .int .i64 s] w fun e w' => e = .returned (.tuple #[.agg (ba r (aq b g)), .slice none 0 0, .int .i64 20]) ∧ bW w w' := by
 obtain ⟨C, hC⟩ := ex (ba r b)
 obtain ⟨F, hF⟩ := ex (xa x g)
 obtain ⟨C1, jf⟩ := ex (ba r (aq b g))
 have HD := iD (fun w => fV r b x g w)
 rw [hC, hF, jf] at HD
 rw [hz] at HD
 have HS : Hid (C.size = 26) := by rw [← hC]; exact bD _ _
 have l4 : Hid (C1.size = 26) := by rw [← jf]; exact bD _ _
 have uC : Hid (F.size = 6) := by rw [← hF]; exact aT _ _
 have iL : Hid (C1.all (·.oneCell') = true) := by rw [← jf]; exact eY _ _
 rw [hC, hF, jf]
 clear hC hF jf hz
 obtain ⟨W, hW⟩ := ex (((w.alloc (.cells C 45)).alloc (.cells F 35)).alloc (.cells zB 45))
 have H0 := iD (Fr.three hW)
 go_enter func52, ntmps52
 go_upto_region 1 with (fail)
 try rw [hW]
 clear hW
 refine wp_region_list ?_
 refine lB H0.aE HS ?_
 refine lF H0.dL uC ?_
 refine cP (HD W) ?_
 rintro e v1 ⟨rfl, dC⟩
 have H2 := iD (H0.ab dC)
 clear dC
 refine rP ?_
 refine wV (.tuple #[.agg C1, .bool true]) ?_
 refine wV (.agg C1) ?_
 refine wV (.bool true) ?_
 refine sP 0 H2 fun w3 _ H3 => ?_
 go_upto_region 3 with (fail)
 refine wp_region_list ?_
 refine lB H3.aE l4 ?_
 refine sP 2 H3 fun w4 _ H4 => ?_
 go_wp2
 (try simp only [Exit.inBlock, Exit.then])
 refine rJ rfl H4.eU (gJ l4) ⟨rfl, H4.below⟩
theorem Et (h : gW X B w r b g.pg) (hR : ca X w x g) (hX : ∀ b, X b → b < w.heap.size) (ho : bU g b) (hw : Wk g b) (s : Int) :
 Calls prog 52 #[.agg (bq r b r.q b.st), .agg (xa x g), .int .i64 s] w (wY X B w r g (dr b g s)) := by
 obtain ⟨b9, o9, xv, aY, fL⟩ := mh h.v ho.Na
 have EJ : (bq r b r.q b.st)[6]? = some (.slice (some ⟨b9, o9, none⟩) 9 r.q.c3) := by
  show some (Value.slice r.q.Q3 b.st.saved.length r.q.c3) = _
  rw [xv, ho.Na]
 have ph : (bq r b r.q b.st)[19]? = some (.bool b.au) := rfl
 have vZ : (bq r b r.q b.st)[20]? = some (.int .i64 b.dst) := rfl
 have HD := iD (fun w => fV r b x g w)
 rw [hw.rd, hw.br, kS] at HD
 obtain ⟨q, lj⟩ := ex (dr b g s)
 have fR : Hid (q = if ¬ (0 ≤ s ∧ s ≤ 1) then (b, [], 10) else if aV b (4 + 3 * s.toNat) = 0 ∨ (b.au = true ∧ (b.dst : Int) = s) then (b, [], 12) else if eS (fv g b s.toNat (aV b (4 + 3 * s.toNat)).toNat) ≠ aV b (5 + 3 * s.toNat) then (b, [], 19) else (b, fv g b s.toNat (aV b (4 + 3 * s.toNat)).toNat, 0)) := by
  rw [Hid, ← lj]
  unfold dr
  rw [hw.rd, iN (by rw [hw.br]; decide)]
 rw [lj]
 have HX := iD hX
 have HH := iD h
 have zj := iD hR
 have gX := iD ho
 have ND := iD EJ
 have uG := iD ph
 have P7 := iD vZ
 obtain ⟨W, hW⟩ := ex (((w.alloc (.cells (bq r b r.q b.st) 45)).alloc (.cells (xa x g) 35)).alloc (.cells zB 45))
 have H0 := iD (Fr.three hW)
 by_cases fp : s < 0
 ·clear fL
  clear EJ ph vZ hX h hR ho hw lj xv
  go_enter func52, ntmps52
  go_upto_region 1 with (fail)
  try rw [hW]
  clear hW
  refine wp_region_list ?_
  refine jM H0.aE ?_
  refine xt H0.dL ?_
  refine cP (HD W) ?_
  rintro e v1 ⟨rfl, dC⟩
  have H2 := iD (H0.ab dC)
  clear dC
  refine rP ?_
  refine wV (.tuple #[.agg (bq r b r.q b.st), .bool false]) ?_
  refine wV (.agg (bq r b r.q b.st)) ?_
  refine wV (.bool false) ?_
  refine sP 0 H2 fun w3 _ H3 => ?_
  go_upto_region 5 with (fail)
  refine wp_region_list ?_
  refine jM H3.aE ?_
  refine sP 2 H3 fun w4 _ H4 => ?_
  go_wp2
  (try simp only [Exit.inBlock, Exit.then])
  refine rJ rfl H4.eU (gJ (aW r b r.q b.st)) (by rw [fR, iP oM]; exact wY.no HH H4.below 10 rfl)
 by_cases gF : 1 < s
 ·clear fL
  clear EJ ph vZ hX h hR ho hw lj xv
  go_enter func52, ntmps52
  go_upto_region 1 with (fail)
  try rw [hW]
  clear hW
  refine wp_region_list ?_
  refine jM H0.aE ?_
  refine xt H0.dL ?_
  refine cP (HD W) ?_
  rintro e v1 ⟨rfl, dC⟩
  have H2 := iD (H0.ab dC)
  clear dC
  refine rP ?_
  refine wV (.tuple #[.agg (bq r b r.q b.st), .bool false]) ?_
  refine wV (.agg (bq r b r.q b.st)) ?_
  refine wV (.bool false) ?_
  refine sP 0 H2 fun w3 _ H3 => ?_
  go_upto_region 5 with (fail)
  refine wp_region_list ?_
  refine jM H3.aE ?_
  refine sP 2 H3 fun w4 _ H4 => ?_
  go_wp2
  (try simp only [Exit.inBlock, Exit.then])
  refine rJ rfl H4.eU (gJ (aW r b r.q b.st)) (by rw [fR, iP oM]; exact wY.no HH H4.below 10 rfl)
 obtain ⟨sn, rfl⟩ := Int.eq_ofNat_of_zero_le (a := s) oM
 have Uv : sn ≤ 1 := oM
 obtain ⟨L, hL, hLs, DG, hV2⟩ := Kv ho Uv
 obtain ⟨V, hV⟩ := ex (aV b (5 + 3 * sn))
 rw [hV] at DG hV2
 rw [Int.toNat_natCast, hL, hV, Int.toNat_natCast] at fR
 have GY := iD (qi hR.ok ho Uv hLs)
 have Dt := iD (fun (h1 : 1 ≤ L) (W : World) (hb : bW w W) => GO (r := r) hR ho ⟨rfl, rfl⟩ ho sn L Uv h1 hLs W hb)
 obtain ⟨img, SI⟩ := ex (fv g b sn L)
 rw [SI] at GY Dt fR
 obtain ⟨Z, hZ⟩ := ex (eS img)
 have HZ := iD hZ
 have YZ : 0 ≤ Z ∧ Z < 4294967296 := by rw [← hZ]; exact l6 img
 obtain ⟨hZ3, hZ4⟩ := YZ
 rw [hZ] at fR
 have Rn := iD (fun (V9 : World) (hb : bW w V9) => (hb.cell (p := ⟨b9, o9 + (4 + 3 * sn), none⟩) aY).trans (fL (4 + 3 * sn) oM))
 rw [show b.st.saved[4 + 3 * sn]?.getD 0 = (L : Int) from hL] at Rn
 have pv := iD (fun (V9 : World) (hb : bW w V9) => (hb.cell (p := ⟨b9, o9 + (5 + 3 * sn), none⟩) aY).trans (fL (5 + 3 * sn) oM))
 rw [show b.st.saved[5 + 3 * sn]?.getD 0 = V from hV] at pv
 have hL8 : L ≤ 8192 := GY.2.2
 obtain ⟨up, gE⟩ := ex b.au
 obtain ⟨dd, Lx⟩ := ex b.dst
 rw [gE, Lx] at fR
 rw [gE] at uG
 rw [Lx] at P7
 have i2 : ¬ ((1 : Int) < (sn : Int)) := oM
 have i3 : ¬ ((sn : Int) < 0) := oM
 have q1 : IntKind.i64.wrap (3 * (sn : Int)) = 3 * (sn : Int) := IntWalk.i64_in _ oM
 have q2 : IntKind.i64.wrap (4 + 3 * (sn : Int)) = 4 + 3 * (sn : Int) := IntWalk.i64_in _ oM
 have q3 : IntKind.i64.wrap (5 + 3 * (sn : Int)) = 5 + 3 * (sn : Int) := IntWalk.i64_in _ oM
 have k0 : (0 : Int) ≤ 4 + 3 * (sn : Int) := oM
 have k1 : 4 + 3 * (sn : Int) < 9 := oM
 have k2 : (4 + 3 * (sn : Int)).toNat = 4 + 3 * sn := oM
 have k3 : (0 : Int) ≤ 5 + 3 * (sn : Int) := oM
 have k4 : 5 + 3 * (sn : Int) < 9 := oM
 have k5 : (5 + 3 * (sn : Int)).toNat = 5 + 3 * sn := oM
 have q5 : IntKind.i64.wrap Z = Z := IntWalk.i64_in _ oM
 clear fp gF
 clear fL gE Lx hL hV SI hZ EJ ph vZ hX h hR ho hw lj xv
 go_enter func52, ntmps52
 go_upto_region 1 with (fail)
 try rw [hW]
 clear hW
 refine wp_region_list ?_
 refine jM H0.aE ?_
 refine xt H0.dL ?_
 refine cP (HD W) ?_
 rintro e v1 ⟨rfl, dC⟩
 have H2 := iD (H0.ab dC)
 clear dC
 refine rP ?_
 refine wV (.tuple #[.agg (bq r b r.q b.st), .bool false]) ?_
 refine wV (.agg (bq r b r.q b.st)) ?_
 refine wV (.bool false) ?_
 refine sP 0 H2 fun w3 _ H3 => ?_
 have d6 := H3.cell0 6 ND
 have d19 := H3.cell0 19 uG
 have d20 := H3.cell0 20 P7
 have d4 := Rn _ H3.below
 by_cases QI : L = 0
 ·have hl0' : ((L : Int) == 0) = true := by simp; omega
  go_upto_region 8 with (fail)
  refine wp_region_list ?_
  refine jM H3.aE ?_
  refine sP 2 H3 fun w4 _ H4 => ?_
  go_wp2
  (try simp only [Exit.inBlock, Exit.then])
  refine rJ rfl H4.eU (gJ (aW r b r.q b.st)) (by rw [fR, iN oM, iP (.inl oM)]; exact wY.no HH H4.below 12 rfl)
 have hl0' : ((L : Int) == 0) = false := by simp; omega
 by_cases hud : up = true ∧ dd = sn
 ·obtain ⟨rfl, rfl⟩ := hud
  go_upto_region 8 with (fail)
  refine wp_region_list ?_
  refine jM H3.aE ?_
  refine sP 2 H3 fun w4 _ H4 => ?_
  go_wp2
  (try simp only [Exit.inBlock, Exit.then])
  refine rJ rfl H4.eU (gJ (aW r b r.q b.st)) (by rw [fR, iN oM, iP (by simp)]; exact wY.no HH H4.below 12 rfl)
 have GH : ¬ ((L : Int) = 0 ∨ (up = true ∧ (dd : Int) = (sn : Int))) := by
  rintro (e | ⟨e1, e2⟩)
  ·omega
  exact hud ⟨e1, oM⟩
 have Y6 := iD GH
 clear GH
 have vW : up = false ∨ (up = true ∧ ((dd : Int) == (sn : Int)) = false) := by
  cases up with
  | false => exact .inl rfl
  | true =>
   have h9 : ¬ ((dd : Int) = (sn : Int)) := fun e => hud ⟨rfl, oM⟩
   exact .inr ⟨rfl, by simpa using h9⟩
 clear hud
 rcases vW with rfl | ⟨rfl, qo⟩
 ·go_upto_region 9 with (fail)
  refine wp_region_list ?_
  refine jM H3.aE ?_
  refine xt H3.dL ?_
  go_wp2_with (fail)
  refine (Dt oM _ H3.below).mono ?_
  have SH := H3.len
  rintro e v5 ⟨A5, c5, rfl, OM, OL, tT, Gs, gC⟩
  have XU := iD (Gs (XF X w.heap.size 3) (XF.lt HX SH))
  clear Gs
  clear d6 d19 d20 d4
  have H4 := iD (H3.ab gC)
  have UY := iD tT
  have LC := nG A5 L c5 img v5.drew ((tT.below fY cV)) GY.2.1 GY.1 oM
  rw [HZ] at LC
  have lU := iD LC
  clear LC gC tT
  go_upto_region 10 with (fail)
  have H5 := iD (H4.ab fY)
  refine wp_region_held_drew (S := fun w' => w'.heap[w.heap.size]? = some (.cells (bq r b r.q b.st) 45 (0, 0)) ∧ w'.cell? ⟨b9, o9 + (5 + 3 * sn), none⟩ = some (.int .i64 V)) (by kernel_rfl) (⟨H5.aE, pv _ H5.below⟩) (fun _ => ?_)
  refine tV 0 (.slice A5 L c5) (⟨H5.aE, pv _ H5.below⟩) ?_
  refine vP 3 w.heap.size 2 (⟨H5.aE, pv _ H5.below⟩) ?_
  refine vP 4 w.heap.size 6 (⟨H5.aE, pv _ H5.below⟩) ?_
  refine tL 5 _ rfl (yC fun _ hS => gQ hS.1 ND) (⟨H5.aE, pv _ H5.below⟩) ?_
  refine tV 6 (.int .i64 ((sn : Int))) (⟨H5.aE, pv _ H5.below⟩) ?_
  refine tV 7 (.int .i64 (3 * (sn : Int))) (⟨H5.aE, pv _ H5.below⟩) ?_
  refine tV 8 (.int .i64 (5 + 3 * (sn : Int))) (⟨H5.aE, pv _ H5.below⟩) ?_
  refine tV 9 (.pointer (some ⟨b9, o9 + (5 + 3 * sn), none⟩)) (⟨H5.aE, pv _ H5.below⟩) ?_
  refine tL 10 (.int .i64 V) rfl (YC (by rfl) _ rfl b9 (o9 + (5 + 3 * sn)) rfl (.int .i64 V) (fun w' hS => ZS hS.2)) (⟨H5.aE, pv _ H5.below⟩) ?_
  refine wI 1 (cW (lU) ?_)
  rintro e v6 ⟨rfl, q6, rfl⟩
  obtain ⟨v6, yP⟩ := ex (v5.drew.drewN q6)
  have Y9 : bW v5 v6 := by rw [← yP]; exact Below.drewN (Below.drew bV) q6
  have H6 : Hid (Fr w v6 [((bq r b r.q b.st), 45), ((xa x g), 35), (zB, 45)]) := by rw [← yP]; exact H5.ab (Below.drewN bV q6)
  rw [yP]
  clear yP
  refine rW ⟨H6.aE, pv _ H6.below⟩ ?_
  refine vN 2 (Z) (⟨H6.aE, pv _ H6.below⟩) ?_
  refine tV 11 (.bool (Z != V)) (⟨H6.aE, pv _ H6.below⟩) ?_
  refine wD ?_
  by_cases hz : Z = V
  rotate_left
  ·have hz' : (Z != V) = true := by simpa using hz
   go_upto_region 11 with (fail)
   refine wp_region_list ?_
   refine jM H6.aE ?_
   refine sP 2 H6 fun w7 _ H7 => ?_
   go_wp2
   (try simp only [Exit.inBlock, Exit.then])
   refine rJ rfl H7.eU (gJ (aW r b r.q b.st)) (by rw [fR, iN oM, iN Y6.out, iP hz]; exact wY.no HH H7.below 19 rfl)
  subst hz
  have hz' : (Z != Z) = false := by simp
  have Rv := iD (XU.ao (ah.ak (X := XF X w.heap.size 3) Y9))
  go_upto_region 12 with (fail)
  refine wp_region_list ?_
  refine jM H6.aE ?_
  refine wV (.slice A5 L c5) ?_
  refine sP 2 H6 fun w7 o H7 => ?_
  have MQ := iD (Rv.ao (Nb o))
  go_wp2
  (try simp only [Exit.inBlock, Exit.then])
  refine rJ rfl H7.eU (gJ (aW r b r.q b.st)) ?_
  rw [fR, iN oM, iN Y6.out, iN (by simp)]
  exact ⟨A5, L, c5, rfl, GY.2.1, OM, OL, MQ.cU (fun _ => .inl), HH.below H7.below, H7.below⟩
 go_upto_region 9 with (fail)
 refine wp_region_list ?_
 refine jM H3.aE ?_
 refine xt H3.dL ?_
 go_wp2_with (fail)
 refine (Dt oM _ H3.below).mono ?_
 have SH := H3.len
 rintro e v5 ⟨A5, c5, rfl, OM, OL, tT, Gs, gC⟩
 have XU := iD (Gs (XF X w.heap.size 3) (XF.lt HX SH))
 clear Gs
 clear d6 d19 d20 d4
 have H4 := iD (H3.ab gC)
 have UY := iD tT
 have LC := nG A5 L c5 img v5.drew ((tT.below fY cV)) GY.2.1 GY.1 oM
 rw [HZ] at LC
 have lU := iD LC
 clear LC gC tT
 go_upto_region 10 with (fail)
 have H5 := iD (H4.ab fY)
 refine wp_region_held_drew (S := fun w' => w'.heap[w.heap.size]? = some (.cells (bq r b r.q b.st) 45 (0, 0)) ∧ w'.cell? ⟨b9, o9 + (5 + 3 * sn), none⟩ = some (.int .i64 V)) (by kernel_rfl) (⟨H5.aE, pv _ H5.below⟩) (fun _ => ?_)
 refine tV 0 (.slice A5 L c5) (⟨H5.aE, pv _ H5.below⟩) ?_
 refine vP 3 w.heap.size 2 (⟨H5.aE, pv _ H5.below⟩) ?_
 refine vP 4 w.heap.size 6 (⟨H5.aE, pv _ H5.below⟩) ?_
 refine tL 5 _ rfl (yC fun _ hS => gQ hS.1 ND) (⟨H5.aE, pv _ H5.below⟩) ?_
 refine tV 6 (.int .i64 ((sn : Int))) (⟨H5.aE, pv _ H5.below⟩) ?_
 refine tV 7 (.int .i64 (3 * (sn : Int))) (⟨H5.aE, pv _ H5.below⟩) ?_
 refine tV 8 (.int .i64 (5 + 3 * (sn : Int))) (⟨H5.aE, pv _ H5.below⟩) ?_
 refine tV 9 (.pointer (some ⟨b9, o9 + (5 + 3 * sn), none⟩)) (⟨H5.aE, pv _ H5.below⟩) ?_
 refine tL 10 (.int .i64 V) rfl (YC (by rfl) _ rfl b9 (o9 + (5 + 3 * sn)) rfl (.int .i64 V) (fun w' hS => ZS hS.2)) (⟨H5.aE, pv _ H5.below⟩) ?_
 refine wI 1 (cW (lU) ?_)
 rintro e v6 ⟨rfl, q6, rfl⟩
 obtain ⟨v6, yP⟩ := ex (v5.drew.drewN q6)
 have Y9 : bW v5 v6 := by rw [← yP]; exact Below.drewN (Below.drew bV) q6
 have H6 : Hid (Fr w v6 [((bq r b r.q b.st), 45), ((xa x g), 35), (zB, 45)]) := by rw [← yP]; exact H5.ab (Below.drewN bV q6)
 rw [yP]
 clear yP
 refine rW ⟨H6.aE, pv _ H6.below⟩ ?_
 refine vN 2 (Z) (⟨H6.aE, pv _ H6.below⟩) ?_
 refine tV 11 (.bool (Z != V)) (⟨H6.aE, pv _ H6.below⟩) ?_
 refine wD ?_
 by_cases hz : Z = V
 rotate_left
 ·have hz' : (Z != V) = true := by simpa using hz
  go_upto_region 11 with (fail)
  refine wp_region_list ?_
  refine jM H6.aE ?_
  refine sP 2 H6 fun w7 _ H7 => ?_
  go_wp2
  (try simp only [Exit.inBlock, Exit.then])
  refine rJ rfl H7.eU (gJ (aW r b r.q b.st)) (by rw [fR, iN oM, iN Y6.out, iP hz]; exact wY.no HH H7.below 19 rfl)
 subst hz
 have hz' : (Z != Z) = false := by simp
 have Rv := iD (XU.ao (ah.ak (X := XF X w.heap.size 3) Y9))
 go_upto_region 12 with (fail)
 refine wp_region_list ?_
 refine jM H6.aE ?_
 refine wV (.slice A5 L c5) ?_
 refine sP 2 H6 fun w7 o H7 => ?_
 have MQ := iD (Rv.ao (Nb o))
 go_wp2
 (try simp only [Exit.inBlock, Exit.then])
 refine rJ rfl H7.eU (gJ (aW r b r.q b.st)) ?_
 rw [fR, iN oM, iN Y6.out, iN (by simp)]
 exact ⟨A5, L, c5, rfl, GY.2.1, OM, OL, MQ.cU (fun _ => .inl), HH.below H7.below, H7.below⟩
theorem Oj (h : gW X B w r b g.pg) (hR : ca X w x g) (hX : ∀ b, X b → b < w.heap.size) (ho : bU g b) (hJ : b.af = false → jJ g b n) (s : Int) :
 Calls prog 52 #[.agg (ba r b), .agg (xa x g), .int .i64 s] w (wY X B w r g (dr b g s)) := by
 by_cases hz : (aq b g).af = true
 ·refine (Eu r b x g hz s w).mono ?_
  rintro e w' ⟨he, hb⟩
  have : dr b g s = (aq b g, [], 20) := by unfold dr; rw [iP hz]
  rw [this]
  exact wY.no (h.fk g) hb 20 he
 exact Et h hR hX ho (Wk.of hz hJ) s
def rM (X : Nat → Prop) (B : Nat) (w : World) (r : Rb) (p : Nat) (b' : Bk) (g' : Fl) (v : Value) (k : Int) (e : Ending) (w' : World) : Prop :=
 ∃ (r' : Rb) (y : Rc), e = .returned (.tuple #[.agg (ba r' b'), .agg (xa y g'), v, .int .i64 k]) ∧ gW X B w' r' b' p ∧ ca X w' y g' ∧ (∀ k, (Value.slice r'.E r'.ne r'.ce).ownBlock = some k → (Value.slice r.E r.ne r.ce).ownBlock = some k) ∧ bW w w'
theorem rM.same (h : gW X B w r b g.pg) (hR : ca X w x g) (hb : bW w w') {v : Value} {k : Int} (he : e = .returned (.tuple #[.agg (ba r b), .agg (xa x g), v, .int .i64 k])) : rM X B w r g.pg b g v k e w' := ⟨r, x, he, h.below hb, hR.below hb, fun _ hk => hk, hb⟩
theorem Jd (r : Rb) (b : Bk) (x : Rc) (g : Fl) (hz : (aq b g).af = true) (w : World) :
 Calls prog 47 #[.agg (ba r b), .agg (xa x g)] w fun e w' => e = .returned (.tuple #[.agg (ba r (aq b g)), .agg (xa x g), .int .i64 0, .int .i64 20]) ∧ bW w w' := by
 obtain ⟨C, hC⟩ := ex (ba r b)
 obtain ⟨F, hF⟩ := ex (xa x g)
 obtain ⟨C1, jf⟩ := ex (ba r (aq b g))
 have HD := iD (fun w => fV r b x g w)
 rw [hC, hF, jf] at HD
 rw [hz] at HD
 have HS : Hid (C.size = 26) := by rw [← hC]; exact bD _ _
 have l4 : Hid (C1.size = 26) := by rw [← jf]; exact bD _ _
 have uC : Hid (F.size = 6) := by rw [← hF]; exact aT _ _
 have HOF : Hid (F.all (·.oneCell') = true) := by rw [← hF]; exact mF _ _
 have iL : Hid (C1.all (·.oneCell') = true) := by rw [← jf]; exact eY _ _
 rw [hC, hF, jf]
 clear hC hF jf hz
 obtain ⟨W, hW⟩ := ex ((((w.alloc (.cells C 45)).alloc (.cells F 35)).alloc (.cells zB 45)).alloc (.cells zF 35))
 have H0 := iD (Fr.four hW)
 go_enter func47, ntmps47
 go_upto_region 1 with (fail)
 try rw [hW]
 clear hW
 refine wp_region_list ?_
 refine lB H0.aE HS ?_
 refine lF H0.dL uC ?_
 refine cP (HD W) ?_
 rintro e v1 ⟨rfl, dC⟩
 have H2 := iD (H0.ab dC)
 clear dC
 refine rP ?_
 refine wV (.tuple #[.agg C1, .bool true]) ?_
 refine wV (.agg C1) ?_
 refine wV (.bool true) ?_
 refine sP 0 H2 fun w3 _ H3 => ?_
 go_upto_region 3 with (fail)
 refine rV H3 ?_ (h5 := l4) (h6 := uC)
 exact fun _ o H6 => ⟨rfl, H6.below⟩
theorem Jc (h : gW X B w r b g.pg) (hR : ca X w x g) (hX : ∀ b, X b → b < w.heap.size) (ho : bU g b) (hw : Wk g b) (hq : b.st.seq ≤ n) (hn : n < 1000000) :
 Calls prog 47 #[.agg (bq r b r.q b.st), .agg (xa x g)] w (rM X B w r g.pg (cy b g).1 (cy b g).2.1 (.int .i64 (cy b g).2.2.1) (cy b g).2.2.2) := by
 obtain ⟨b9, o9, xv, aY, fL⟩ := mh h.v ho.Na
 have yR := ho.slot
 have EJ : (bq r b r.q b.st)[6]? = some (.slice (some ⟨b9, o9, none⟩) 9 r.q.c3) := by
  show some (Value.slice r.q.Q3 b.st.saved.length r.q.c3) = _
  rw [xv, ho.Na]
 have xR : (bq r b r.q b.st)[17]? = some (.int .i64 b.slot) := rfl
 have HD := iD (fun w => fV r b x g w)
 rw [hw.rd, hw.br, kS] at HD
 obtain ⟨q, lj⟩ := ex (cy b g)
 have fR : Hid (q = if b.slot ≠ 2 then (b, g, 0, 12) else if aV b 1 = 2 then ({ b with slot := (aV b 0).toNat }, g, aV b 0, 0) else
  if 0 < aV b 2 then (if (ay (aU b.st 2 (aV b 2 - 1)) g).2.2 ≠ 0 then ({ b with st := (ay (aU b.st 2 (aV b 2 - 1)) g).1, af := true }, (ay (aU b.st 2 (aV b 2 - 1)) g).2.1, 0, 20) else ({ b with st := (ay (aU b.st 2 (aV b 2 - 1)) g).1, slot := (aV b 1).toNat }, (ay (aU b.st 2 (aV b 2 - 1)) g).2.1, aV b 1, 0))
  else (if (ay (aU b.st 1 2) g).2.2 ≠ 0 then ({ b with st := (ay (aU b.st 1 2) g).1, af := true }, (ay (aU b.st 1 2) g).2.1, 0, 20) else ({ b with st := (ay (aU b.st 1 2) g).1, slot := (aV b 0).toNat }, (ay (aU b.st 1 2) g).2.1, aV b 0, 0))) := by
  rw [Hid, ← lj]
  unfold cy
  rw [hw.rd, iN (by rw [hw.br]; decide)]
  by_cases z1 : b.slot ≠ 2
  ·rw [iP z1, iP z1]
  rw [iN z1, iN z1]
  by_cases z2 : aV b 1 = 2
  ·rw [iP z2, iP z2]
  rw [iN z2, iN z2]
  by_cases z3 : 0 < aV b 2
  ·simp only [iP z3]
  simp only [iN z3]
 rw [lj]
 obtain ⟨fp, gF, je⟩ := ho.Qk
 have uv : 0 ≤ aV b 2 ∧ aV b 2 ≤ 3 := by
  obtain ⟨a, t, k, v0, l0, c0, v1, l1, c1, hv, -, -, q3, -⟩ := ho.vec
  unfold aV
  rw [hv]
  exact ⟨(by show (0 : Int) ≤ (k : Int); omega), (by show (k : Int) ≤ 3; omega)⟩
 obtain ⟨uv, Sq⟩ := uv
 obtain ⟨va, EB⟩ := ex (aV b 0)
 obtain ⟨vt, Qt⟩ := ex (aV b 1)
 obtain ⟨vk, Sf⟩ := ex (aV b 2)
 rw [EB] at fp
 rw [Qt] at gF je
 rw [Sf] at uv Sq
 have xX := iD (fun (V9 : World) (hb : bW w V9) (j : Nat) (hj : j < 9) => (hb.cell (p := ⟨b9, o9 + j, none⟩) aY).trans (fL j hj))
 have PK : Hid (b.st.saved[0]?.getD 0 = va ∧ b.st.saved[1]?.getD 0 = vt ∧ b.st.saved[2]?.getD 0 = vk) := ⟨EB, Qt, Sf⟩
 rw [EB, Qt, Sf] at fR
 have VF : 0 ≤ va ∧ va ≤ 1 := oM
 obtain ⟨aaa, abT⟩ := VF
 have HX := iD hX
 have HH := iD h
 have zj := iD hR
 have gX := iD ho
 have Rk := iD hw
 have Ny := iD (hw.lv.enc hq hn)
 have ND := iD EJ
 have nr : Hid (∀ (q : Qv) (s : St) (v : Int), 0 ≤ v → (bq r b q s).setIfInBounds 17 (.int .i64 v) = bq r { b with slot := v.toNat } q s) := fun q s v hv => by
  obtain ⟨n, rfl⟩ := Int.eq_ofNat_of_zero_le hv
  rfl
 have pD : Hid (∀ (q : Qv) (s : St), (bq r b q s).setIfInBounds 18 (.bool true) = bq r { b with af := true } q s) := fun q s => rfl
 have AR : Hid (∀ q s, (bq r b q s)[17]? = some (.int .i64 b.slot)) := fun _ _ => rfl
 have uH : Hid (∀ q s, (bq r b q s)[18]? = some (.bool b.af)) := fun _ _ => rfl
 obtain ⟨n0, xw⟩ := ex b.slot
 rw [xw] at yR AR
 have Rx := iD xw
 obtain ⟨W, hW⟩ := ex ((((w.alloc (.cells (bq r b r.q b.st) 45)).alloc (.cells (xa x g) 35)).alloc (.cells zB 45)).alloc (.cells zF 35))
 have H0 := iD (Fr.four hW)
 clear EJ xR xv fL EB Qt Sf hX h hR ho hw lj xw hq hn
 go_enter func47, ntmps47
 go_upto_region 1 with (fail)
 try rw [hW]
 clear hW
 refine wp_region_list ?_
 refine jM H0.aE ?_
 refine xt H0.dL ?_
 refine cP (HD W) ?_
 rintro e v1 ⟨rfl, dC⟩
 have H2 := iD (H0.ab dC)
 clear dC
 refine rP ?_
 refine wV (.tuple #[.agg (bq r b r.q b.st), .bool false]) ?_
 refine wV (.agg (bq r b r.q b.st)) ?_
 refine wV (.bool false) ?_
 refine sP 0 H2 fun w3 _ H3 => ?_
 have d17 := H3.cell0 17 (AR r.q b.st)
 by_cases h2 : n0 = 2
 rotate_left
 ·have LH : ((n0 : Int) != 2) = true := by simp; omega
  go_upto_region 5 with (fail)
  refine rV H3 ?_
  exact fun _ o H6 => (by rw [fR, iP (show b.slot ≠ 2 by rw [Rx]; exact h2)]; exact rM.same HH zj H6.below rfl)
 subst h2
 go_upto_region 6 with (fail)
 have d6 := H3.cell0 6 ND
 have d0 := xX _ H3.below 0 oM
 have d1 := xX _ H3.below 1 oM
 have d2 := xX _ H3.below 2 oM
 rw [PK.1, Nat.add_zero] at d0
 rw [PK.2.1] at d1
 rw [PK.2.2] at d2
 go_quiet (fail)
 obtain ⟨v6, yP⟩ := ex (w3.drewN nq)
 have H4 : Hid (Fr w v6 [((bq r b r.q b.st), 45), ((xa x g), 35), (zB, 45), (zF, 35)]) := by rw [← yP]; exact H3.ab (Below.drewN bV nq)
 rw [yP]
 clear yP d17 d6 d0 d1 d2
 by_cases ht : vt = 2
 ·have ht' : (vt == 2) = true := by simpa using ht
  have Xg := H4.cell0 17 (AR r.q b.st)
  have f17 := H4.sS 17
  go_upto_region 9 with (fail)
  clear Xg f17
  have H5 := iD (H4.iF 17 (.int .i64 va))
  rw [nr r.q b.st va aaa] at H5
  generalize (v6.setCell ⟨w.heap.size, 17, none⟩ (.int .i64 va)) = w5 at H5 ⊢
  refine rF H5 fun H6 => ?_
  refine tL 0 _ rfl (iQ (fun _ hS => hS.1) ((aW r { b with slot := va.toNat } r.q b.st))) H6.fN ?_
  refine tL 1 _ rfl (jT (fun _ hS => hS.2) ((aT x g))) H6.fN ?_
  refine vN 2 va H6.fN ?_
  refine wI 3 (sW 2 H6 fun w7 _ H7 => ?_)
  refine ⟨H7.fN, ?_⟩
  refine wI 4 (sW 3 H7 fun w8 _ H8 => ?_)
  refine ⟨H8.fN, ?_⟩
  refine vN 5 va H8.fN ?_
  refine vN 6 0 H8.fN ?_
  refine wD ?_
  go_wp2
  (try simp only [Exit.inBlock, Exit.then])
  refine rT rfl H8.eU H8.Kx (gJ (aW r { b with slot := va.toNat } r.q b.st)) (pF (aT x g)) (by rw [fR, iN (show ¬ (b.slot ≠ 2) by rw [Rx]; simp), iP ht]; exact rM.same (b := { b with slot := va.toNat }) (HH.with rfl rfl rfl (fun e => e)) zj H8.below rfl)
 have ht' : (vt == 2) = false := by simpa using ht
 by_cases Bb : 0 < vk
 ·have q9 : IntKind.i64.wrap (vk - 1) = vk - 1 := IntWalk.i64_in _ oM
  have J1 := iD (HH.v.xf H4.below 4)
  go_upto_region 12 with (fail)
  refine wp_region_list ?_
  refine jM H4.aE ?_
  refine wV (.int .i64 vk) ?_
  refine wV (.int .i64 (vk - 1)) ?_
  have gF := lP (r := r) (b := b) J1 gX.ok (XF.lt HX (H4.len)) 2 (vk - 1)
  obtain ⟨s1, Bh⟩ := ex (aU b.st 2 (vk - 1))
  rw [Bh] at gF
  have Dn := iD Bh
  have Rt := iD gF
  have uB : Hid (bC g s1) := by rw [← Bh]; exact eH gX.ok (by unfold dI; omega)
  clear gF Bh
  refine cP (Rt) ?_
  rintro e u1 ⟨q1, rfl, iG, dC⟩
  have H5 := iD (H4.ab dC)
  have uW := iD iG
  clear iG dC
  refine rP ?_
  refine sP 0 H5 fun w6 o H6 => ?_
  have Js := iD (uW.ao (Nc o))
  have Dj := iD (gM b.st (2) (vk - 1))
  rw [Dn] at Dj
  have FB := iD (zj.xf H6.below 4)
  have fQ := CY Js FB uB (XF.lt HX H6.len) (by rw [Dj.1]; exact Ny.1) (fun _ => by rw [Dj.2.2.1, Dj.2.2.2]; exact Ny.2)
  obtain ⟨tt, Nf⟩ := ex (ay s1 g)
  rw [Nf] at fQ
  obtain ⟨s2, g2, k2⟩ := tt
  simp only at fQ
  have ug := iD fQ
  have XD := iD Nf
  clear fQ Nf
  go_upto_region 16 with (fail)
  refine wp_region_list ?_
  refine wV (.pointer (some ⟨w.heap.size, 2, none⟩)) ?_
  refine Il rfl _ rfl w.heap.size rfl (bq r b q1 s1) (sa q1 s1) H6.aE (C4 r b q1 s1) (cD q1 s1) ?_
  refine xt H6.dL ?_
  refine cP (ug) ?_
  rintro e v8 ⟨q2, y2, rfl, jA, Lh, dP⟩
  have H7 := iD (H6.ab dP)
  have xW := iD jA
  have Nv := iD Lh
  clear jA Lh dP
  refine rP ?_
  refine wV (.tuple #[.agg (sa q2 s2), .agg (xa y2 g2), .int .i64 k2]) ?_
  refine wV (.agg (sa q2 s2)) ?_
  refine wV (.agg (xa y2 g2)) ?_
  refine wV (.int .i64 k2) ?_
  refine wV (.pointer (some ⟨w.heap.size, 2, none⟩)) ?_
  refine Hl rfl _ _ rfl rfl w.heap.size (sa q2 s2) rfl rfl _ (bq r b q2 s2) H7.aE (cD q2 s2) (aW r b q1 s1) (gL q2 s2) (wQ r b q1 q2 s1 s2) ?_
  have H8 := iD (H7.BR (bq r b q2 s2))
  have ML := iD (xW.ao (ah.row v8 w.heap.size (bq r b q2 s2) (pS _ _)))
  have MH := iD (Nv.ao (ah.row v8 w.heap.size (bq r b q2 s2) (pS _ _)))
  generalize v8.setRow w.heap.size (bq r b q2 s2) = w8 at H8 ML MH ⊢
  refine sP 1 H8 fun w9 o H9 => ?_
  have MK := iD (ML.ao (N7 o))
  have MG := iD (MH.ao (N7 o))
  by_cases hk : k2 = 0
  rotate_left
  ·have hk' : (k2 != 0) = true := by simpa using hk
   have Mb := H9.cell0 18 (uH q2 s2)
   have f18 := H9.sS 18
   go_upto_region 19 with (fail)
   clear Mb f18
   have jY := iD (MK.ao (ah.set w9 ⟨w.heap.size, 18, none⟩ (.bool true) (pS X _)))
   have iK := iD (MG.ao (ah.set w9 ⟨w.heap.size, 18, none⟩ (.bool true) (pS X _)))
   have lM := iD (H9.iF 18 (.bool true))
   rw [pD q2 s2] at lM
   generalize (w9.setCell ⟨w.heap.size, 18, none⟩ (.bool true)) = Uj at lM jY iK ⊢
   refine rV lM ?_
   exact fun _ o uZ => (by rw [fR, iN (show ¬ (b.slot ≠ 2) by rw [Rx]; simp), iN ht, iP oM, Dn, XD, iP hk]; exact ⟨{ r with q := q2 }, y2, rfl, gW.dead ((jY.ao (o _)).cU (fun _ => .inl)) rfl, (iK.ao (o _)).cU (fun _ => .inl), fun _ hk => hk, uZ.below⟩)
  have hk' : (k2 != 0) = false := by simpa using hk
  subst hk
  have Xg := H9.cell0 17 (AR q2 s2)
  have f17 := H9.sS 17
  go_upto_region 21 with (fail)
  clear Xg f17
  have jY := iD (MK.ao (ah.set w9 ⟨w.heap.size, 17, none⟩ (.int .i64 vt) (pS X _)))
  have iK := iD (MG.ao (ah.set w9 ⟨w.heap.size, 17, none⟩ (.int .i64 vt) (pS X _)))
  have lM := iD (H9.iF 17 (.int .i64 vt))
  rw [nr q2 s2 vt oM] at lM
  generalize (w9.setCell ⟨w.heap.size, 17, none⟩ (.int .i64 vt)) = Uj at lM jY iK ⊢
  have TE := iD (jY.below fY)
  have tj := iD (iK.below fY)
  refine rF lM fun pP => ?_
  refine tL 0 _ rfl (iQ (fun _ hS => hS.1) ((aW r { b with slot := vt.toNat } q2 s2))) pP.fN ?_
  refine tL 1 _ rfl (jT (fun _ hS => hS.2) ((aT y2 g2))) pP.fN ?_
  refine vN 2 vt pP.fN ?_
  refine wI 3 (sW 2 pP fun w12 o H12 => ?_)
  have Fz := iD (TE.ao (Nb o))
  have Fv := iD (tj.ao (Nb o))
  refine ⟨H12.fN, ?_⟩
  refine wI 4 (sW 3 H12 fun YD o uZ => ?_)
  have Fy := iD (Fz.ao (Vu o))
  have Fu := iD (Fv.ao (Vu o))
  refine ⟨uZ.fN, ?_⟩
  refine vN 5 vt uZ.fN ?_
  refine vN 6 0 uZ.fN ?_
  refine wD ?_
  go_wp2
  (try simp only [Exit.inBlock, Exit.then])
  refine rT rfl uZ.eU uZ.Kx (gJ (aW r { b with slot := vt.toNat } q2 s2)) (pF (aT y2 g2)) (by rw [fR, iN (show ¬ (b.slot ≠ 2) by rw [Rx]; simp), iN ht, iP oM, Dn, XD, iN (by simp)]; exact ⟨{ r with q := q2 }, y2, rfl, ⟨Fy.cU (fun _ => .inl), (HH.below uZ.below).er, (HH.below uZ.below).dt⟩, Fu.cU (fun _ => .inl), fun _ hk => hk, uZ.below⟩)
 have J1 := iD (HH.v.xf H4.below 4)
 go_upto_region 13 with (fail)
 refine wp_region_list ?_
 refine jM H4.aE ?_
 have gF := lP (r := r) (b := b) J1 gX.ok (XF.lt HX (H4.len)) 1 (2)
 obtain ⟨s1, Bh⟩ := ex (aU b.st 1 (2))
 rw [Bh] at gF
 have Dn := iD Bh
 have Rt := iD gF
 have uB : Hid (bC g s1) := by rw [← Bh]; exact eH gX.ok (by unfold dI; omega)
 clear gF Bh
 refine cP (Rt) ?_
 rintro e u1 ⟨q1, rfl, iG, dC⟩
 have H5 := iD (H4.ab dC)
 have uW := iD iG
 clear iG dC
 refine rP ?_
 refine sP 0 H5 fun w6 o H6 => ?_
 have Js := iD (uW.ao (Nc o))
 have Dj := iD (gM b.st (1) (2))
 rw [Dn] at Dj
 have FB := iD (zj.xf H6.below 4)
 have fQ := CY Js FB uB (XF.lt HX H6.len) (by rw [Dj.1]; exact Ny.1) (fun _ => by rw [Dj.2.2.1, Dj.2.2.2]; exact Ny.2)
 obtain ⟨tt, Nf⟩ := ex (ay s1 g)
 rw [Nf] at fQ
 obtain ⟨s2, g2, k2⟩ := tt
 simp only at fQ
 have ug := iD fQ
 have XD := iD Nf
 clear fQ Nf
 go_upto_region 16 with (fail)
 refine wp_region_list ?_
 refine wV (.pointer (some ⟨w.heap.size, 2, none⟩)) ?_
 refine Il rfl _ rfl w.heap.size rfl (bq r b q1 s1) (sa q1 s1) H6.aE (C4 r b q1 s1) (cD q1 s1) ?_
 refine xt H6.dL ?_
 refine cP (ug) ?_
 rintro e v8 ⟨q2, y2, rfl, jA, Lh, dP⟩
 have H7 := iD (H6.ab dP)
 have xW := iD jA
 have Nv := iD Lh
 clear jA Lh dP
 refine rP ?_
 refine wV (.tuple #[.agg (sa q2 s2), .agg (xa y2 g2), .int .i64 k2]) ?_
 refine wV (.agg (sa q2 s2)) ?_
 refine wV (.agg (xa y2 g2)) ?_
 refine wV (.int .i64 k2) ?_
 refine wV (.pointer (some ⟨w.heap.size, 2, none⟩)) ?_
 refine Hl rfl _ _ rfl rfl w.heap.size (sa q2 s2) rfl rfl _ (bq r b q2 s2) H7.aE (cD q2 s2) (aW r b q1 s1) (gL q2 s2) (wQ r b q1 q2 s1 s2) ?_
 have H8 := iD (H7.BR (bq r b q2 s2))
 have ML := iD (xW.ao (ah.row v8 w.heap.size (bq r b q2 s2) (pS _ _)))
 have MH := iD (Nv.ao (ah.row v8 w.heap.size (bq r b q2 s2) (pS _ _)))
 generalize v8.setRow w.heap.size (bq r b q2 s2) = w8 at H8 ML MH ⊢
 refine sP 1 H8 fun w9 o H9 => ?_
 have MK := iD (ML.ao (N7 o))
 have MG := iD (MH.ao (N7 o))
 by_cases hk : k2 = 0
 rotate_left
 ·have hk' : (k2 != 0) = true := by simpa using hk
  have Mb := H9.cell0 18 (uH q2 s2)
  have f18 := H9.sS 18
  go_upto_region 19 with (fail)
  clear Mb f18
  have jY := iD (MK.ao (ah.set w9 ⟨w.heap.size, 18, none⟩ (.bool true) (pS X _)))
  have iK := iD (MG.ao (ah.set w9 ⟨w.heap.size, 18, none⟩ (.bool true) (pS X _)))
  have lM := iD (H9.iF 18 (.bool true))
  rw [pD q2 s2] at lM
  generalize (w9.setCell ⟨w.heap.size, 18, none⟩ (.bool true)) = Uj at lM jY iK ⊢
  refine rV lM ?_
  exact fun _ o uZ => (by rw [fR, iN (show ¬ (b.slot ≠ 2) by rw [Rx]; simp), iN ht, iN oM, Dn, XD, iP hk]; exact ⟨{ r with q := q2 }, y2, rfl, gW.dead ((jY.ao (o _)).cU (fun _ => .inl)) rfl, (iK.ao (o _)).cU (fun _ => .inl), fun _ hk => hk, uZ.below⟩)
 have hk' : (k2 != 0) = false := by simpa using hk
 subst hk
 have Xg := H9.cell0 17 (AR q2 s2)
 have f17 := H9.sS 17
 go_upto_region 21 with (fail)
 clear Xg f17
 have jY := iD (MK.ao (ah.set w9 ⟨w.heap.size, 17, none⟩ (.int .i64 va) (pS X _)))
 have iK := iD (MG.ao (ah.set w9 ⟨w.heap.size, 17, none⟩ (.int .i64 va) (pS X _)))
 have lM := iD (H9.iF 17 (.int .i64 va))
 rw [nr q2 s2 va oM] at lM
 generalize (w9.setCell ⟨w.heap.size, 17, none⟩ (.int .i64 va)) = Uj at lM jY iK ⊢
 have TE := iD (jY.below fY)
 have tj := iD (iK.below fY)
 refine rF lM fun pP => ?_
 refine tL 0 _ rfl (iQ (fun _ hS => hS.1) ((aW r { b with slot := va.toNat } q2 s2))) pP.fN ?_
 refine tL 1 _ rfl (jT (fun _ hS => hS.2) ((aT y2 g2))) pP.fN ?_
 refine vN 2 va pP.fN ?_
 refine wI 3 (sW 2 pP fun w12 o H12 => ?_)
 have Fz := iD (TE.ao (Nb o))
 have Fv := iD (tj.ao (Nb o))
 refine ⟨H12.fN, ?_⟩
 refine wI 4 (sW 3 H12 fun YD o uZ => ?_)
 have Fy := iD (Fz.ao (Vu o))
 have Fu := iD (Fv.ao (Vu o))
 refine ⟨uZ.fN, ?_⟩
 refine vN 5 va uZ.fN ?_
 refine vN 6 0 uZ.fN ?_
 refine wD ?_
 go_wp2
 (try simp only [Exit.inBlock, Exit.then])
 refine rT rfl uZ.eU uZ.Kx (gJ (aW r { b with slot := va.toNat } q2 s2)) (pF (aT y2 g2)) (by rw [fR, iN (show ¬ (b.slot ≠ 2) by rw [Rx]; simp), iN ht, iN oM, Dn, XD, iN (by simp)]; exact ⟨{ r with q := q2 }, y2, rfl, ⟨Fy.cU (fun _ => .inl), (HH.below uZ.below).er, (HH.below uZ.below).dt⟩, Fu.cU (fun _ => .inl), fun _ hk => hk, uZ.below⟩)
theorem Ts (h : gW X B w r b g.pg) (hR : ca X w x g) (hX : ∀ b, X b → b < w.heap.size) (ho : bU g b) (hJ : b.af = false → jJ g b n) (hn : n < 1000000) :
 Calls prog 47 #[.agg (ba r b), .agg (xa x g)] w (rM X B w r g.pg (cy b g).1 (cy b g).2.1 (.int .i64 (cy b g).2.2.1) (cy b g).2.2.2) := by
 by_cases hz : (aq b g).af = true
 ·refine (Jd r b x g hz w).mono ?_
  rintro e w' ⟨he, hb⟩
  have : cy b g = (aq b g, g, 0, 20) := by unfold cy; rw [iP hz]
  rw [this]
  exact rM.same (h.fk g) hR hb he
 have hw := Wk.of hz hJ
 exact Jc h hR hX ho hw (hJ hw.br).sq hn
end Go.Proofs.YtjdknddnanopaaaGreat
