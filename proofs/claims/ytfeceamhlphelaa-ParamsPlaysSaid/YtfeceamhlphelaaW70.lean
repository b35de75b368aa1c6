/-
  The reference of layer 51: Open, all of it.
-/
import Derived.Test.YtfeceamhlphelaaW71
namespace Go.Proofs.Ytfeceamhlphelaa
open Go.RowKit
set_option linter.unusedVariables false
set_option linter.unusedSimpArgs false

theorem RsI.other {w wr : World} {D4 D8 D n cq cs : Nat} {x : Rc} {g : Fl} {fi bl seq blk slot : Int} {Q Qs : Option Addr} {sp : List Par} {raw : List Int} (h : RsI w wr D4 D8 D x g fi bl Q n cq sp Qs cs raw seq blk slot) (j : Nat) (u : Value) {v : Value} {k : Nat} {xs : List Value}
    (ho : wr.ownsRow w.heap.size 3 1 v k xs) : (wr.setCell ⟨D, j, none⟩ u).ownsRow w.heap.size 3 1 v k xs := kept_of ho (h.o.stored j u).2 (fun g hg e => own_ne_own h.o ho (by decide) g e hg)
theorem pagesF_len9 (f : Fl) (a n : Nat) : (pagesF f a n).length = n := by unfold pagesF; simp
/-- A reference store that was opened. -/
def RsO (X : Nat → Prop) (w : World) (v : Value) (s : St) : Prop :=
  ∃ (Q1 : Option Addr) (c1 : Nat) (Q2 : Option Addr) (c2 : Nat) (Q3 : Option Addr) (c3 : Nat), v = .agg #[.int .i64 s.first, .int .i64 s.blocks, .slice Q1 s.spec.length c1, .slice Q2 s.staged.length c2, .slice Q3 s.saved.length c3, .int .i64 s.seq, .int .i64 s.block, .int .i64 s.slot, .slice none 0 0, .slice none 0 0, .int .i64 0, .int .i64 (-1), .int .i64 0, .int .i64 0, .bool false] ∧
    RdX X w Q1 (pcells s.spec) ∧ s.spec.length ≤ c1 ∧ c1 ≤ maxLen ∧ RdX X w Q2 (icells s.staged) ∧ s.staged.length ≤ c2 ∧ c2 ≤ maxLen ∧ RdX X w Q3 (icells s.saved) ∧ s.saved.length ≤ c3 ∧ c3 ≤ maxLen
/-- What the reference's Open leaves. -/
def OpS (X : Nat → Prop) (w : World) (g : Fl) (fi bl : Nat) (sp : List Par) (e : Ending) (w' : World) : Prop :=
  ∃ v, e = .returned (.tuple #[v, .int .i64 (openE g fi bl sp)]) ∧ Below w.heap.size w w' ∧ (openE g fi bl sp = 0 → RsO X w' v (openF g fi bl sp)) ∧ (openE g fi bl sp ≠ 0 → v = zeroS)
theorem OpS.no {X : Nat → Prop} {w w' : World} {g : Fl} {fi bl : Nat} {sp : List Par} {k : Int} (he : openE g fi bl sp = k) (hk : k ≠ 0) (hb : Below w.heap.size w w') : OpS X w g fi bl sp (.returned (.tuple #[zeroS, .int .i64 k])) w' :=
  ⟨zeroS, by rw [he], hb, fun h => absurd (he.symm.trans h) hk, fun _ => rfl⟩
theorem openE_mid {g : Fl} {fi bl : Nat} {sp : List Par} (hd : g.down = false) (hb2 : 2 ≤ bl) (hb16 : bl ≤ 16) (hfb : fi + bl ≤ g.wear.length) (hn1 : 1 ≤ sp.length) (hn48 : sp.length ≤ 48) : openE g fi bl sp = if sp.any badP = true then 3 else if g.pg < pgs sp.length then 11 else 0 := by
  unfold openE
  rw [hd, if_neg (by decide), if_neg (by omega), if_neg (by omega), if_neg (by omega)]
  rfl

set_option maxRecDepth 100000 in
set_option maxHeartbeats 8000000 in
theorem open_bad {X : Nat → Prop} {w : World} {x : Rc} {g : Fl} (h : RAt X w x g) (hX : ∀ b, X b → b < w.heap.size) (fi bl : Nat) (A : Option Addr) (n c : Nat) (sp : List Par) (hA : Rd w w.heap.size A (pcells sp)) (hsl : sp.length = n) (hnc : n ≤ c) (hcm : c ≤ maxLen) (hok : ∀ p ∈ sp, p.ok)
    (hd : g.down = false) (hb2 : 2 ≤ bl) (hb16 : bl ≤ 16) (hfb : fi + bl ≤ g.wear.length) (hn1 : 1 ≤ n) (hn48 : n ≤ 48) (hany : sp.any badP = true) :
    Calls Try.prog 65 #[x.v g, .int .i64 (fi : Int), .int .i64 (bl : Int), .slice A n c] w (OpS X w g fi bl sp) := by
  have hwl := h.ok.b2
  have HR := Lib.hid h
  have HX := Lib.hid hX
  have HE := Lib.hid (openE_mid hd hb2 hb16 hfb (by rw [hsl]; exact hn1) (by rw [hsl]; exact hn48))
  rw [hsl] at HE
  have hp16 := h.ok.p2
  have hp1 := h.ok.p1
  have HA := Lib.hid hA
  have HSL := Lib.hid hsl
  have HOK := Lib.hid hok
  obtain ⟨B, cc, D, d, P, r⟩ := x
  show Calls Try.prog 65 #[.agg #[.slice B g.img.length cc, .int .i64 g.pg, .slice D g.wear.length d, .bool g.down, .int .i64 g.fuse, .slice P g.picks.length r], _, _, _] w _
  obtain ⟨i9, hi9, hz90, hz91, hz92⟩ := info_parts info99
  unfold maxLen at hcm
  have HKL : Hid ((pcells sp).length = n * 3) := by rw [Hid, pcells_length, hsl]
  have hm0 : 0 ≤ maxLen := Nat.zero_le _
  rw [hd]
  obtain ⟨wl, hwl9⟩ : ∃ k, g.wear.length = k := ⟨_, rfl⟩
  rw [hwl9] at hwl hfb
  rw [hwl9]
  have HANY0 := Lib.hid hany
  clear h hA hsl hok
  go_enter Try.func65, Try.ntmps65
  go_upto_region 9 with (fail)
  obtain ⟨W2, hW2⟩ : ∃ W, (w.alloc (.cells #[.slice B g.img.length cc, .int .i64 g.pg, .slice D wl d, .bool false, .int .i64 g.fuse, .slice P g.picks.length r] 60)).alloc (.cells #[.int .i64 0, .int .i64 0, .slice none 0 0, .slice none 0 0, .slice none 0 0, .int .i64 0, .int .i64 0, .int .i64 0, .slice none 0 0, .slice none 0 0, .int .i64 0, .int .i64 0, .int .i64 0, .int .i64 0, .bool false] 105) = W := ⟨_, rfl⟩
  have HS1 : Hid (∀ o, (w.alloc o).heap.size = w.heap.size + 1) := fun o => Array.size_push _
  have HB2 : Hid (Below w.heap.size w W2) := by rw [← hW2]; exact below_two _ _ _
  have HO4 : Hid (W2.ownsRow w.heap.size 60 6 (.slice (some ⟨w.heap.size, 0, none⟩) 1 1) 1 [.slice B g.img.length cc, .int .i64 g.pg, .slice D wl d, .bool false, .int .i64 g.fuse, .slice P g.picks.length r]) := by
    rw [← hW2]
    exact own_below (own_box9 rfl rfl (Nat.le_refl _)) (below_one _ _)
  have HO8 : Hid (W2.ownsRow w.heap.size 105 15 (.slice (some ⟨w.heap.size + 1, 0, none⟩) 1 1) 1 zL) := by
    rw [← hW2]
    have := own_box9 (w := w.alloc (.cells #[.slice B g.img.length cc, .int .i64 g.pg, .slice D wl d, .bool false, .int .i64 g.fuse, .slice P g.picks.length r] 60)) (base := w.heap.size) (e := 105) (size := 15) (cs := #[.int .i64 0, .int .i64 0, .slice none 0 0, .slice none 0 0, .slice none 0 0, .int .i64 0, .int .i64 0, .int .i64 0, .slice none 0 0, .slice none 0 0, .int .i64 0, .int .i64 0, .int .i64 0, .int .i64 0, .bool false]) (xs := zL) rfl rfl (by rw [HS1.out]; omega)
    rw [HS1.out] at this
    exact this
  try rw [hW2]
  clear hW2
  go_wp2_with (at_builtin; refine wpList_append_rd _ rfl _ _ 86 rfl w.heap.size 99 i9 (.agg #[.int .i64 0, .int .i64 0, .int .i64 0]) 3 24 Try.underlying86 hi9 hz90 hz91 hz92 rfl (by omega) _ 0 [] rfl (World.ownsRow_lit W2 #[] 0 HB2.out.size hm0 rfl) w.heap.size _ n c (pcells sp) rfl ((HA.out.below HB2.out (Nat.le_refl _)).below ((Below.refl W2.heap.size W2).alloc (Nat.le_refl _) _) HB2.out.size) HKL.out (pcells_one _) (by unfold maxLen; omega) (by omega) (by have := HB2.out.size; simp; omega) ?_)
  intro v5 w5 hown5 hgrow5 _
  have ho5 : w5.ownsRow w.heap.size 99 3 v5 n (pcells sp) := by simpa using hown5
  have hb5 : Below W2.heap.size W2 w5 := ((Below.refl W2.heap.size W2).alloc (Nat.le_refl _) _).grown hgrow5 (by simp) (fun k hk => by have hk' : some W2.heap.size = some k := hk; injection hk'; omega)
  have HB5 : Hid (Below w.heap.size w w5) := HB2.out.trans (hb5.mono HB2.out.size)
  have HO45 := Lib.hid (own_below HO4.out hb5)
  have HO85 := Lib.hid (own_below HO8.out hb5)
  obtain ⟨Q, cq, rfl, hq1, hq2, _⟩ := own_form ho5
  have HSP5 := Lib.hid ho5
  clear hown5 hgrow5 ho5 hb5
  have HNE : Hid (w.heap.size + 1 < w5.heap.size) := (HO85.out.lt _ rfl).2
  have hI6 : RsI w (w5.alloc (.cells #[.int .i64 (fi : Int), .int .i64 (bl : Int), .slice Q n cq, .slice none 0 0, .slice none 0 0, .int .i64 0, .int .i64 0, .int .i64 (-1), .slice none 0 0, .slice none 0 0, .int .i64 0, .int .i64 (-1), .int .i64 0, .int .i64 0, .bool false] 105)) w.heap.size (w.heap.size + 1) w5.heap.size ⟨B, cc, D, d, P, r⟩ g fi bl Q n cq sp none 0 [] 0 0 (-1) := by
    have hb := (Below.refl w5.heap.size w5).alloc (Nat.le_refl _) (.cells #[.int .i64 (fi : Int), .int .i64 (bl : Int), .slice Q n cq, .slice none 0 0, .slice none 0 0, .int .i64 0, .int .i64 0, .int .i64 (-1), .slice none 0 0, .slice none 0 0, .int .i64 0, .int .i64 (-1), .int .i64 0, .int .i64 0, .bool false] 105)
    refine ⟨HB5.out.trans (hb.mono HB5.out.size), ?_, own_below HO85.out hb, own_box9 rfl rfl HB5.out.size, own_below HSP5.out hb, World.ownsRow_nil _ _ _ _, by have := HNE.out; omega⟩
    have e : Rc.l ⟨B, cc, D, d, P, r⟩ g = [.slice B g.img.length cc, .int .i64 g.pg, .slice D wl d, .bool false, .int .i64 g.fuse, .slice P g.picks.length r] := by
      unfold Rc.l
      rw [hd, hwl9]
    rw [e]
    exact own_below HO45.out hb
  have HI6 := Lib.hid hI6
  obtain ⟨i3, hi3, hz30, hz31, hz32⟩ := info_parts info3
  clear hI6
  go_wp2
  go_loopw [64] (fun i wr => ∃ (j cs : Nat) (Qs : Option Addr), j ≤ n ∧ i = .int .i64 j ∧ RsI w wr w.heap.size (w.heap.size + 1) w5.heap.size ⟨B, cc, D, d, P, r⟩ g fi bl Q n cq sp Qs cs ((sp.take j).map Par.df) 0 0 (-1) ∧ (sp.take j).any badP = false) (fun i _ => n - (intOf i).toNat)
  case atStart => exact ⟨0, 0, none, Nat.zero_le _, rfl, HI6.out, rfl⟩
  case round =>
    obtain ⟨j, cs, Qs, hj, rfl, hI, hgood⟩ := hrel
    have HI := Lib.hid hI
    have HGD := Lib.hid hgood
    clear hI hgood
    by_cases hlt : j < n
    · obtain ⟨p, hp⟩ := getElem?_of_lt (l := sp) (k := j) (by rw [HSL.out]; exact hlt)
      obtain ⟨ba, off, rfl, c0, c1, c2⟩ := (HA.out.below HI.out.below (Nat.le_refl _)).par69 hp
      have HTK : Hid ((sp.take (j + 1)).map Par.df = (sp.take j).map Par.df ++ [p.df]) := by rw [Hid, take_snoc_get _ j p hp, List.map_append]; rfl
      have HLN : Hid (((sp.take j).map Par.df).length = j) := by rw [Hid, List.length_map, List.length_take, HSL.out]; omega
      obtain ⟨raw, hraw⟩ : ∃ l, (sp.take j).map Par.df = l := ⟨_, rfl⟩
      rw [hraw] at HTK HLN HI
      clear hraw
      obtain ⟨W, hW⟩ : ∃ V, wr.alloc (.cells #[.int .i64 p.lo, .int .i64 p.hi, .int .i64 p.df] 99) = V := ⟨_, rfl⟩
      have HBW : Hid (Below wr.heap.size wr W) := by rw [← hW]; exact (Below.refl _ _).alloc (Nat.le_refl _) _
      have d0 : W.cell? ⟨wr.heap.size, 0, none⟩ = some (.int .i64 p.lo) := by rw [← hW]; exact cell_new_at _ _ _ _ _ _ rfl rfl
      have d1 : W.cell? ⟨wr.heap.size, 1, none⟩ = some (.int .i64 p.hi) := by rw [← hW]; exact cell_new_at _ _ _ _ _ _ rfl rfl
      have d2 : W.cell? ⟨wr.heap.size, 2, none⟩ = some (.int .i64 p.df) := by rw [← hW]; exact cell_new_at _ _ _ _ _ _ rfl rfl
      have HIW := Lib.hid (HI.out.later HBW.out)
      have hpok := HOK.out p (List.mem_of_getElem? hp)
      have HP := Lib.hid hp
      clear hp
      by_cases hbad : badP p = true
      · have hc : p.df < p.lo ∨ (¬ p.df < p.lo ∧ p.hi < p.df) := by
          unfold badP at hbad
          rw [decide_eq_true_eq] at hbad
          omega
        have z0 := HIW.out.zrow 0 _ rfl
        have f0 := HIW.out.o8.frozenAt 0
        have z1 := HIW.out.zrow 1 _ rfl
        have f1 := HIW.out.o8.frozenAt 1
        have z2 := HIW.out.zrow 2 _ rfl
        have f2 := HIW.out.o8.frozenAt 2
        have z3 := HIW.out.zrow 3 _ rfl
        have f3 := HIW.out.o8.frozenAt 3
        have z4 := HIW.out.zrow 4 _ rfl
        have f4 := HIW.out.o8.frozenAt 4
        have z5 := HIW.out.zrow 5 _ rfl
        have f5 := HIW.out.o8.frozenAt 5
        have z6 := HIW.out.zrow 6 _ rfl
        have f6 := HIW.out.o8.frozenAt 6
        have z7 := HIW.out.zrow 7 _ rfl
        have f7 := HIW.out.o8.frozenAt 7
        have z8 := HIW.out.zrow 8 _ rfl
        have f8 := HIW.out.o8.frozenAt 8
        have z9 := HIW.out.zrow 9 _ rfl
        have f9 := HIW.out.o8.frozenAt 9
        have z10 := HIW.out.zrow 10 _ rfl
        have f10 := HIW.out.o8.frozenAt 10
        have z11 := HIW.out.zrow 11 _ rfl
        have f11 := HIW.out.o8.frozenAt 11
        have z12 := HIW.out.zrow 12 _ rfl
        have f12 := HIW.out.o8.frozenAt 12
        have z13 := HIW.out.zrow 13 _ rfl
        have f13 := HIW.out.o8.frozenAt 13
        have z14 := HIW.out.zrow 14 _ rfl
        have f14 := HIW.out.o8.frozenAt 14
        have HD8 : Hid (w.heap.size ≤ w.heap.size + 1) := Nat.le_succ _
        have HBWW := Lib.hid HIW.out.below
        have HANY : Hid (sp.any badP = true) := any_yes HP.out hbad
        clear hbad
        go_upto_region 13 with (fail)
        try rw [hW]
        clear hW c0 c1 c2
        rcases hc with hc | ⟨hc1, hc2⟩
        · go_wp2
          (try simp only [Exit.inBlock, Exit.then])
          refine bodyPost_ret (v := .tuple #[zeroS, .int .i64 3]) ?_ rfl (OpS.no (HE.out.trans (if_pos HANY.out)) (by decide) ?_)
          · rw [results_cell_tmp rfl]
            unfold zeroS
            go_simp
          · repeat (refine Below.setCell ?_ HD8.out _)
            exact HBWW.out
        · go_wp2
          (try simp only [Exit.inBlock, Exit.then])
          refine bodyPost_ret (v := .tuple #[zeroS, .int .i64 3]) ?_ rfl (OpS.no (HE.out.trans (if_pos HANY.out)) (by decide) ?_)
          · rw [results_cell_tmp rfl]
            unfold zeroS
            go_simp
          · repeat (refine Below.setCell ?_ HD8.out _)
            exact HBWW.out
      · have hb' : badP p = false := by simpa using hbad
        have HBD := Lib.hid hb'
        have hg : ¬ p.df < p.lo ∧ ¬ p.hi < p.df := by
          unfold badP at hb'
          rw [decide_eq_false_iff_not] at hb'
          omega
        obtain ⟨hg1, hg2⟩ := hg
        have r4 := HIW.out.row 4 _ rfl
        rw [HLN.out] at r4
        have hsv := HIW.out.sv
        rw [HLN.out] at hsv
        have HSV := Lib.hid hsv
        clear hbad hb' hsv
        go_upto_region 13 with (fail)
        try rw [hW]
        clear hW c0 c1 c2
        go_wp2_with (at_builtin; refine wpList_append_own _ rfl _ _ 44 rfl w.heap.size 3 i3 (.int .i64 0) 1 8 Try.underlying44 hi3 hz30 hz31 hz32 rfl (by omega) _ j _ rfl (own_below HSV.out ((Below.refl _ _).alloc (Nat.le_refl _) _)) ⟨W.heap.size, 0, none⟩ 1 1 [.int .i64 p.df] rfl rfl (cell_one_new _ _ _) (by simp [Value.oneCell']) (by unfold maxLen; omega) (by omega) (by have := HIW.out.below.size; simp; omega) ?_)
        intro v' w8 hown8 hgrow8 _
        have hpu := HIW.out.push (W' := w8) (v' := v') (y := p.df) (o := .cells #[.int .i64 p.df] 3) (by rw [HLN.out, icells, List.map_append]; exact hown8) (by rw [HLN.out]; exact hgrow8)
        obtain ⟨Qs', cs', rfl, _, z4, c4, hI8⟩ := hpu
        rw [HLN.out] at hI8 c4
        rw [HLN.out]
        have HI8 := Lib.hid hI8
        clear hown8 hgrow8 hI8 d0 d1 d2 r4
        go_wp2
        go_roundw
        case rel => exact ⟨j + 1, cs', Qs', by omega, by go_num, by rw [HTK.out]; exact HI8.out, any_step HP.out HGD.out HBD.out⟩
        case measure => simp [intOf]; omega
    · have hjn : j = n := by omega
      subst hjn
      exfalso
      have h1 := HGD.out
      rw [List.take_of_length_le (by rw [HSL.out]; exact Nat.le_refl _), HANY0.out] at h1
      cases h1
set_option maxRecDepth 100000 in
set_option maxHeartbeats 8000000 in
theorem open_pg {X : Nat → Prop} {w : World} {x : Rc} {g : Fl} (h : RAt X w x g) (hX : ∀ b, X b → b < w.heap.size) (fi bl : Nat) (A : Option Addr) (n c : Nat) (sp : List Par) (hA : Rd w w.heap.size A (pcells sp)) (hsl : sp.length = n) (hnc : n ≤ c) (hcm : c ≤ maxLen) (hok : ∀ p ∈ sp, p.ok)
    (hd : g.down = false) (hb2 : 2 ≤ bl) (hb16 : bl ≤ 16) (hfb : fi + bl ≤ g.wear.length) (hn1 : 1 ≤ n) (hn48 : n ≤ 48) (hall0 : sp.any badP = false) (hpgk : g.pg < pgs sp.length) :
    Calls Try.prog 65 #[x.v g, .int .i64 (fi : Int), .int .i64 (bl : Int), .slice A n c] w (OpS X w g fi bl sp) := by
  have hwl := h.ok.b2
  have HR := Lib.hid h
  have HX := Lib.hid hX
  have HE := Lib.hid (openE_mid hd hb2 hb16 hfb (by rw [hsl]; exact hn1) (by rw [hsl]; exact hn48))
  rw [hsl] at HE
  have hp16 := h.ok.p2
  have hp1 := h.ok.p1
  have HA := Lib.hid hA
  have HSL := Lib.hid hsl
  have HOK := Lib.hid hok
  obtain ⟨B, cc, D, d, P, r⟩ := x
  show Calls Try.prog 65 #[.agg #[.slice B g.img.length cc, .int .i64 g.pg, .slice D g.wear.length d, .bool g.down, .int .i64 g.fuse, .slice P g.picks.length r], _, _, _] w _
  obtain ⟨i9, hi9, hz90, hz91, hz92⟩ := info_parts info99
  unfold maxLen at hcm
  have HKL : Hid ((pcells sp).length = n * 3) := by rw [Hid, pcells_length, hsl]
  have hm0 : 0 ≤ maxLen := Nat.zero_le _
  rw [hd]
  obtain ⟨wl, hwl9⟩ : ∃ k, g.wear.length = k := ⟨_, rfl⟩
  rw [hwl9] at hwl hfb
  rw [hwl9]
  have HALL0 := Lib.hid hall0
  have HPGK := Lib.hid hpgk
  clear h hA hsl hok
  go_enter Try.func65, Try.ntmps65
  go_upto_region 9 with (fail)
  obtain ⟨W2, hW2⟩ : ∃ W, (w.alloc (.cells #[.slice B g.img.length cc, .int .i64 g.pg, .slice D wl d, .bool false, .int .i64 g.fuse, .slice P g.picks.length r] 60)).alloc (.cells #[.int .i64 0, .int .i64 0, .slice none 0 0, .slice none 0 0, .slice none 0 0, .int .i64 0, .int .i64 0, .int .i64 0, .slice none 0 0, .slice none 0 0, .int .i64 0, .int .i64 0, .int .i64 0, .int .i64 0, .bool false] 105) = W := ⟨_, rfl⟩
  have HS1 : Hid (∀ o, (w.alloc o).heap.size = w.heap.size + 1) := fun o => Array.size_push _
  have HB2 : Hid (Below w.heap.size w W2) := by rw [← hW2]; exact below_two _ _ _
  have HO4 : Hid (W2.ownsRow w.heap.size 60 6 (.slice (some ⟨w.heap.size, 0, none⟩) 1 1) 1 [.slice B g.img.length cc, .int .i64 g.pg, .slice D wl d, .bool false, .int .i64 g.fuse, .slice P g.picks.length r]) := by
    rw [← hW2]
    exact own_below (own_box9 rfl rfl (Nat.le_refl _)) (below_one _ _)
  have HO8 : Hid (W2.ownsRow w.heap.size 105 15 (.slice (some ⟨w.heap.size + 1, 0, none⟩) 1 1) 1 zL) := by
    rw [← hW2]
    have := own_box9 (w := w.alloc (.cells #[.slice B g.img.length cc, .int .i64 g.pg, .slice D wl d, .bool false, .int .i64 g.fuse, .slice P g.picks.length r] 60)) (base := w.heap.size) (e := 105) (size := 15) (cs := #[.int .i64 0, .int .i64 0, .slice none 0 0, .slice none 0 0, .slice none 0 0, .int .i64 0, .int .i64 0, .int .i64 0, .slice none 0 0, .slice none 0 0, .int .i64 0, .int .i64 0, .int .i64 0, .int .i64 0, .bool false]) (xs := zL) rfl rfl (by rw [HS1.out]; omega)
    rw [HS1.out] at this
    exact this
  try rw [hW2]
  clear hW2
  go_wp2_with (at_builtin; refine wpList_append_rd _ rfl _ _ 86 rfl w.heap.size 99 i9 (.agg #[.int .i64 0, .int .i64 0, .int .i64 0]) 3 24 Try.underlying86 hi9 hz90 hz91 hz92 rfl (by omega) _ 0 [] rfl (World.ownsRow_lit W2 #[] 0 HB2.out.size hm0 rfl) w.heap.size _ n c (pcells sp) rfl ((HA.out.below HB2.out (Nat.le_refl _)).below ((Below.refl W2.heap.size W2).alloc (Nat.le_refl _) _) HB2.out.size) HKL.out (pcells_one _) (by unfold maxLen; omega) (by omega) (by have := HB2.out.size; simp; omega) ?_)
  intro v5 w5 hown5 hgrow5 _
  have ho5 : w5.ownsRow w.heap.size 99 3 v5 n (pcells sp) := by simpa using hown5
  have hb5 : Below W2.heap.size W2 w5 := ((Below.refl W2.heap.size W2).alloc (Nat.le_refl _) _).grown hgrow5 (by simp) (fun k hk => by have hk' : some W2.heap.size = some k := hk; injection hk'; omega)
  have HB5 : Hid (Below w.heap.size w w5) := HB2.out.trans (hb5.mono HB2.out.size)
  have HO45 := Lib.hid (own_below HO4.out hb5)
  have HO85 := Lib.hid (own_below HO8.out hb5)
  obtain ⟨Q, cq, rfl, hq1, hq2, _⟩ := own_form ho5
  have HSP5 := Lib.hid ho5
  clear hown5 hgrow5 ho5 hb5
  have HNE : Hid (w.heap.size + 1 < w5.heap.size) := (HO85.out.lt _ rfl).2
  have hI6 : RsI w (w5.alloc (.cells #[.int .i64 (fi : Int), .int .i64 (bl : Int), .slice Q n cq, .slice none 0 0, .slice none 0 0, .int .i64 0, .int .i64 0, .int .i64 (-1), .slice none 0 0, .slice none 0 0, .int .i64 0, .int .i64 (-1), .int .i64 0, .int .i64 0, .bool false] 105)) w.heap.size (w.heap.size + 1) w5.heap.size ⟨B, cc, D, d, P, r⟩ g fi bl Q n cq sp none 0 [] 0 0 (-1) := by
    have hb := (Below.refl w5.heap.size w5).alloc (Nat.le_refl _) (.cells #[.int .i64 (fi : Int), .int .i64 (bl : Int), .slice Q n cq, .slice none 0 0, .slice none 0 0, .int .i64 0, .int .i64 0, .int .i64 (-1), .slice none 0 0, .slice none 0 0, .int .i64 0, .int .i64 (-1), .int .i64 0, .int .i64 0, .bool false] 105)
    refine ⟨HB5.out.trans (hb.mono HB5.out.size), ?_, own_below HO85.out hb, own_box9 rfl rfl HB5.out.size, own_below HSP5.out hb, World.ownsRow_nil _ _ _ _, by have := HNE.out; omega⟩
    have e : Rc.l ⟨B, cc, D, d, P, r⟩ g = [.slice B g.img.length cc, .int .i64 g.pg, .slice D wl d, .bool false, .int .i64 g.fuse, .slice P g.picks.length r] := by
      unfold Rc.l
      rw [hd, hwl9]
    rw [e]
    exact own_below HO45.out hb
  have HI6 := Lib.hid hI6
  obtain ⟨i3, hi3, hz30, hz31, hz32⟩ := info_parts info3
  clear hI6
  go_wp2
  go_loopw [64] (fun i wr => ∃ (j cs : Nat) (Qs : Option Addr), j ≤ n ∧ i = .int .i64 j ∧ RsI w wr w.heap.size (w.heap.size + 1) w5.heap.size ⟨B, cc, D, d, P, r⟩ g fi bl Q n cq sp Qs cs ((sp.take j).map Par.df) 0 0 (-1) ∧ (sp.take j).any badP = false) (fun i _ => n - (intOf i).toNat)
  case atStart => exact ⟨0, 0, none, Nat.zero_le _, rfl, HI6.out, rfl⟩
  case round =>
    obtain ⟨j, cs, Qs, hj, rfl, hI, hgood⟩ := hrel
    have HI := Lib.hid hI
    have HGD := Lib.hid hgood
    clear hI hgood
    by_cases hlt : j < n
    · obtain ⟨p, hp⟩ := getElem?_of_lt (l := sp) (k := j) (by rw [HSL.out]; exact hlt)
      obtain ⟨ba, off, rfl, c0, c1, c2⟩ := (HA.out.below HI.out.below (Nat.le_refl _)).par69 hp
      have HTK : Hid ((sp.take (j + 1)).map Par.df = (sp.take j).map Par.df ++ [p.df]) := by rw [Hid, take_snoc_get _ j p hp, List.map_append]; rfl
      have HLN : Hid (((sp.take j).map Par.df).length = j) := by rw [Hid, List.length_map, List.length_take, HSL.out]; omega
      obtain ⟨raw, hraw⟩ : ∃ l, (sp.take j).map Par.df = l := ⟨_, rfl⟩
      rw [hraw] at HTK HLN HI
      clear hraw
      obtain ⟨W, hW⟩ : ∃ V, wr.alloc (.cells #[.int .i64 p.lo, .int .i64 p.hi, .int .i64 p.df] 99) = V := ⟨_, rfl⟩
      have HBW : Hid (Below wr.heap.size wr W) := by rw [← hW]; exact (Below.refl _ _).alloc (Nat.le_refl _) _
      have d0 : W.cell? ⟨wr.heap.size, 0, none⟩ = some (.int .i64 p.lo) := by rw [← hW]; exact cell_new_at _ _ _ _ _ _ rfl rfl
      have d1 : W.cell? ⟨wr.heap.size, 1, none⟩ = some (.int .i64 p.hi) := by rw [← hW]; exact cell_new_at _ _ _ _ _ _ rfl rfl
      have d2 : W.cell? ⟨wr.heap.size, 2, none⟩ = some (.int .i64 p.df) := by rw [← hW]; exact cell_new_at _ _ _ _ _ _ rfl rfl
      have HIW := Lib.hid (HI.out.later HBW.out)
      have hpok := HOK.out p (List.mem_of_getElem? hp)
      have HP := Lib.hid hp
      clear hp
      by_cases hbad : badP p = true
      · exact absurd (any_yes HP.out hbad) (by rw [HALL0.out]; decide)
      · have hb' : badP p = false := by simpa using hbad
        have HBD := Lib.hid hb'
        have hg : ¬ p.df < p.lo ∧ ¬ p.hi < p.df := by
          unfold badP at hb'
          rw [decide_eq_false_iff_not] at hb'
          omega
        obtain ⟨hg1, hg2⟩ := hg
        have r4 := HIW.out.row 4 _ rfl
        rw [HLN.out] at r4
        have hsv := HIW.out.sv
        rw [HLN.out] at hsv
        have HSV := Lib.hid hsv
        clear hbad hb' hsv
        go_upto_region 13 with (fail)
        try rw [hW]
        clear hW c0 c1 c2
        go_wp2_with (at_builtin; refine wpList_append_own _ rfl _ _ 44 rfl w.heap.size 3 i3 (.int .i64 0) 1 8 Try.underlying44 hi3 hz30 hz31 hz32 rfl (by omega) _ j _ rfl (own_below HSV.out ((Below.refl _ _).alloc (Nat.le_refl _) _)) ⟨W.heap.size, 0, none⟩ 1 1 [.int .i64 p.df] rfl rfl (cell_one_new _ _ _) (by simp [Value.oneCell']) (by unfold maxLen; omega) (by omega) (by have := HIW.out.below.size; simp; omega) ?_)
        intro v' w8 hown8 hgrow8 _
        have hpu := HIW.out.push (W' := w8) (v' := v') (y := p.df) (o := .cells #[.int .i64 p.df] 3) (by rw [HLN.out, icells, List.map_append]; exact hown8) (by rw [HLN.out]; exact hgrow8)
        obtain ⟨Qs', cs', rfl, _, z4, c4, hI8⟩ := hpu
        rw [HLN.out] at hI8 c4
        rw [HLN.out]
        have HI8 := Lib.hid hI8
        clear hown8 hgrow8 hI8 d0 d1 d2 r4
        go_wp2
        go_roundw
        case rel => exact ⟨j + 1, cs', Qs', by omega, by go_num, by rw [HTK.out]; exact HI8.out, any_step HP.out HGD.out HBD.out⟩
        case measure => simp [intOf]; omega
    · have hjn : j = n := by omega
      subst hjn
      have hall : sp.any badP = false := by
        have := HGD.out
        rwa [List.take_of_length_le (by rw [HSL.out]; exact Nat.le_refl _)] at this
      have HE2 : Hid (openE g fi bl sp = if g.pg < pgs j then 11 else 0) := HE.out.trans (if_neg (by rw [hall]; decide))
      rw [List.take_of_length_le (by rw [HSL.out]; exact Nat.le_refl _)] at HI
      have HPG := Lib.hid (fun w => pages_r j (by omega) w)
      have HALL := Lib.hid hall
      have hk8 := pgs_le hn48
      have hk1 := pgs_pos hn1
      obtain ⟨K, hK⟩ : ∃ K, pgs j = K := ⟨_, rfl⟩
      have HK := Lib.hid hK
      rw [hK] at HE2 HPG hk8 hk1
      have q1 := HI.out.frow 1 _ rfl
      clear hall hK
      go_wp2_with (fail)
      (with_reducible refine (HPG.out _).mono ?_)
      rintro e w6 ⟨rfl, rfl⟩
      by_cases hkp : g.pg < K
      · have HE3 : Hid (openE g fi bl sp = 11) := by rw [Hid, HE2.out, if_pos hkp]
        have z0 := HI.out.zrow 0 _ rfl
        have f0 := HI.out.o8.frozenAt 0
        have z1 := HI.out.zrow 1 _ rfl
        have f1 := HI.out.o8.frozenAt 1
        have z2 := HI.out.zrow 2 _ rfl
        have f2 := HI.out.o8.frozenAt 2
        have z3 := HI.out.zrow 3 _ rfl
        have f3 := HI.out.o8.frozenAt 3
        have z4 := HI.out.zrow 4 _ rfl
        have f4 := HI.out.o8.frozenAt 4
        have z5 := HI.out.zrow 5 _ rfl
        have f5 := HI.out.o8.frozenAt 5
        have z6 := HI.out.zrow 6 _ rfl
        have f6 := HI.out.o8.frozenAt 6
        have z7 := HI.out.zrow 7 _ rfl
        have f7 := HI.out.o8.frozenAt 7
        have z8 := HI.out.zrow 8 _ rfl
        have f8 := HI.out.o8.frozenAt 8
        have z9 := HI.out.zrow 9 _ rfl
        have f9 := HI.out.o8.frozenAt 9
        have z10 := HI.out.zrow 10 _ rfl
        have f10 := HI.out.o8.frozenAt 10
        have z11 := HI.out.zrow 11 _ rfl
        have f11 := HI.out.o8.frozenAt 11
        have z12 := HI.out.zrow 12 _ rfl
        have f12 := HI.out.o8.frozenAt 12
        have z13 := HI.out.zrow 13 _ rfl
        have f13 := HI.out.o8.frozenAt 13
        have z14 := HI.out.zrow 14 _ rfl
        have f14 := HI.out.o8.frozenAt 14
        have HD8 : Hid (w.heap.size ≤ w.heap.size + 1) := Nat.le_succ _
        have HBWW := Lib.hid HI.out.below
        go_wp2
        (try simp only [Exit.inBlock, Exit.then])
        refine bodyPost_ret (v := .tuple #[zeroS, .int .i64 11]) ?_ rfl (OpS.no HE3.out (by decide) ?_)
        · rw [results_cell_tmp rfl]
          unfold zeroS
          go_simp
        · repeat (refine Below.setCell ?_ HD8.out _)
          exact HBWW.out
      · exact absurd HPGK.out (by rw [HSL.out, HK.out]; exact hkp)
end Go.Proofs.Ytfeceamhlphelaa
