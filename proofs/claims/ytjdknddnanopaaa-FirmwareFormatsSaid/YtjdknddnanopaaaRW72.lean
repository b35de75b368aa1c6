
/-
  The reference of layer 51: Open, where it succeeds.
-/
import Derived.Test.YtjdknddnanopaaaRW70
namespace Go.Proofs.Ytjdknddnanopaaa
open Go.RowKit
set_option linter.unusedVariables false
set_option linter.unusedSimpArgs false

set_option maxRecDepth 100000 in
set_option maxHeartbeats 8000000 in
theorem open_ok9 {X : Nat → Prop} {w : World} {x : Rc} {g : Fl} (h : RAt X w x g) (hX : ∀ b, X b → b < w.heap.size) (fi bl : Nat) (A : Option Addr) (n c : Nat) (sp : List Par) (hA : Rd w w.heap.size A (pcells sp)) (hsl : sp.length = n) (hnc : n ≤ c) (hcm : c ≤ maxLen) (hok : ∀ p ∈ sp, p.ok)
    (hd : g.down = false) (hb2 : 2 ≤ bl) (hb16 : bl ≤ 16) (hfb : fi + bl ≤ g.wear.length) (hn1 : 1 ≤ n) (hn48 : n ≤ 48) (hall0 : sp.any badP = false) (hpgk : ¬ g.pg < pgs sp.length) :
    Calls Try.prog 59 #[x.v g, .int .i64 (fi : Int), .int .i64 (bl : Int), .slice A n c] w (OpS X w g fi bl sp) := by
  have hwl := h.ok.b2
  have HR := Lib.hid h
  have HX := Lib.hid hX
  have HE := Lib.hid (openE_mid hd hb2 hb16 hfb (by rw [hsl]; exact hn1) (by rw [hsl]; exact hn48))
  rw [hsl] at HE
  have hp16 := h.ok.p2
  have hp1 := h.ok.p1
  have HA := Lib.hid hA
  have HSL := Lib.hid hsl
  have HOK := Lib.hid hok
  obtain ⟨B, cc, D, d, P, r⟩ := x
  show Calls Try.prog 59 #[.agg #[.slice B g.img.length cc, .int .i64 g.pg, .slice D g.wear.length d, .bool g.down, .int .i64 g.fuse, .slice P g.picks.length r], _, _, _] w _
  obtain ⟨i9, hi9, hz90, hz91, hz92⟩ := info_parts info99
  unfold maxLen at hcm
  have HKL : Hid ((pcells sp).length = n * 3) := by rw [Hid, pcells_length, hsl]
  have hm0 : 0 ≤ maxLen := Nat.zero_le _
  rw [hd]
  obtain ⟨wl, hwl9⟩ : ∃ k, g.wear.length = k := ⟨_, rfl⟩
  rw [hwl9] at hwl hfb
  rw [hwl9]
  have HALL0 := Lib.hid hall0
  have HPGK := Lib.hid hpgk
  clear h hA hsl hok
  go_enter Try.func59, Try.ntmps59
  go_upto_region 9 with (fail)
  obtain ⟨W2, hW2⟩ : ∃ W, (w.alloc (.cells #[.slice B g.img.length cc, .int .i64 g.pg, .slice D wl d, .bool false, .int .i64 g.fuse, .slice P g.picks.length r] 37)).alloc (.cells #[.int .i64 0, .int .i64 0, .slice none 0 0, .slice none 0 0, .slice none 0 0, .int .i64 0, .int .i64 0, .int .i64 0, .slice none 0 0, .slice none 0 0, .int .i64 0, .int .i64 0, .int .i64 0, .int .i64 0, .bool false] 46) = W := ⟨_, rfl⟩
  have HS1 : Hid (∀ o, (w.alloc o).heap.size = w.heap.size + 1) := fun o => Array.size_push _
  have HB2 : Hid (Below w.heap.size w W2) := by rw [← hW2]; exact below_two _ _ _
  have HO4 : Hid (W2.ownsRow w.heap.size 37 6 (.slice (some ⟨w.heap.size, 0, none⟩) 1 1) 1 [.slice B g.img.length cc, .int .i64 g.pg, .slice D wl d, .bool false, .int .i64 g.fuse, .slice P g.picks.length r]) := by
    rw [← hW2]
    exact own_below (own_box9 rfl rfl (Nat.le_refl _)) (below_one _ _)
  have HO8 : Hid (W2.ownsRow w.heap.size 46 15 (.slice (some ⟨w.heap.size + 1, 0, none⟩) 1 1) 1 zL) := by
    rw [← hW2]
    have := own_box9 (w := w.alloc (.cells #[.slice B g.img.length cc, .int .i64 g.pg, .slice D wl d, .bool false, .int .i64 g.fuse, .slice P g.picks.length r] 37)) (base := w.heap.size) (e := 46) (size := 15) (cs := #[.int .i64 0, .int .i64 0, .slice none 0 0, .slice none 0 0, .slice none 0 0, .int .i64 0, .int .i64 0, .int .i64 0, .slice none 0 0, .slice none 0 0, .int .i64 0, .int .i64 0, .int .i64 0, .int .i64 0, .bool false]) (xs := zL) rfl rfl (by rw [HS1.out]; omega)
    rw [HS1.out] at this
    exact this
  try rw [hW2]
  clear hW2
  go_wp2_with (at_builtin; refine wpList_append_rd _ rfl _ _ 43 rfl w.heap.size 141 i9 (.agg #[.int .i64 0, .int .i64 0, .int .i64 0]) 3 24 Try.underlying43 hi9 hz90 hz91 hz92 rfl (by omega) _ 0 [] rfl (World.ownsRow_lit W2 #[] 0 HB2.out.size hm0 rfl) w.heap.size _ n c (pcells sp) rfl ((HA.out.below HB2.out (Nat.le_refl _)).below ((Below.refl W2.heap.size W2).alloc (Nat.le_refl _) _) HB2.out.size) HKL.out (pcells_one _) (by unfold maxLen; omega) (by omega) (by have := HB2.out.size; simp; omega) ?_)
  intro v5 w5 hown5 hgrow5 _
  have ho5 : w5.ownsRow w.heap.size 141 3 v5 n (pcells sp) := by simpa using hown5
  have hb5 : Below W2.heap.size W2 w5 := ((Below.refl W2.heap.size W2).alloc (Nat.le_refl _) _).grown hgrow5 (by simp) (fun k hk => by have hk' : some W2.heap.size = some k := hk; injection hk'; omega)
  have HB5 : Hid (Below w.heap.size w w5) := HB2.out.trans (hb5.mono HB2.out.size)
  have HO45 := Lib.hid (own_below HO4.out hb5)
  have HO85 := Lib.hid (own_below HO8.out hb5)
  obtain ⟨Q, cq, rfl, hq1, hq2, _⟩ := own_form ho5
  have HSP5 := Lib.hid ho5
  clear hown5 hgrow5 ho5 hb5
  have HNE : Hid (w.heap.size + 1 < w5.heap.size) := (HO85.out.lt _ rfl).2
  have hI6 : RsI w (w5.alloc (.cells #[.int .i64 (fi : Int), .int .i64 (bl : Int), .slice Q n cq, .slice none 0 0, .slice none 0 0, .int .i64 0, .int .i64 0, .int .i64 (-1), .slice none 0 0, .slice none 0 0, .int .i64 0, .int .i64 (-1), .int .i64 0, .int .i64 0, .bool false] 46)) w.heap.size (w.heap.size + 1) w5.heap.size ⟨B, cc, D, d, P, r⟩ g fi bl Q n cq sp none 0 [] 0 0 (-1) := by
    have hb := (Below.refl w5.heap.size w5).alloc (Nat.le_refl _) (.cells #[.int .i64 (fi : Int), .int .i64 (bl : Int), .slice Q n cq, .slice none 0 0, .slice none 0 0, .int .i64 0, .int .i64 0, .int .i64 (-1), .slice none 0 0, .slice none 0 0, .int .i64 0, .int .i64 (-1), .int .i64 0, .int .i64 0, .bool false] 46)
    refine ⟨HB5.out.trans (hb.mono HB5.out.size), ?_, own_below HO85.out hb, own_box9 rfl rfl HB5.out.size, own_below HSP5.out hb, World.ownsRow_nil _ _ _ _, by have := HNE.out; omega⟩
    have e : Rc.l ⟨B, cc, D, d, P, r⟩ g = [.slice B g.img.length cc, .int .i64 g.pg, .slice D wl d, .bool false, .int .i64 g.fuse, .slice P g.picks.length r] := by
      unfold Rc.l
      rw [hd, hwl9]
    rw [e]
    exact own_below HO45.out hb
  have HI6 := Lib.hid hI6
  obtain ⟨i3, hi3, hz30, hz31, hz32⟩ := info_parts info3
  clear hI6
  go_wp2
  go_loopw [64] (fun i wr => ∃ (j cs : Nat) (Qs : Option Addr), j ≤ n ∧ i = .int .i64 j ∧ RsI w wr w.heap.size (w.heap.size + 1) w5.heap.size ⟨B, cc, D, d, P, r⟩ g fi bl Q n cq sp Qs cs ((sp.take j).map Par.df) 0 0 (-1) ∧ (sp.take j).any badP = false) (fun i _ => n - (intOf i).toNat)
  case atStart => exact ⟨0, 0, none, Nat.zero_le _, rfl, HI6.out, rfl⟩
  case round =>
    obtain ⟨j, cs, Qs, hj, rfl, hI, hgood⟩ := hrel
    have HI := Lib.hid hI
    have HGD := Lib.hid hgood
    clear hI hgood
    by_cases hlt : j < n
    · obtain ⟨p, hp⟩ := getElem?_of_lt (l := sp) (k := j) (by rw [HSL.out]; exact hlt)
      obtain ⟨ba, off, rfl, c0, c1, c2⟩ := (HA.out.below HI.out.below (Nat.le_refl _)).par69 hp
      have HTK : Hid ((sp.take (j + 1)).map Par.df = (sp.take j).map Par.df ++ [p.df]) := by rw [Hid, take_snoc_get _ j p hp, List.map_append]; rfl
      have HLN : Hid (((sp.take j).map Par.df).length = j) := by rw [Hid, List.length_map, List.length_take, HSL.out]; omega
      obtain ⟨raw, hraw⟩ : ∃ l, (sp.take j).map Par.df = l := ⟨_, rfl⟩
      rw [hraw] at HTK HLN HI
      clear hraw
      obtain ⟨W, hW⟩ : ∃ V, wr.alloc (.cells #[.int .i64 p.lo, .int .i64 p.hi, .int .i64 p.df] 141) = V := ⟨_, rfl⟩
      have HBW : Hid (Below wr.heap.size wr W) := by rw [← hW]; exact (Below.refl _ _).alloc (Nat.le_refl _) _
      have d0 : W.cell? ⟨wr.heap.size, 0, none⟩ = some (.int .i64 p.lo) := by rw [← hW]; exact cell_new_at _ _ _ _ _ _ rfl rfl
      have d1 : W.cell? ⟨wr.heap.size, 1, none⟩ = some (.int .i64 p.hi) := by rw [← hW]; exact cell_new_at _ _ _ _ _ _ rfl rfl
      have d2 : W.cell? ⟨wr.heap.size, 2, none⟩ = some (.int .i64 p.df) := by rw [← hW]; exact cell_new_at _ _ _ _ _ _ rfl rfl
      have HIW := Lib.hid (HI.out.later HBW.out)
      have hpok := HOK.out p (List.mem_of_getElem? hp)
      have HP := Lib.hid hp
      clear hp
      by_cases hbad : badP p = true
      · exact absurd (any_yes HP.out hbad) (by rw [HALL0.out]; decide)
      · have hb' : badP p = false := by simpa using hbad
        have HBD := Lib.hid hb'
        have hg : ¬ p.df < p.lo ∧ ¬ p.hi < p.df := by
          unfold badP at hb'
          rw [decide_eq_false_iff_not] at hb'
          omega
        obtain ⟨hg1, hg2⟩ := hg
        have r4 := HIW.out.row 4 _ rfl
        rw [HLN.out] at r4
        have hsv := HIW.out.sv
        rw [HLN.out] at hsv
        have HSV := Lib.hid hsv
        clear hbad hb' hsv
        go_upto_region 13 with (fail)
        try rw [hW]
        clear hW c0 c1 c2
        go_wp2_with (at_builtin; refine wpList_append_own _ rfl _ _ 35 rfl w.heap.size 3 i3 (.int .i64 0) 1 8 Try.underlying35 hi3 hz30 hz31 hz32 rfl (by omega) _ j _ rfl (own_below HSV.out ((Below.refl _ _).alloc (Nat.le_refl _) _)) ⟨W.heap.size, 0, none⟩ 1 1 [.int .i64 p.df] rfl rfl (cell_one_new _ _ _) (by simp [Value.oneCell']) (by unfold maxLen; omega) (by omega) (by have := HIW.out.below.size; simp; omega) ?_)
        intro v' w8 hown8 hgrow8 _
        have hpu := HIW.out.push (W' := w8) (v' := v') (y := p.df) (o := .cells #[.int .i64 p.df] 3) (by rw [HLN.out, icells, List.map_append]; exact hown8) (by rw [HLN.out]; exact hgrow8)
        obtain ⟨Qs', cs', rfl, _, z4, c4, hI8⟩ := hpu
        rw [HLN.out] at hI8 c4
        rw [HLN.out]
        have HI8 := Lib.hid hI8
        clear hown8 hgrow8 hI8 d0 d1 d2 r4
        go_wp2
        go_roundw
        case rel => exact ⟨j + 1, cs', Qs', by omega, by go_num, by rw [HTK.out]; exact HI8.out, any_step HP.out HGD.out HBD.out⟩
        case measure => simp [intOf]; omega
    · have hjn : j = n := by omega
      subst hjn
      have hall : sp.any badP = false := by
        have := HGD.out
        rwa [List.take_of_length_le (by rw [HSL.out]; exact Nat.le_refl _)] at this
      have HE2 : Hid (openE g fi bl sp = if g.pg < pgs j then 11 else 0) := HE.out.trans (if_neg (by rw [hall]; decide))
      rw [List.take_of_length_le (by rw [HSL.out]; exact Nat.le_refl _)] at HI
      have HPG := Lib.hid (fun w => pages_r j (by omega) w)
      have HALL := Lib.hid hall
      have hk8 := pgs_le hn48
      have hk1 := pgs_pos hn1
      obtain ⟨K, hK⟩ : ∃ K, pgs j = K := ⟨_, rfl⟩
      have HK := Lib.hid hK
      rw [hK] at HE2 HPG hk8 hk1
      have q1 := HI.out.frow 1 _ rfl
      clear hall hK
      go_wp2_with (fail)
      (with_reducible refine (HPG.out _).mono ?_)
      rintro e w6 ⟨rfl, rfl⟩
      by_cases hkp : g.pg < K
      · exact absurd hkp (by rw [← HK.out, ← HSL.out]; exact HPGK.out)
      · have HE3 : Hid (openE g fi bl sp = 0) := by rw [Hid, HE2.out, if_neg hkp]
        obtain ⟨pg, hpg⟩ : ∃ pg, g.pg = pg := ⟨_, rfl⟩
        have HPGG := Lib.hid hpg
        obtain ⟨T, hT⟩ : ∃ T, pg / K = T := ⟨_, rfl⟩
        have HT := Lib.hid hT
        have hT16 : T ≤ 16 := by rw [← hT]; exact Nat.le_trans (Nat.div_le_self _ _) (by omega)
        have tq : (pg : Int).tdiv (K : Int) = (T : Int) := by rw [Int.tdiv_eq_ediv_of_nonneg (by omega), ← hT]; push_cast; rfl
        have tq2 : (pg : Int) / (K : Int) = (T : Int) := by rw [← hT]; push_cast; rfl
        obtain ⟨s0, hs0⟩ : ∃ s0, initS fi bl sp = s0 := ⟨_, rfl⟩
        have HS0 := Lib.hid hs0
        have HR0 : Hid (RelS s0 (sp.map Par.df) 0 0 (-1)) := by
          rw [← hs0]
          exact ⟨rfl, rfl, rfl, by simp [initS], lg_df HALL.out⟩
        rw [hpg] at q1 hkp
        have hpg1 : 1 ≤ pg := by omega
        have hpg16 : pg ≤ 16 := by omega
        have HTK : Hid (T * K ≤ pg) := by rw [← hT]; exact Nat.div_mul_le_self _ _
        clear hT hs0 hpg
        go_wp2
        clear q1
        go_loopw [98] (fun i wr => ∃ (b cs : Nat) (Qs : Option Addr) (raw : List Int) (seq blk slot : Int), b ≤ bl ∧ i = .int .i64 b ∧ RsI w wr w.heap.size (w.heap.size + 1) w5.heap.size ⟨B, cc, D, d, P, r⟩ g fi bl Q j cq sp Qs cs raw seq blk slot ∧ RelS (openAll g T s0 b) raw seq blk slot) (fun i _ => bl - (intOf i).toNat)
        case atStart => exact ⟨0, cs, Qs, _, 0, 0, -1, Nat.zero_le _, rfl, HI.out, HR0.out⟩
        case round =>
          obtain ⟨b, cs, Qs, raw, seq, blk, slot, hb, rfl, hI, hrs⟩ := hrel
          have HI := Lib.hid hI
          have HRS := Lib.hid hrs
          clear hI hrs
          by_cases hltb : b < bl
          · have q1 := HI.out.frow 1 _ rfl
            rw [HPGG.out] at q1
            go_wp2
            clear q1
            go_loopw [105] (fun i wr => ∃ (jj cs : Nat) (Qs : Option Addr) (raw : List Int) (seq blk slot : Int), jj ≤ T ∧ i = .int .i64 jj ∧ RsI w wr w.heap.size (w.heap.size + 1) w5.heap.size ⟨B, cc, D, d, P, r⟩ g fi bl Q j cq sp Qs cs raw seq blk slot ∧ RelS (openRow g b (openAll g T s0 b) jj) raw seq blk slot) (fun i _ => T - (intOf i).toNat)
            case atStart => exact ⟨0, cs, Qs, raw, seq, blk, slot, Nat.zero_le _, rfl, HI.out, HRS.out⟩
            case round =>
              obtain ⟨jj, cs, Qs, raw, seq, blk, slot, hjj, rfl, hI, hrs⟩ := hrel
              have HI := Lib.hid hI
              have HRS := Lib.hid hrs
              clear hI hrs
              by_cases hltj : jj < T
              · obtain ⟨s, hs⟩ : ∃ s, openRow g b (openAll g T s0 b) jj = s := ⟨_, rfl⟩
                rw [hs] at HRS
                have hkp : Kp s0 s := by rw [← hs]; exact (openAll_kp _ _ _ _).trans (openRow_kp _ _ _ _)
                have HKF : Hid (s.first = fi ∧ s.spec = sp) := ⟨hkp.f.trans (by rw [← HS0.out]; rfl), hkp.s.trans (by rw [← HS0.out]; rfl)⟩
                have hkk : s.k = K := by unfold St.k; rw [HKF.out.2, HSL.out]; exact HK.out
                have hslot : jj * K + K ≤ pg := by
                  have h1 : (jj + 1) * K ≤ T * K := Nat.mul_le_mul_right _ hltj
                  have := HTK.out
                  rw [Nat.add_mul, Nat.one_mul] at h1
                  omega
                obtain ⟨P0, hP0⟩ : ∃ P0, (fi + b) * pg + jj * K = P0 := ⟨_, rfl⟩
                have HPS : Hid (pageS s g b jj = P0) := by unfold pageS; rw [Hid, HKF.out.1, hkk, HPGG.out]; exact hP0
                have hP0b : P0 + K ≤ 64 * 16 := by
                  have h1 : (fi + b + 1) * pg ≤ 64 * pg := Nat.mul_le_mul_right _ (by omega)
                  have h2 : 64 * pg ≤ 64 * 16 := Nat.mul_le_mul_left _ hpg16
                  rw [Nat.add_mul (fi + b), Nat.one_mul] at h1
                  omega
                have HSS := Lib.hid hs
                have HKK := Lib.hid hkk
                have hP0w : P0 + K ≤ wl * pg := by
                  have h1 : (fi + b + 1) * pg ≤ wl * pg := Nat.mul_le_mul_right _ (by omega)
                  rw [Nat.add_mul (fi + b), Nat.one_mul] at h1
                  omega
                have HP0 := Lib.hid hP0
                clear hkp hkk hs hP0
                go_wp2
                go_loopw [16, 109] (fun v i wr => ∃ (t : Nat) (vs : List Value), t ≤ K ∧ i = .int .i64 t ∧ PgJ w wr v vs (pagesF g P0 t) ∧ RsI w wr w.heap.size (w.heap.size + 1) w5.heap.size ⟨B, cc, D, d, P, r⟩ g fi bl Q j cq sp Qs cs raw seq blk slot) (fun _ i _ => K - (intOf i).toNat)
                case atStart => exact ⟨0, [], Nat.zero_le _, rfl, PgJ.nil, HI.out⟩
                case round =>
                  obtain ⟨t, vs, ht, rfl, hpj, hI⟩ := hrel
                  have HPJ := Lib.hid hpj
                  have HI := Lib.hid hI
                  clear hpj hI
                  by_cases hltt : t < K
                  · have HKS : Hid (∀ W', Below wr.heap.size wr W' → W'.cell? ⟨w5.heap.size, 0, none⟩ = some (.int .i64 (fi : Int)) ∧ W'.cell? ⟨w5.heap.size, 1, none⟩ = some (.int .i64 (bl : Int)) ∧ W'.cell? ⟨w5.heap.size, 2, none⟩ = some (.slice Q j cq) ∧ W'.cell? ⟨w5.heap.size, 3, none⟩ = some (.slice none 0 0) ∧ W'.cell? ⟨w5.heap.size, 4, none⟩ = some (.slice Qs raw.length cs) ∧ W'.cell? ⟨w5.heap.size, 5, none⟩ = some (.int .i64 seq) ∧ W'.cell? ⟨w5.heap.size, 6, none⟩ = some (.int .i64 blk) ∧ W'.cell? ⟨w5.heap.size, 7, none⟩ = some (.int .i64 slot) ∧ W'.cell? ⟨w5.heap.size, 8, none⟩ = some (.slice none 0 0) ∧ W'.cell? ⟨w5.heap.size, 9, none⟩ = some (.slice none 0 0) ∧ W'.cell? ⟨w5.heap.size, 10, none⟩ = some (.int .i64 0) ∧ W'.cell? ⟨w5.heap.size, 11, none⟩ = some (.int .i64 (-1)) ∧ W'.cell? ⟨w5.heap.size, 12, none⟩ = some (.int .i64 0) ∧ W'.cell? ⟨w5.heap.size, 13, none⟩ = some (.int .i64 0) ∧ W'.cell? ⟨w5.heap.size, 14, none⟩ = some (.bool false) ∧ W'.cell? ⟨w.heap.size, 0, none⟩ = some (.slice B g.img.length cc) ∧ W'.cell? ⟨w.heap.size, 1, none⟩ = some (.int .i64 g.pg) ∧ W'.cell? ⟨w.heap.size, 2, none⟩ = some (.slice D wl d) ∧ W'.cell? ⟨w.heap.size, 3, none⟩ = some (.bool false) ∧ W'.cell? ⟨w.heap.size, 4, none⟩ = some (.int .i64 g.fuse) ∧ W'.cell? ⟨w.heap.size, 5, none⟩ = some (.slice P g.picks.length r)) := fun W' hb => by
                      have h9 : W'.cell? ⟨w5.heap.size, 0, none⟩ = some (.int .i64 (fi : Int)) ∧ W'.cell? ⟨w5.heap.size, 1, none⟩ = some (.int .i64 (bl : Int)) ∧ W'.cell? ⟨w5.heap.size, 2, none⟩ = some (.slice Q j cq) ∧ W'.cell? ⟨w5.heap.size, 3, none⟩ = some (.slice none 0 0) ∧ W'.cell? ⟨w5.heap.size, 4, none⟩ = some (.slice Qs raw.length cs) ∧ W'.cell? ⟨w5.heap.size, 5, none⟩ = some (.int .i64 seq) ∧ W'.cell? ⟨w5.heap.size, 6, none⟩ = some (.int .i64 blk) ∧ W'.cell? ⟨w5.heap.size, 7, none⟩ = some (.int .i64 slot) ∧ W'.cell? ⟨w5.heap.size, 8, none⟩ = some (.slice none 0 0) ∧ W'.cell? ⟨w5.heap.size, 9, none⟩ = some (.slice none 0 0) ∧ W'.cell? ⟨w5.heap.size, 10, none⟩ = some (.int .i64 0) ∧ W'.cell? ⟨w5.heap.size, 11, none⟩ = some (.int .i64 (-1)) ∧ W'.cell? ⟨w5.heap.size, 12, none⟩ = some (.int .i64 0) ∧ W'.cell? ⟨w5.heap.size, 13, none⟩ = some (.int .i64 0) ∧ W'.cell? ⟨w5.heap.size, 14, none⟩ = some (.bool false) ∧ W'.cell? ⟨w.heap.size, 0, none⟩ = some (.slice B g.img.length cc) ∧ W'.cell? ⟨w.heap.size, 1, none⟩ = some (.int .i64 g.pg) ∧ W'.cell? ⟨w.heap.size, 2, none⟩ = some (.slice D g.wear.length d) ∧ W'.cell? ⟨w.heap.size, 3, none⟩ = some (.bool g.down) ∧ W'.cell? ⟨w.heap.size, 4, none⟩ = some (.int .i64 g.fuse) ∧ W'.cell? ⟨w.heap.size, 5, none⟩ = some (.slice P g.picks.length r) := ⟨(HI.out.later hb).row 0 _ rfl, (HI.out.later hb).row 1 _ rfl, (HI.out.later hb).row 2 _ rfl, (HI.out.later hb).row 3 _ rfl, (HI.out.later hb).row 4 _ rfl, (HI.out.later hb).row 5 _ rfl, (HI.out.later hb).row 6 _ rfl, (HI.out.later hb).row 7 _ rfl, (HI.out.later hb).row 8 _ rfl, (HI.out.later hb).row 9 _ rfl, (HI.out.later hb).row 10 _ rfl, (HI.out.later hb).row 11 _ rfl, (HI.out.later hb).row 12 _ rfl, (HI.out.later hb).row 13 _ rfl, (HI.out.later hb).row 14 _ rfl, (HI.out.later hb).frow 0 _ rfl, (HI.out.later hb).frow 1 _ rfl, (HI.out.later hb).frow 2 _ rfl, (HI.out.later hb).frow 3 _ rfl, (HI.out.later hb).frow 4 _ rfl, (HI.out.later hb).frow 5 _ rfl⟩
                      rw [hwl9, hd] at h9
                      exact h9
                    have HA6 : Hid (∀ z : Int, z = z → (.agg #[.slice B g.img.length cc, .int .i64 g.pg, .slice D g.wear.length d, .bool g.down, .int .i64 g.fuse, .slice P g.picks.length r] : Value) = .agg #[.slice B g.img.length cc, .int .i64 g.pg, .slice D wl d, .bool false, .int .i64 g.fuse, .slice P g.picks.length r]) := fun _ _ => by rw [hwl9, hd]
                    have HF103 : Hid (∀ W', Below wr.heap.size wr W' → Calls Try.prog 104 #[.agg #[.int .i64 (fi : Int), .int .i64 (bl : Int), .slice Q j cq, .slice none 0 0, .slice Qs raw.length cs, .int .i64 seq, .int .i64 blk, .int .i64 slot, .slice none 0 0, .slice none 0 0, .int .i64 0, .int .i64 (-1), .int .i64 0, .int .i64 0, .bool false], .agg #[.slice B g.img.length cc, .int .i64 g.pg, .slice D wl d, .bool false, .int .i64 g.fuse, .slice P g.picks.length r], .int .i64 (b : Int), .int .i64 (jj : Int)] W' fun e w' => e = .returned (.int .i64 (P0 : Int)) ∧ Below wr.heap.size wr w') := by
                      intro W' hb'
                      rw [← HA6.out 0 rfl]
                      refine (first_r ⟨B, cc, D, d, P, r⟩ g fi bl fi Q j cq Qs raw.length cs seq blk slot b jj W' rfl (by omega) (by omega) (by omega) hn48 (by rw [HPGG.out]; exact hpg16)).mono ?_
                      rintro e w' ⟨rfl, hb9⟩
                      refine ⟨?_, hb'.trans (hb9.mono hb'.size)⟩
                      rw [HK.out, HPGG.out, HP0.out]
                    obtain ⟨PT, hPT⟩ : ∃ PT, P0 + t = PT := ⟨_, rfl⟩
                    have HRD : Hid (∀ W', Below wr.heap.size wr W' → Calls Try.prog 103 #[.agg #[.slice B g.img.length cc, .int .i64 g.pg, .slice D wl d, .bool false, .int .i64 g.fuse, .slice P g.picks.length r], .int .i64 (PT : Int)] W' fun e w' => ∃ A' n' c', e = .returned (.tuple #[.slice A' n' c', .int .i64 0]) ∧ (pageF g PT).length = n' ∧ n' ≤ c' ∧ c' ≤ maxLen ∧ RdX (fun b => u16.ownBlock = some b) w' A' (kcells .u8 (pageF g PT)) ∧ Below wr.heap.size wr w') := by
                      intro W' hb'
                      rw [← HA6.out 0 rfl]
                      have hr := HR.out.high (HI.out.below.trans (hb'.mono HI.out.below.size)) (Y := fun b => u16.ownBlock = some b) (fun b hb => (HPJ.out.own.lt b hb).1)
                      have hrd := readR_any hr (fun b hb => Nat.lt_of_lt_of_le (HPJ.out.own.lt b hb).2 hb'.size) (PT : Int)
                      rw [readF_in hd (by rw [hwl9, HPGG.out]; omega)] at hrd
                      refine hrd.mono ?_
                      rintro e w' ⟨A', n', c', rfl, h1, h2, h3, h4, hb9⟩
                      exact ⟨A', n', c', rfl, h1, h2, h3, h4, hb'.trans (hb9.mono hb'.size)⟩
                    have t1 : IntKind.i64.wrap ((P0 : Int) + (t : Int)) = (PT : Int) := by
                      rw [show (P0 : Int) + (t : Int) = (PT : Int) by omega]
                      exact wrap_i64_small _ (by omega) (by omega)
                    have k0 := HKS.out wr.drew (Below.drew (Below.refl _ _))
                    have HPT := Lib.hid hPT
                    have HLT : Hid ((pagesF g P0 t).length = t) := by unfold pagesF; simp [Hid]
                    obtain ⟨i23, hi23, hz230, hz231, hz232⟩ := info_parts info23
                    clear hPT
                    go_upto_region 30 with (fail)
                    go_region_held (fun W' => W'.cell? ⟨w5.heap.size, 0, none⟩ = some (.int .i64 (fi : Int)) ∧ W'.cell? ⟨w5.heap.size, 1, none⟩ = some (.int .i64 (bl : Int)) ∧ W'.cell? ⟨w5.heap.size, 2, none⟩ = some (.slice Q j cq) ∧ W'.cell? ⟨w5.heap.size, 3, none⟩ = some (.slice none 0 0) ∧ W'.cell? ⟨w5.heap.size, 4, none⟩ = some (.slice Qs raw.length cs) ∧ W'.cell? ⟨w5.heap.size, 5, none⟩ = some (.int .i64 seq) ∧ W'.cell? ⟨w5.heap.size, 6, none⟩ = some (.int .i64 blk) ∧ W'.cell? ⟨w5.heap.size, 7, none⟩ = some (.int .i64 slot) ∧ W'.cell? ⟨w5.heap.size, 8, none⟩ = some (.slice none 0 0) ∧ W'.cell? ⟨w5.heap.size, 9, none⟩ = some (.slice none 0 0) ∧ W'.cell? ⟨w5.heap.size, 10, none⟩ = some (.int .i64 0) ∧ W'.cell? ⟨w5.heap.size, 11, none⟩ = some (.int .i64 (-1)) ∧ W'.cell? ⟨w5.heap.size, 12, none⟩ = some (.int .i64 0) ∧ W'.cell? ⟨w5.heap.size, 13, none⟩ = some (.int .i64 0) ∧ W'.cell? ⟨w5.heap.size, 14, none⟩ = some (.bool false) ∧ W'.cell? ⟨w.heap.size, 0, none⟩ = some (.slice B g.img.length cc) ∧ W'.cell? ⟨w.heap.size, 1, none⟩ = some (.int .i64 g.pg) ∧ W'.cell? ⟨w.heap.size, 2, none⟩ = some (.slice D wl d) ∧ W'.cell? ⟨w.heap.size, 3, none⟩ = some (.bool false) ∧ W'.cell? ⟨w.heap.size, 4, none⟩ = some (.int .i64 g.fuse) ∧ W'.cell? ⟨w.heap.size, 5, none⟩ = some (.slice P g.picks.length r)) (first | exact k0 | exact k3 | exact k4) (first
                      | (go_at_call 104; with_reducible refine (HF103.out _ (Below.drew (Below.refl _ _))).mono ?_; rintro e w3 ⟨rfl, hb3⟩; have k3 := HKS.out w3 hb3)
                      | (go_at_call 103; with_reducible refine (HRD.out _ hb3).mono ?_; rintro e w4 ⟨A4, n4, c4, rfl, h41, h42, h43, hr4, hb4⟩; have k4 := HKS.out w4 hb4))
                    have HPJ4 := Lib.hid (HPJ.out.later hb4)
                    have HI4 := Lib.hid (HI.out.later hb4)
                    have how := HPJ4.out.own
                    rw [HLT.out] at how
                    have HOW4 := Lib.hid how
                    have HR4 := Lib.hid hr4
                    have HH4 := Lib.hid (And.intro h41 (And.intro h42 h43))
                    clear how hb3 hb4 hr4 k0 t1 h41 h42 h43
                    go_wp2_with (at_builtin; refine wpList_append_rd _ rfl _ _ 44 rfl w.heap.size 22 i23 (.slice none 0 0) 1 24 Try.underlying44 hi23 hz230 hz231 hz232 rfl (by omega) _ t vs rfl (own_below HOW4.out ((Below.refl _ _).alloc (Nat.le_refl _) _)) (w4.heap.size + 1) _ 1 1 [.slice A4 n4 c4] rfl (Rd.new w4 _ _ _ rfl) rfl (by simp [Value.oneCell']) (by unfold maxLen; omega) (by omega) (by have := HI4.out.below.size; simp; omega) ?_)
                    intro v' w8 hown8 hgrow8 hat8
                    have HPJ8 : Hid (PgJ w w8 v' (vs ++ [.slice A4 n4 c4]) (pagesF g P0 (t + 1))) := by
                      have e : pagesF g P0 (t + 1) = pagesF g P0 t ++ [pageF g PT] := by
                        unfold pagesF
                        rw [List.range_succ, List.map_append, ← HPT.out]
                        rfl
                      rw [Hid, e]
                      exact HPJ4.out.push HR4.out HH4.out.1 HH4.out.2.1 HH4.out.2.2 (by rw [HLT.out]; exact hown8) hgrow8 (by rw [World.size_alloc]; exact hat8)
                    have HI8 := Lib.hid ((HI4.out.later ((Below.refl _ _).alloc (Nat.le_refl _) _)).beside (own_below HOW4.out ((Below.refl _ _).alloc (Nat.le_refl _) _)) hgrow8)
                    clear hown8 hgrow8 hat8
                    go_wp2
                    go_roundw
                    case rel => exact ⟨t + 1, _, by omega, by go_num, HPJ8.out, HI8.out⟩
                    case measure => simp [intOf]; omega
                  · obtain rfl : t = K := by omega
                    have HLT := Lib.hid (pagesF_len9 g P0 t)
                    have how := HPJ.out.own
                    rw [HLT.out] at how
                    obtain ⟨A9, c9, rfl, h91, h92, _⟩ := own_form how
                    have HDC := Lib.hid (decode_r A9 t c9 (pagesF g P0 t) wr HPJ.out.rd HLT.out h91 h92 (fun p hp => by
                      unfold pagesF at hp
                      obtain ⟨i, _, rfl⟩ := List.mem_map.1 hp
                      exact pageF_bytes HR.out.ok _))
                    obtain ⟨⟨ds, dv, de⟩, hdq⟩ : ∃ q, decP (pagesF g P0 t) = q := ⟨_, rfl⟩
                    have HDP : Hid (decP (pagesF g (pageS s g b jj) s.k) = (ds, dv, de)) := by rw [Hid, HPS.out, HKK.out]; exact hdq
                    rw [hdq] at HDC
                    clear hdq how
                    go_wp2_with (fail)
                    (with_reducible refine HDC.out.mono ?_)
                    rintro e w7 ⟨A7, c7, rfl, ho7, hb7⟩
                    simp only at ho7 ⊢
                    have HI7 := Lib.hid (HI.out.later hb7)
                    have HO7 : Hid (w7.ownsRow w.heap.size 3 1 (.slice A7 dv.length c7) dv.length (icells dv)) := own_low ho7 HI.out.below.size
                    have r5 := HI7.out.row 5 _ rfl
                    clear ho7 hb7
                    by_cases c1 : de = 0
                    rotate_left
                    · have HRN := Lib.hid (HRS.out.no HDP.out (.inl c1))
                      have e1 : (de != 0) = true := by simpa using c1
                      clear c1
                      go_wp2
                      go_roundw
                      case rel => exact ⟨jj + 1, cs, Qs, raw, seq, blk, slot, by omega, by go_num, HI7.out, by rw [openRow_succ, HSS.out]; exact HRN.out⟩
                      case measure => simp [intOf]; omega
                    have e1 : (de != 0) = false := by simpa using c1
                    by_cases c2 : dv.length = j
                    rotate_left
                    · have HRN := Lib.hid (HRS.out.no HDP.out (.inr (.inl (by rw [HKF.out.2, HSL.out]; exact c2))))
                      have e2 : ((dv.length : Int) != (j : Int)) = true := by simp; omega
                      clear c2
                      generalize dv.length = dl at *
                      go_wp2
                      go_roundw
                      case rel => exact ⟨jj + 1, cs, Qs, raw, seq, blk, slot, by omega, by go_num, HI7.out, by rw [openRow_succ, HSS.out]; exact HRN.out⟩
                      case measure => simp [intOf]; omega
                    have e2 : ((j : Int) != (j : Int)) = false := by simp
                    by_cases c3 : ds ≤ seq
                    · have HRN := Lib.hid (HRS.out.no HDP.out (.inr (.inr (by rw [← HRS.out.rq]; exact c3))))
                      rw [c2]
                      go_wp2
                      go_roundw
                      case rel => exact ⟨jj + 1, cs, Qs, raw, seq, blk, slot, by omega, by go_num, HI7.out, by rw [openRow_succ, HSS.out]; exact HRN.out⟩
                      case measure => simp [intOf]; omega
                    · have HRY := Lib.hid (HRS.out.yes HDP.out (by
                        rintro (h | h | h)
                        · exact h c1
                        · exact h (by rw [HKF.out.2, HSL.out]; exact c2)
                        · exact c3 (by rw [HRS.out.rq]; exact h)))
                      have h5 := HI7.out.cell 5 (.int .i64 ds) (Qs' := Qs) (cs' := cs) (raw' := raw) (seq' := ds) (blk' := blk) (slot' := slot) rfl HI7.out.sv
                      have h6 := h5.cell 6 (.int .i64 (b : Int)) (Qs' := Qs) (cs' := cs) (raw' := raw) (seq' := ds) (blk' := b) (slot' := slot) rfl h5.sv
                      have h7 := h6.cell 7 (.int .i64 (jj : Int)) (Qs' := Qs) (cs' := cs) (raw' := raw) (seq' := ds) (blk' := b) (slot' := jj) rfl h6.sv
                      have h4 := h7.cell 4 (.slice A7 dv.length c7) (Qs' := A7) (cs' := c7) (raw' := dv) (seq' := ds) (blk' := b) (slot' := jj) rfl (h6.other _ _ (h5.other _ _ (HI7.out.other _ _ HO7.out)))
                      have HIY := Lib.hid h4
                      have r4 := HI7.out.row 4 _ rfl
                      have r6 := HI7.out.row 6 _ rfl
                      have r7 := HI7.out.row 7 _ rfl
                      have f4 := HI7.out.fz 4
                      have f5 := HI7.out.fz 5
                      have f6 := HI7.out.fz 6
                      have f7 := HI7.out.fz 7
                      rw [c2] at HIY ⊢
                      clear h4 h5 h6 h7
                      go_wp2
                      go_roundw
                      case rel => exact ⟨jj + 1, c7, A7, dv, ds, b, jj, by omega, by go_num, HIY.out, by rw [openRow_succ, HSS.out]; exact HRY.out⟩
                      case measure => simp [intOf]; omega
              · obtain rfl : jj = T := by omega
                go_wp2
                go_roundw
                case rel => exact ⟨b + 1, cs, Qs, raw, seq, blk, slot, by omega, by go_num, HI.out, by rw [openAll_succ]; exact HRS.out⟩
                case measure => simp [intOf]; omega
          · obtain rfl : b = bl := by omega
            obtain ⟨s, hs⟩ : ∃ s, openAll g T s0 b = s := ⟨_, rfl⟩
            rw [hs] at HRS
            have hkp : Kp s0 s := by rw [← hs]; exact openAll_kp _ _ _ _
            have HKF : Hid (s.first = fi ∧ s.blocks = b ∧ s.spec = sp) := ⟨hkp.f.trans (by rw [← HS0.out]; rfl), hkp.b.trans (by rw [← HS0.out]; rfl), hkp.s.trans (by rw [← HS0.out]; rfl)⟩
            have HSS := Lib.hid hs
            have HRL : Hid (raw.length = sp.length) := HRS.out.rl.trans (by rw [HKF.out.2.2])
            clear hs hkp
            go_wp2
            go_loopw [162] (fun i wr => ∃ t : Nat, t ≤ j ∧ i = .int .i64 t ∧ RsI w wr w.heap.size (w.heap.size + 1) w5.heap.size ⟨B, cc, D, d, P, r⟩ g fi b Q j cq sp Qs cs (lgt sp raw t) seq blk slot) (fun i _ => j - (intOf i).toNat)
            case atStart => exact ⟨0, Nat.zero_le _, rfl, by rw [lgt_zero]; exact HI.out⟩
            case round =>
              obtain ⟨t, ht, rfl, hI⟩ := hrel
              have HI := Lib.hid hI
              clear hI
              by_cases hltt : t < j
              · obtain ⟨p, hp⟩ := getElem?_of_lt (l := sp) (k := t) (by rw [HSL.out]; exact hltt)
                obtain ⟨y, hy⟩ := getElem?_of_lt (l := raw) (k := t) (by rw [HRL.out, HSL.out]; exact hltt)
                obtain ⟨ba, off, rfl, c0, c1, c2⟩ := (HA.out.below HI.out.below (Nat.le_refl _)).par69 hp
                have hll : (lgt sp raw t).length = j := by rw [lgt_len HRL.out (by rw [HSL.out]; omega)]; exact HSL.out
                have HLS := Lib.hid (lgt_succ HRL.out hy hp)
                have hat := lgt_at HRL.out hy
                obtain ⟨lg, hlg⟩ : ∃ l, lgt sp raw t = l := ⟨_, rfl⟩
                rw [hlg] at HI hll HLS hat
                have hsv := HI.out.sv
                rw [hll] at hsv
                obtain ⟨A', c', e', _, _, hgs⟩ := own_form hsv
                injection e' with e1 _ e3
                subst e1 e3
                obtain ⟨gs, rfl, _, _⟩ := hgs (by omega)
                obtain ⟨W, hW⟩ : ∃ V, wr.alloc (.cells #[.int .i64 p.lo, .int .i64 p.hi, .int .i64 p.df] 141) = V := ⟨_, rfl⟩
                have HBW : Hid (Below wr.heap.size wr W) := by rw [← hW]; exact (Below.refl _ _).alloc (Nat.le_refl _) _
                have d0 : W.cell? ⟨wr.heap.size, 0, none⟩ = some (.int .i64 p.lo) := by rw [← hW]; exact cell_new_at _ _ _ _ _ _ rfl rfl
                have d1 : W.cell? ⟨wr.heap.size, 1, none⟩ = some (.int .i64 p.hi) := by rw [← hW]; exact cell_new_at _ _ _ _ _ _ rfl rfl
                have d2 : W.cell? ⟨wr.heap.size, 2, none⟩ = some (.int .i64 p.df) := by rw [← hW]; exact cell_new_at _ _ _ _ _ _ rfl rfl
                have HIW := Lib.hid (HI.out.later HBW.out)
                have r4 := HIW.out.row 4 _ rfl
                rw [hll] at r4
                have hyc : W.cell? ⟨gs, t, none⟩ = some (.int .i64 y) := by
                  have hs9 := HIW.out.sv
                  rw [hll] at hs9
                  rw [hs9.cellAt t (by omega)]
                  simp [icells, hat]
                have hyf : W.frozen? ⟨gs, t, none⟩ = false := HIW.out.sv.frozenAt _
                have HAT := Lib.hid hat
                clear hlg hsv hat hy hp
                go_upto_region 41 with (fail)
                try rw [hW]
                clear hW c0 c1 c2
                have hc : y < p.lo ∨ (¬ y < p.lo ∧ p.hi < y) ∨ (¬ y < p.lo ∧ ¬ p.hi < y) := by omega
                rcases hc with e1 | ⟨e1, e2⟩ | ⟨e1, e2⟩
                · have HLP : Hid (legalP p y = p.df) := by unfold legalP inPar; rw [Hid, decide_eq_false (by omega)]; rfl
                  have dd : decide (y < p.lo) = true := decide_eq_true e1
                  clear e1
                  go_quiet (fail)
                  go_wp2
                  have HI9 := Lib.hid ((HIW.out.later (Below.drewN (Below.refl _ _) nq)).svset t p.df)
                  go_roundw
                  case rel => exact ⟨t + 1, by omega, by go_num, by rw [HLS.out, HLP.out]; exact HI9.out⟩
                  case measure => simp [intOf]; omega
                · have HLP : Hid (legalP p y = p.df) := by unfold legalP inPar; rw [Hid, decide_eq_false (by omega)]; rfl
                  have dd : decide (y < p.lo) = false := decide_eq_false e1
                  have dd2 : decide (p.hi < y) = true := decide_eq_true e2
                  clear e1 e2
                  go_quiet (fail)
                  go_wp2
                  have HI9 := Lib.hid ((HIW.out.later (Below.drewN (Below.refl _ _) nq)).svset t p.df)
                  go_roundw
                  case rel => exact ⟨t + 1, by omega, by go_num, by rw [HLS.out, HLP.out]; exact HI9.out⟩
                  case measure => simp [intOf]; omega
                · have HLP : Hid (legalP p y = y) := by unfold legalP inPar; rw [Hid, decide_eq_true (by omega)]; rfl
                  have dd : decide (y < p.lo) = false := decide_eq_false e1
                  have dd2 : decide (p.hi < y) = false := decide_eq_false e2
                  clear e1 e2
                  go_quiet (fail)
                  go_wp2
                  have HI9 := Lib.hid (HIW.out.later (Below.drewN (Below.refl _ _) nq))
                  go_roundw
                  case rel => exact ⟨t + 1, by omega, by go_num, by rw [HLS.out, HLP.out, set_get_same HAT.out]; exact HI9.out⟩
                  case measure => simp [intOf]; omega
              · obtain rfl : t = j := by omega
                have hsv2 : lgt sp raw t = s.saved := by
                  have h1 := lgt_end HRL.out
                  rw [HSL.out] at h1
                  rw [h1]
                  have h2 := HRS.out.rg
                  rw [HKF.out.2.2] at h2
                  exact h2
                rw [hsv2] at HI
                have HSAV : Hid (s.saved.length = t) := by
                  rw [Hid, ← hsv2, lgt_len HRL.out (by rw [HSL.out]; exact Nat.le_refl _)]
                  exact HSL.out
                have hsv := HI.out.sv
                rw [HSAV.out] at hsv
                have HSV := Lib.hid (own_rd65 hsv)
                have HIL : Hid ((icells s.saved).length = t * 1) := by rw [Hid, icells_length, HSAV.out, Nat.mul_one]
                have r4 := HI.out.row 4 _ rfl
                rw [HSAV.out] at r4
                have r4a := (HI.out.later (below_one wr (.cells #[] 3))).row 4 _ rfl
                rw [HSAV.out] at r4a
                clear hsv hsv2
                go_wp2_with (at_builtin; refine wpList_append_rd _ rfl _ _ 35 rfl w.heap.size 3 i3 (.int .i64 0) 1 8 Try.underlying35 hi3 hz30 hz31 hz32 rfl (by omega) _ 0 [] rfl (World.ownsRow_lit wr #[] 0 HI.out.below.size hm0 rfl) wr.heap.size _ t cs (icells s.saved) rfl (HSV.out.below ((Below.refl wr.heap.size wr).alloc (Nat.le_refl _) _) (Nat.le_refl _)) HIL.out (kcells_one .i64 _) (by unfold maxLen; omega) (by omega) (by have := HI.out.below.size; simp; omega) ?_)
                intro v9 w9 hown9 hgrow9 _
                have ho9 : w9.ownsRow w.heap.size 3 1 v9 t (icells s.saved) := by simpa using hown9
                have hb9 : Below wr.heap.size wr w9 := ((Below.refl wr.heap.size wr).alloc (Nat.le_refl _) _).grown hgrow9 (by simp) (fun k hk => by have hk' : some wr.heap.size = some k := hk; injection hk'; omega)
                have HI9 := Lib.hid (HI.out.later hb9)
                obtain ⟨Q2, c2, rfl, h21, h22, _⟩ := own_form ho9
                have HO9 := Lib.hid ho9
                have r0 := HI9.out.row 0 _ rfl
                have z0 := HI9.out.zrow 0 _ rfl
                have f0 := HI9.out.o8.frozenAt 0
                have r1 := HI9.out.row 1 _ rfl
                have z1 := HI9.out.zrow 1 _ rfl
                have f1 := HI9.out.o8.frozenAt 1
                have r2 := HI9.out.row 2 _ rfl
                have z2 := HI9.out.zrow 2 _ rfl
                have f2 := HI9.out.o8.frozenAt 2
                have r3 := HI9.out.row 3 _ rfl
                have z3 := HI9.out.zrow 3 _ rfl
                have f3 := HI9.out.o8.frozenAt 3
                have r4 := HI9.out.row 4 _ rfl
                have z4 := HI9.out.zrow 4 _ rfl
                have f4 := HI9.out.o8.frozenAt 4
                have r5 := HI9.out.row 5 _ rfl
                have z5 := HI9.out.zrow 5 _ rfl
                have f5 := HI9.out.o8.frozenAt 5
                have r6 := HI9.out.row 6 _ rfl
                have z6 := HI9.out.zrow 6 _ rfl
                have f6 := HI9.out.o8.frozenAt 6
                have r7 := HI9.out.row 7 _ rfl
                have z7 := HI9.out.zrow 7 _ rfl
                have f7 := HI9.out.o8.frozenAt 7
                have r8 := HI9.out.row 8 _ rfl
                have z8 := HI9.out.zrow 8 _ rfl
                have f8 := HI9.out.o8.frozenAt 8
                have r9 := HI9.out.row 9 _ rfl
                have z9 := HI9.out.zrow 9 _ rfl
                have f9 := HI9.out.o8.frozenAt 9
                have r10 := HI9.out.row 10 _ rfl
                have z10 := HI9.out.zrow 10 _ rfl
                have f10 := HI9.out.o8.frozenAt 10
                have r11 := HI9.out.row 11 _ rfl
                have z11 := HI9.out.zrow 11 _ rfl
                have f11 := HI9.out.o8.frozenAt 11
                have r12 := HI9.out.row 12 _ rfl
                have z12 := HI9.out.zrow 12 _ rfl
                have f12 := HI9.out.o8.frozenAt 12
                have r13 := HI9.out.row 13 _ rfl
                have z13 := HI9.out.zrow 13 _ rfl
                have f13 := HI9.out.o8.frozenAt 13
                have r14 := HI9.out.row 14 _ rfl
                have z14 := HI9.out.zrow 14 _ rfl
                have f14 := HI9.out.o8.frozenAt 14
                have fD := HI9.out.fz 3
                rw [HSAV.out] at r4
                have hne1 : w.heap.size + 1 ≠ w5.heap.size := by have := HNE.out; omega
                have hne2 : w5.heap.size ≠ w.heap.size + 1 := by have := HNE.out; omega
                have HD8 : Hid (w.heap.size ≤ w.heap.size + 1) := Nat.le_succ _
                have HD9 : Hid (w.heap.size ≤ w5.heap.size) := Nat.le_of_lt (by have := HNE.out; omega)
                have HBWW := Lib.hid HI9.out.below
                have HOP : Hid (openF g fi b sp = { s with staged := s.saved }) := by
                  unfold openF
                  rw [Hid, HS0.out, HSL.out, HK.out, HPGG.out, HT.out, HSS.out]
                have HC9 : Hid (t ≤ cs ∧ cs ≤ maxLen ∧ t ≤ cq ∧ cq ≤ maxLen ∧ t ≤ c2 ∧ c2 ≤ maxLen) := by
                  have hs9 := HI9.out.sv
                  rw [HSAV.out] at hs9
                  obtain ⟨A', c', e', a1, a2, _⟩ := own_form hs9
                  injection e' with _ _ e3
                  subst e3
                  exact ⟨a1, a2, hq1, hq2, h21, h22⟩
                clear hown9 hgrow9 ho9 hb9
                go_wp2
                (try simp only [Exit.inBlock, Exit.then])
                refine bodyPost_ret (v := .tuple #[.agg #[.int .i64 (fi : Int), .int .i64 (b : Int), .slice Q t cq, .slice Q2 t c2, .slice Qs t cs, .int .i64 seq, .int .i64 blk, .int .i64 slot, .slice none 0 0, .slice none 0 0, .int .i64 0, .int .i64 (-1), .int .i64 0, .int .i64 0, .bool false], .int .i64 0]) ?_ rfl ⟨_, by rw [HE3.out], ?_, fun _ => ?_, fun h => absurd HE3.out h⟩
                · rw [results_cell_tmp rfl]
                  go_simp
                · repeat (refine Below.setCell ?_ HD8.out _)
                  exact HBWW.out.setCell (p := ⟨w5.heap.size, 3, none⟩) HD9.out _
                · suffices key : ∀ W', OnlyX (fun z => X z ∨ z = w5.heap.size ∨ z = w.heap.size + 1) w9 W' → RsO X W' (.agg #[.int .i64 (fi : Int), .int .i64 (b : Int), .slice Q t cq, .slice Q2 t c2, .slice Qs t cs, .int .i64 seq, .int .i64 blk, .int .i64 slot, .slice none 0 0, .slice none 0 0, .int .i64 0, .int .i64 (-1), .int .i64 0, .int .i64 0, .bool false]) (openF g fi b sp) by
                    refine key _ ?_
                    repeat (refine OnlyX.trans ?_ (OnlyX.set _ _ _ (.inr (.inr rfl))))
                    exact OnlyX.set _ ⟨w5.heap.size, 3, none⟩ _ (.inr (.inl rfl))
                  intro W' hO
                  rw [HOP.out]
                  have hXn : ∀ (e : TypeId) (size k : Nat) (v : Value) (xs : List Value), w9.ownsRow w.heap.size e size v k xs → (46 : TypeId) ≠ e → ∀ z, v.ownBlock = some z → ¬ (X z ∨ z = w5.heap.size ∨ z = w.heap.size + 1) := by
                    intro e size k v xs ho hne z hz hx
                    rcases hx with hx | hx | hx
                    · have := HX.out z hx
                      have := (ho.lt z hz).1
                      omega
                    · exact own_ne_own HI9.out.o ho hne z (by rw [hx]; rfl) hz
                    · exact own_ne_own HI9.out.o8 ho hne z (by rw [hx]; rfl) hz
                  have hn : ∀ (W : World) (A : Option Addr) (xs : List Value), RdX (fun z => X z ∨ z = w5.heap.size ∨ z = w.heap.size + 1) W A xs → RdX X W A xs := fun W A xs h => h.newX (fun z _ h => .inl h)
                  have hsv9 := HI9.out.sv
                  rw [HSAV.out] at hsv9
                  refine ⟨Q, cq, Q2, c2, Qs, cs, ?_, ?_, ?_, HC9.out.2.2.2.1, ?_, ?_, HC9.out.2.2.2.2.2, ?_, ?_, HC9.out.2.1⟩
                  · simp only [HKF.out.1, HKF.out.2.1, HKF.out.2.2, HSL.out, HSAV.out, HRS.out.rq, HRS.out.rb, HRS.out.rs]
                  · simp only [HKF.out.2.2]
                    exact hn _ _ _ ((own_rdx HI9.out.sp (hXn _ _ _ _ _ HI9.out.sp (by decide))).onlyX hO)
                  · simp only [HKF.out.2.2, HSL.out]
                    exact HC9.out.2.2.1
                  · exact hn _ _ _ ((own_rdx HO9.out (hXn _ _ _ _ _ HO9.out (by decide))).onlyX hO)
                  · simp only [HSAV.out]
                    exact HC9.out.2.2.2.2.1
                  · exact hn _ _ _ ((own_rdx hsv9 (hXn _ _ _ _ _ hsv9 (by decide))).onlyX hO)
                  · simp only [HSAV.out]
                    exact HC9.out.1
end Go.Proofs.Ytjdknddnanopaaa
