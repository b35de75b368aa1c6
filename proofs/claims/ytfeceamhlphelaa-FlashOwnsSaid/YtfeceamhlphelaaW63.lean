/-
  FlashOwns: a flash shares no memory with the bytes that it is made of, that it gives, or that it is given.
-/
import Derived.Test.YtfeceamhlphelaaW25
import Derived.Deep.RegionHeld
namespace Go.Proofs.Ytfeceamhlphelaa
open Go.RowKit
set_option linter.unusedVariables false
set_option linter.unusedSimpArgs false

theorem own_low63 {w : World} {b b' e size n : Nat} {v : Value} {xs : List Value} (h : w.ownsRow b e size v n xs) (hb : b' ≤ b) : w.ownsRow b' e size v n xs :=
  ⟨h.1, by
    rcases h.2 with h' | ⟨g, cap, cur, h1, h2, h3⟩
    · exact .inl h'
    · exact .inr ⟨g, cap, cur, h1, Nat.le_trans hb h2, h3⟩⟩
theorem FlAt.low {w0 w1 w : World} {L : Lc} {f : Fl} (h : FlAt w1 w L f) (hb : Below w0.heap.size w0 w1) : FlAt w0 w L f :=
  ⟨h.ok, hb.trans (h.below.mono hb.size), Nat.le_trans hb.size h.bd, h.ld, h.ni, h.nw, h.iw, h.c0, h.c1, h.c2, h.c3, h.c4, h.c5, h.fz, own_low63 h.oi hb.size, own_low63 h.ow hb.size, h.pc, h.pm, h.pk⟩
/-- A store beside the flash. -/
theorem FlAt.aside {w0 w : World} {L : Lc} {f : Fl} (h : FlAt w0 w L f) (hp : f.picks = []) {g : Nat} (hg : w0.heap.size ≤ g) (h1 : g ≠ L.d) (h2 : g ≠ L.gi) (h3 : g ≠ L.gw) (k : Nat) (u : Value) : FlAt w0 (w.setCell ⟨g, k, none⟩ u) L f := by
  have hb : Below w0.heap.size w0 (w.setCell ⟨g, k, none⟩ u) := h.below.setCell (p := ⟨g, k, none⟩) hg _
  have hd : ∀ j, (w.setCell ⟨g, k, none⟩ u).cell? ⟨L.d, j, none⟩ = w.cell? ⟨L.d, j, none⟩ := fun j => cell_of_block (Below.heap_setCell _ _ _ _ (fun e => h1 e.symm))
  refine ⟨h.ok, hb, h.bd, by simpa [World.setCell] using h.ld, h.ni, h.nw, h.iw, (hd 0).trans h.c0, (hd 1).trans h.c1, (hd 2).trans h.c2, (hd 3).trans h.c3, (hd 4).trans h.c4, (hd 5).trans h.c5, ?_, ?_, ?_, h.pc, h.pm, ?_⟩
  · intro j
    rw [World.frozen?_setCell]
    exact h.fz j
  · exact ownsRow_setCell_other h.oi (by simpa [Value.ownBlock] using fun e => h2 e.symm) _
  · exact ownsRow_setCell_other h.ow (by simpa [Value.ownBlock] using fun e => h3 e.symm) _
  · rw [hp]
    exact fun h => absurd rfl h

theorem own_rd63 {w : World} {base e size n c : Nat} {A : Option Addr} {xs : List Value} (h : w.ownsRow base e size (.slice A n c) n xs) : Rd w w.heap.size A xs := by
  obtain ⟨A', c', e', _, _, hr⟩ := own_read h
  injection e' with e1 _ _
  rw [e1]
  exact hr

structure OwnP (l : List Int) (x : Int) (F1 F2 : Fl) : Prop where
  n64 : 64 ≤ l.length
  wl : (loadF 1 l).wear.length = l.length / 64
  b1 : 1 ≤ l.length / 64
  w0 : (loadF 1 l).wear[0]? = some 0
  r1 : (readF (loadF 1 l) 0).2 = 0
  r2 : (readF (loadF 1 l) 0).1.length = 64
  e1 : eraseF (loadF 1 l) 0 = (F1, 0)
  p1 : progF F1 0 (List.replicate 64 x) = (F2, 0)
  q1 : readF F2 0 = (List.replicate 64 x, 0)
  k1 : F1.picks = []
  k2 : F2.picks = []
theorem owns_plain {l : List Int} {x : Int} (hE : loadE 1 l.length = 0) (hl : Bytes l) (hx : 0 ≤ x ∧ x < 256) : ∃ F1 F2, OwnP l x F1 F2 := by
  have hok := loadF_ok (p := 1) hE hl
  have hn : l.length % 64 = 0 ∧ 1 ≤ l.length / 64 := by
    unfold loadE at hE
    rw [if_neg (by omega)] at hE
    split at hE
    · cases hE
    · rename_i h
      simp at h
      omega
  have hup : (loadF 1 l).up := ⟨hok, rfl, rfl⟩
  have hwl : (loadF 1 l).wear.length = l.length / 64 := by unfold loadF; simp
  have hpg : (loadF 1 l).pg = 1 := rfl
  have hK : 0 < (loadF 1 l).wear.length * (loadF 1 l).pg := by rw [hwl, hpg]; omega
  have hr := up_read hup hK
  have he := up_erase hup (B := 0) (by omega)
  have hpe := pageF_erase hok (K := 0) hK (bumpF (loadF 1 l).wear 0)
  have hok1 := eraseF_ok (block := ((0 : Nat) : Int)) hok
  obtain ⟨F1, hF1⟩ : ∃ F1, eraseF (loadF 1 l) ((0 : Nat) : Int) = (F1, 0) := ⟨_, he⟩
  rw [hF1] at hok1 he
  injection he with he _
  rw [Nat.zero_div, ← he] at hpe
  have hup1 : F1.up := ⟨hok1, by rw [he]; rfl, by rw [he]; rfl⟩
  have hK1 : 0 < F1.wear.length * F1.pg := by rw [he]; simp only [bumpF_length]; exact hK
  have hpr := up_prog hup1 (K := 0) hK1 (b := List.replicate 64 x) (by simp)
  rw [hpe, if_pos (by exact blank_rep 64)] at hpr
  have hup2 := up_lay hup1 (K := 0) hK1 (b := List.replicate 64 x) (by simp) (bytes_rep 64 x hx)
  have hrd := up_read hup2 (K := 0) hK1
  rw [pageF_lay hok1 hK1 (by simp)] at hrd
  refine ⟨F1, _, by omega, hwl, hn.2, ?_, ?_, ?_, hF1, hpr, hrd, by rw [he]; rfl, by rw [he]; rfl⟩
  · unfold loadF
    rw [List.getElem?_replicate, if_pos (by omega)]
  · have hr' : readF (loadF 1 l) 0 = (pageF (loadF 1 l) 0, 0) := hr
    rw [hr']
  · have hr' : readF (loadF 1 l) 0 = (pageF (loadF 1 l) 0, 0) := hr
    rw [hr']
    show ((l.drop (64 * 0)).take 64).length = 64
    rw [List.length_take, List.length_drop]
    omega

set_option maxRecDepth 100000 in
theorem owns_long (A : Option Addr) (n c : Nat) (x : Int) (w : World) (hn : n ≤ maxLen) (h : 2000 < n) :
    Calls Try.prog 7 #[.slice A n c, .int .u8 x] w fun e w' => e = .returned (.bool true) ∧ Below w.heap.size w w' := by
  unfold maxLen at hn
  go_enter Try.func7, Try.ntmps7
  go_wp2_with (fail)
  (with_reducible refine (awake_any w).mono ?_)
  rintro e w1 ⟨rfl, hb⟩
  have HB1 := Lib.hid hb
  clear hb
  go_wp2_with (fail)
  (with_reducible refine (awake_any w1).mono ?_)
  rintro e w2 ⟨rfl, hb⟩
  have HB2 : Hid (Below w.heap.size w w2) := HB1.out.trans (hb.mono HB1.out.size)
  clear hb
  go_wp2
  go_ret
  exact ⟨rfl, HB2.out⟩

set_option maxRecDepth 100000 in
set_option maxHeartbeats 8000000 in
theorem owns_main (A : Option Addr) (n c : Nat) (l : List Int) (x : Int) (w : World) (hA : Rd w w.heap.size A (kcells .u8 l)) (hn : l.length = n) (hnc : n ≤ c) (hcm : c ≤ maxLen) (hl : Bytes l) (hx : 0 ≤ x ∧ x < 256) (h : n ≤ 2000) :
    Calls Try.prog 7 #[.slice A n c, .int .u8 x] w fun e w' => e = .returned (.bool true) ∧ Below w.heap.size w w' := by
  have g1 := ne_nil
  have g2 := ne_err
  have g3 := eqp_none
  have HA := Lib.hid hA
  have HN := Lib.hid hn
  have HL := Lib.hid hl
  have hm0 : 0 ≤ maxLen := Nat.zero_le _
  have HKL : Hid ((kcells .u8 l).length = n * 1) := by rw [Hid, kcells_length, hn, Nat.mul_one]
  obtain ⟨i5, hi5, hz50, hz51, hz52⟩ := info_parts info5
  unfold maxLen at hcm
  clear hA hn hl
  go_enter Try.func7, Try.ntmps7
  go_wp2_with (fail)
  (with_reducible refine (awake_any w).mono ?_)
  rintro e w1 ⟨rfl, hb⟩
  have HB1 := Lib.hid hb
  have HA1 := Lib.hid (HA.out.below hb (Nat.le_refl _))
  clear hb
  go_wp2_with (at_builtin; refine wpList_append_rd _ rfl _ _ 23 rfl w1.heap.size 5 i5 (.int .u8 0) 1 1 Try.underlying23 hi5 hz50 hz51 hz52 rfl (by omega) _ 0 [] rfl (World.ownsRow_lit w1 #[] 0 (Nat.le_refl _) hm0 rfl) w1.heap.size _ n c (kcells .u8 l) rfl ((HA1.out.more HB1.out.size).below ((Below.refl w1.heap.size w1).alloc (Nat.le_refl _) _) (Nat.le_refl _)) HKL.out (kcells_one _ _) (by unfold maxLen; omega) (by omega) (by simp) ?_)
  intro v5 w5 hown5 hgrow5 _
  have HB5 : Hid (Below w1.heap.size w1 w5) := ((Below.refl w1.heap.size w1).alloc (Nat.le_refl _) _).grown hgrow5 (by simp) (fun k hk => by have hk' : some w1.heap.size = some k := hk; injection hk'; omega)
  have ho5 : w5.ownsRow w1.heap.size 5 1 v5 n (kcells .u8 l) := by simpa using hown5
  obtain ⟨A5, c5, rfl, h51, h52, hg5⟩ := own_form ho5
  have HO5 := Lib.hid ho5
  have HR5 : Hid (Rd w5 w5.heap.size A5 (kcells .u8 l)) := by
    obtain ⟨A', c', e, _, _, hr⟩ := own_read ho5
    injection e with e1 _ _
    rw [Hid, e1]
    exact hr
  unfold maxLen at h52
  clear hown5 hgrow5 ho5
  by_cases hE : loadE 1 n = 0
  · have HLO := Lib.hid (load_ok 1 A5 n c5 l w5 HR5.out HN.out HL.out hE)
    rw [show ((1 : Nat) : Int) = 1 from rfl] at HLO
    obtain ⟨F1, F2, hP⟩ := owns_plain (x := x) (by rw [HN.out]; exact hE) HL.out hx
    have HP := Lib.hid hP
    have h64 := hP.n64
    rw [HN.out] at h64
    obtain ⟨g5, rfl, hg51, hg52⟩ := hg5 (by omega)
    clear hP hE
    go_wp2_with (fail)
    (with_reducible refine HLO.out.mono ?_)
    rintro e w6 ⟨L, rfl, hF⟩
    have HB6 := Lib.hid (HB5.out.trans (hF.below.mono HB5.out.size))
    have HF6 := Lib.hid (hF.low HB5.out)
    have HG5 : Hid (w1.heap.size ≤ g5 ∧ g5 ≠ L.d ∧ g5 ≠ L.gi ∧ g5 ≠ L.gw) := by
      have h1 := hF.bd
      have h2 := hF.bi.1
      have h3 := hF.bw.1
      exact ⟨hg51, by omega, by omega, by omega⟩
    have HO6 := Lib.hid (own_below HO5.out hF.below)
    clear hF hg51 hg52
    go_wp2
    go_loopw [38] (fun i wr => ∃ (j : Nat) (l' : List Int), j ≤ n ∧ i = .int .i64 j ∧ l'.length = n ∧ Bytes l' ∧ wr.ownsRow w1.heap.size 5 1 (.slice (some ⟨g5, 0, none⟩) n c5) n (kcells .u8 l') ∧ FlAt w1 wr L (loadF 1 l)) (fun i _ => n - (intOf i).toNat)
    case atStart => exact ⟨0, l, Nat.zero_le _, rfl, HN.out, HL.out, HO6.out, HF6.out⟩
    case round =>
      obtain ⟨j, l', hj, rfl, hln, hlb, ho, hf⟩ := hrel
      have HF := Lib.hid hf
      by_cases hlt : j < n
      · obtain ⟨y, hy⟩ := getElem?_of_lt (l := l') (k := j) (by rw [hln]; exact hlt)
        have hyb := hlb y (List.mem_of_getElem? hy)
        have d0 := own_k hln ho hy
        have d1 : wr.frozen? ⟨g5, j, none⟩ = false := ho.frozenAt _
        obtain ⟨z, hz⟩ : ∃ z, IntKind.u8.wrap (y + 1) = z := ⟨_, rfl⟩
        have hzb : 0 ≤ z ∧ z < 256 := by
          rw [← hz]
          have := IntKind.wrap_u8 (y + 1)
          rw [this]
          omega
        have HO9 := Lib.hid (own_set_k ho j z)
        have HF9 := Lib.hid (hf.aside rfl HG5.out.1 HG5.out.2.1 HG5.out.2.2.1 HG5.out.2.2.2 j (.int .u8 z))
        have HL9 : Hid ((l'.set j z).length = n ∧ Bytes (l'.set j z)) := ⟨by rw [List.length_set]; exact hln, fun u hu => by
          rcases List.mem_or_eq_of_mem_set hu with g | g
          · exact hlb u g
          · rw [g]; exact hzb⟩
        clear ho hf hlb hy hln hyb hzb
        go_wp2
        go_roundw
        case rel => exact ⟨j + 1, _, by omega, by go_num, HL9.out.1, HL9.out.2, HO9.out, HF9.out⟩
        case measure => simp [intOf]; omega
      · clear ho hf hln hlb
        have HRD := Lib.hid (read_any HF.out 0)
        rw [HP.out.r1, HP.out.r2] at HRD
        go_wp2_with (fail)
        (with_reducible refine HRD.out.mono ?_)
        rintro e w7 ⟨v7, rfl, ho7, hb7⟩
        simp only [errV_zero]
        obtain ⟨A7, c7, rfl, h71, h72, hg7⟩ := own_form ho7
        obtain ⟨g7, rfl, hg71, hg72⟩ := hg7 (by omega)
        have HF7 := Lib.hid (HF.out.later hb7)
        have HO7 := Lib.hid ho7
        have HPL7 : Hid ((readF (loadF 1 l) 0).1.length = 64) := HP.out.r2
        have HG7 : Hid (w1.heap.size ≤ g7 ∧ g7 ≠ L.d ∧ g7 ≠ L.gi ∧ g7 ≠ L.gw) := by
          have h1 := HF.out.below.size
          have h2 := HF.out.ld
          have h3 := HF.out.bi.2
          have h4 := HF.out.bw.2
          exact ⟨by omega, by omega, by omega, by omega⟩
        have HBW7 : Hid (Below w.heap.size w w7) := HB1.out.trans (HF7.out.below.mono HB1.out.size)
        have HA7 := Lib.hid (((HA.out.below HBW7.out (Nat.le_refl _)).more HBW7.out.size))
        clear ho7 hb7 hg71 hg72
        have HIW : Hid (∀ W', Below w7.heap.size w7 W' → Calls Try.prog 36 #[.pointer (some ⟨L.d, 0, none⟩)] W' fun e w' => ∃ A c, e = .returned (.slice A n c) ∧ Rd w' w'.heap.size A (kcells .u8 l) ∧ Below w7.heap.size w7 w') := by
          intro W' hb'
          refine (image_any (HF7.out.later hb')).mono ?_
          rintro e w' ⟨v', rfl, ho, hb⟩
          obtain ⟨A', c', rfl, h1, h2, hr⟩ := own_read ho
          have e1 : (loadF 1 l).img.length = n := HN.out
          rw [e1]
          exact ⟨A', c', rfl, hr, hb'.trans (hb.mono hb'.size)⟩
        have HST : Hid (∀ W', Below w7.heap.size w7 W' → (convert 23 9 (.slice A n c)).run Try.prog W' = .ok (.string (strOfNums l)) W') := fun W' hb' => str_of (HA7.out.below hb' (Nat.le_refl _)) HN.out
        have t0 := HST.out w7.drew (Below.drew (Below.refl _ _))
        go_upto_region 13 with (fail)
        go_cut [67] (fun v wx => v = .bool false ∧ Below w7.heap.size w7 wx)
        case first =>
          go_region_held (fun w' => (convert 23 9 (.slice A n c)).run Try.prog w' = .ok (.string (strOfNums l)) w') (first | exact t0 | exact t8) (first
            | (go_at_call 36; with_reducible refine (HIW.out _ (Below.drew (Below.refl _ _))).mono ?_; rintro e w8 ⟨A8, c8, rfl, hr8, hb8⟩; have t7 : (convert 23 9 (.slice A8 n c8)).run Try.prog w8 = .ok (.string (strOfNums l)) w8 := str_of hr8 HN.out; have t8 := HST.out w8 hb8))
          all_goals
            (try go_wp2_with fail)
            go_meet
            exact ⟨rfl, hb8⟩
        case rest =>
          obtain ⟨rfl, hb8⟩ := hcut
          have HB8 := Lib.hid hb8
          clear t0 hb8
          have HF8 := Lib.hid (HF7.out.later HB8.out)
          have HO8 := Lib.hid (own_below HO7.out HB8.out)
          obtain ⟨y0, hy0⟩ := getElem?_of_lt (l := (readF (loadF 1 l) 0).1) (k := 0) (by rw [HPL7.out]; omega)
          have d0 : wc.cell? ⟨g7, 0, none⟩ = some (.int .u8 y0) := own_k HPL7.out HO8.out hy0
          have d1 : wc.frozen? ⟨g7, 0, none⟩ = false := HO8.out.frozenAt _
          have HFA : Hid (∀ u, FlAt w1 (wc.setCell ⟨g7, 0, none⟩ u) L (loadF 1 l)) := fun u => HF8.out.aside rfl HG7.out.1 HG7.out.2.1 HG7.out.2.2.1 HG7.out.2.2.2 0 u
          have hpl7 := HPL7.out
          clear hy0
          go_wp2_with (fail)
          clear d0 d1
          (with_reducible refine (image_any (HFA.out _)).mono ?_)
          rintro e w9 ⟨v9, rfl, ho9, hb9⟩
          have e9 : (loadF 1 l).img.length = n := HN.out
          rw [e9] at ho9
          obtain ⟨A9, c9, rfl, h91, h92, hg9⟩ := own_form ho9
          obtain ⟨g9, rfl, hg91, hg92⟩ := hg9 (by omega)
          have HF9 := Lib.hid ((HFA.out _).later hb9)
          have HO9 : Hid (w9.ownsRow w1.heap.size 5 1 (.slice (some ⟨g9, 0, none⟩) n c9) n (kcells .u8 l)) := own_low63 ho9 (HFA.out _).below.size
          have HG9 : Hid (g9 ≠ L.d ∧ g9 ≠ L.gi ∧ g9 ≠ L.gw) := by
            have h2 := (HFA.out (.int .u8 0)).ld
            have h3 := (HFA.out (.int .u8 0)).bi.2
            have h4 := (HFA.out (.int .u8 0)).bw.2
            have h5 : (wc.setCell ⟨g7, 0, none⟩ (.int .u8 0)).heap.size = (wc.setCell ⟨g7, 0, none⟩ (.int .u8 y0)).heap.size := by simp [World.setCell]
            have h6 : ∀ u, (wc.setCell ⟨g7, 0, none⟩ u).heap.size = wc.heap.size := fun u => by simp [World.setCell]
            rw [h6] at h2 h3 h4 hg91
            exact ⟨by omega, by omega, by omega⟩
          clear ho9 hb9 hg91 e9
          go_wp2_with (fail)
          (with_reducible refine (wear_any HF9.out).mono ?_)
          rintro e w10 ⟨v10, rfl, ho10, hb10⟩
          rw [HP.out.wl, HN.out] at ho10
          have hbb := HP.out.b1
          rw [HN.out] at hbb
          obtain ⟨Bn, hBn⟩ : ∃ B, n / 64 = B := ⟨_, rfl⟩
          have hBn2 : Bn ≤ 64 := by omega
          rw [hBn] at ho10 hbb
          obtain ⟨A10, c10, rfl, h101, h102, hg10⟩ := own_form ho10
          obtain ⟨g10, rfl, hg101, hg102⟩ := hg10 (by omega)
          have HF10 := Lib.hid (HF9.out.later hb10)
          have HO10 := Lib.hid ho10
          have HO9' := Lib.hid (own_below HO9.out hb10)
          have HG10 : Hid (w1.heap.size ≤ g10 ∧ g10 ≠ L.d ∧ g10 ≠ L.gi ∧ g10 ≠ L.gw) := by
            have h1 := HF9.out.below.size
            have h2 := HF9.out.ld
            have h3 := HF9.out.bi.2
            have h4 := HF9.out.bw.2
            exact ⟨by omega, by omega, by omega, by omega⟩
          have hne1 : g9 ≠ g10 := by omega
          have hne2 : g10 ≠ g9 := by omega
          obtain ⟨y1, hy1⟩ := getElem?_of_lt (l := l) (k := 1) (by rw [HN.out]; omega)
          have d0 : w10.cell? ⟨g9, 1, none⟩ = some (.int .u8 y1) := own_k HN.out HO9'.out hy1
          have d1 : w10.frozen? ⟨g9, 1, none⟩ = false := HO9'.out.frozenAt _
          have d2 : w10.cell? ⟨g10, 0, none⟩ = some (.int .i64 0) := by
            have := (HO10.out.cellAt 0 (by omega))
            rw [this]
            have := HP.out.w0
            simp [icells, this]
          have d3 : w10.frozen? ⟨g10, 0, none⟩ = false := HO10.out.frozenAt _
          have HFB : Hid (∀ u u', FlAt w1 ((w10.setCell ⟨g9, 1, none⟩ u).setCell ⟨g10, 0, none⟩ u') L (loadF 1 l)) := fun u u' =>
            (HF10.out.aside rfl (HO9'.out.lt _ rfl).1 HG9.out.1 HG9.out.2.1 HG9.out.2.2 1 u).aside rfl HG10.out.1 HG10.out.2.1 HG10.out.2.2.1 HG10.out.2.2.2 0 u'
          have hn0 : ((n : Int) == 0) = false := by simp; omega
          have hB0 : ((Bn : Int) == 0) = false := by simp; omega
          clear ho10 hb10 hg101 hg102 hg92 hy1
          go_wp2_with (fail)
          clear d0 d1 d2 d3
          (with_reducible refine (wear_any (HFB.out _ _)).mono ?_)
          rintro e w11 ⟨v11, rfl, ho11, hb11⟩
          rw [HP.out.wl, HN.out, hBn] at ho11
          obtain ⟨A11, c11, rfl, h111, h112, hg11⟩ := own_form ho11
          obtain ⟨g11, rfl, hg111, hg112⟩ := hg11 (by omega)
          have HF11 := Lib.hid ((HFB.out _ _).later hb11)
          have HC11 : Hid (w11.cell? ⟨g11, 0, none⟩ = some (.int .i64 0)) := by
            have := (ho11.cellAt 0 (by omega))
            rw [Hid, this]
            have := HP.out.w0
            simp [icells, this]
          have HG11 : Hid (g11 < w11.heap.size ∧ g11 ≠ L.d ∧ g11 ≠ L.gi ∧ g11 ≠ L.gw) := by
            have h2 := (HFB.out (.int .u8 0) (.int .u8 0)).ld
            have h3 := (HFB.out (.int .u8 0) (.int .u8 0)).bi.2
            have h4 := (HFB.out (.int .u8 0) (.int .u8 0)).bw.2
            have h6 : ∀ u u', ((w10.setCell ⟨g9, 1, none⟩ u).setCell ⟨g10, 0, none⟩ u').heap.size = w10.heap.size := fun u u' => by simp [World.setCell]
            rw [h6] at h2 h3 h4 hg111
            exact ⟨hg112, by omega, by omega, by omega⟩
          have HBW11 : Hid (Below w.heap.size w w11) := HB1.out.trans (HF11.out.below.mono HB1.out.size)
          have HST11 : Hid (∀ W', Below w1.heap.size w1 W' → (convert 23 9 (.slice A n c)).run Try.prog W' = .ok (.string (strOfNums l)) W') := fun W' hb' => str_of ((HA.out.below (HB1.out.trans (hb'.mono HB1.out.size)) (Nat.le_refl _))) HN.out
          have HIW11 : Hid (∀ W', Below w11.heap.size w11 W' → Calls Try.prog 36 #[.pointer (some ⟨L.d, 0, none⟩)] W' fun e w' => ∃ A c, e = .returned (.slice A n c) ∧ Rd w' w'.heap.size A (kcells .u8 l) ∧ Below w11.heap.size w11 w') := by
            intro W' hb'
            refine (image_any (HF11.out.later hb')).mono ?_
            rintro e w' ⟨v', rfl, ho, hb⟩
            obtain ⟨A', c', rfl, h1, h2, hr⟩ := own_read ho
            have e1 : (loadF 1 l).img.length = n := HN.out
            rw [e1]
            exact ⟨A', c', rfl, hr, hb'.trans (hb.mono hb'.size)⟩
          have HKC : Hid (∀ W', Below w11.heap.size w11 W' → (convert 23 9 (.slice A n c)).run Try.prog W' = .ok (.string (strOfNums l)) W' ∧ W'.cell? ⟨g11, 0, none⟩ = some (.int .i64 0)) := fun W' hb' =>
            ⟨HST11.out W' (HF11.out.later hb').below, (hb'.cell (p := ⟨g11, 0, none⟩) HG11.out.1).trans HC11.out⟩
          have HER11 : Hid (∀ W', Below w11.heap.size w11 W' → Calls Try.prog 30 #[.pointer (some ⟨L.d, 0, none⟩), .int .i64 0] W' fun e w' => e = .returned .nilIface ∧ FlAt w1 w' L F1 ∧ (convert 23 9 (.slice A n c)).run Try.prog w' = .ok (.string (strOfNums l)) w' ∧ w'.cell? ⟨g11, 0, none⟩ = some (.int .i64 0)) := by
            intro W' hb'
            refine (erase_any (HF11.out.later hb') 0).mono ?_
            rintro e w' ⟨rfl, hf, ho⟩
            rw [HP.out.e1] at hf
            rw [HP.out.e1]
            have hlt : g11 < W'.heap.size := Nat.lt_of_lt_of_le HG11.out.1 hb'.size
            exact ⟨rfl, hf, HST11.out w' hf.below, (cell_of_block (ho.block g11 hlt HG11.out.2.1 HG11.out.2.2.1 HG11.out.2.2.2)).trans (HKC.out W' hb').2⟩
          have k0 := HKC.out w11.drew (Below.drew (Below.refl _ _))
          clear ho11 hb11 hg111 hg112 hn0
          go_upto_region 22 with (fail)
          go_cut [117] (fun v wx => v = .bool false ∧ FlAt w1 wx L F1)
          case first =>
            go_region_held (fun w' => (convert 23 9 (.slice A n c)).run Try.prog w' = .ok (.string (strOfNums l)) w' ∧ w'.cell? ⟨g11, 0, none⟩ = some (.int .i64 0)) (first | exact k0 | exact k8 | exact k9) (first
              | (go_at_call 36; with_reducible refine (HIW11.out _ (Below.drew (Below.refl _ _))).mono ?_; rintro e w8 ⟨A8, c8, rfl, hr8, hb8⟩; have t7 : (convert 23 9 (.slice A8 n c8)).run Try.prog w8 = .ok (.string (strOfNums l)) w8 := str_of hr8 HN.out; have k8 := HKC.out w8 hb8)
              | (go_at_call 30; with_reducible refine (HER11.out _ hb8).mono ?_; rintro e w13 ⟨rfl, hf13, k9⟩))
            all_goals
              (try go_wp2_with fail)
              go_meet
              exact ⟨rfl, hf13⟩
          case rest =>
            obtain ⟨rfl, hf13⟩ := hcut
            have HF13 := Lib.hid hf13
            clear k0 hf13
            go_wp2_with (fail)
            (with_reducible refine (fill_any x hx _).mono ?_)
            rintro e w14 ⟨A14, rfl, ho14, hb14⟩
            obtain ⟨A', c', e', _, _, hg14⟩ := own_form ho14
            injection e' with e1 e2 e3
            subst e1
            clear e2 e3
            obtain ⟨g14, rfl, hg141, hg142⟩ := hg14 (by omega)
            have HF14 := Lib.hid (HF13.out.later hb14)
            have HG14 : Hid (w1.heap.size ≤ g14 ∧ g14 ≠ L.d ∧ g14 ≠ L.gi ∧ g14 ≠ L.gw) := by
              have h1 := HF13.out.below.size
              have h2 := HF13.out.ld
              have h3 := HF13.out.bi.2
              have h4 := HF13.out.bw.2
              exact ⟨by omega, by omega, by omega, by omega⟩
            have HAP : Hid (Apart L w14 (some ⟨g14, 0, none⟩) (kcells .u8 (List.replicate 64 x))) := by
              intro hne
              obtain ⟨A', c', e', _, _, hr⟩ := own_read ho14
              obtain ⟨b', o', e2', hlt, hc⟩ := hr hne
              injection e' with e3 _ _
              rw [← e3] at e2'
              injection e2' with e2'
              injection e2' with e4 e5 _
              subst e4 e5
              exact ⟨g14, 0, rfl, hlt, HG14.out.2.1, HG14.out.2.2.1, HG14.out.2.2.2, hc⟩
            have HPR := Lib.hid (program_any HF14.out 0 (some ⟨g14, 0, none⟩) 64 64 (List.replicate 64 x) HAP.out (by simp) (Nat.le_refl _) (by unfold maxLen; omega) (bytes_rep 64 x hx))
            rw [HP.out.p1] at HPR
            have d14 : w14.cell? ⟨g14, 0, none⟩ = some (.int .u8 x) := own_k (by simp) ho14 (by simp)
            have f14 : w14.frozen? ⟨g14, 0, none⟩ = false := ho14.frozenAt _
            have HD14 := Lib.hid (And.intro d14 f14)
            have HGL := Lib.hid hg142
            clear ho14 hb14 hg141 d14 f14
            go_wp2_with (fail)
            (with_reducible refine HPR.out.mono ?_)
            rintro e w15 ⟨rfl, hf15, ho15⟩
            simp only [errV_zero]
            have HF15 : Hid (FlAt w1 w15 L F2) := hf15
            have hblk := ho15.block g14 HGL.out HG14.out.2.1 HG14.out.2.2.1 HG14.out.2.2.2
            have d15 : w15.cell? ⟨g14, 0, none⟩ = some (.int .u8 x) := (cell_of_block hblk).trans HD14.out.1
            have f15 : w15.frozen? ⟨g14, 0, none⟩ = false := by
              rw [← HD14.out.2]
              unfold World.frozen?
              simp only [hblk]
            have HFC : Hid (∀ u, FlAt w1 (w15.setCell ⟨g14, 0, none⟩ u) L F2) := fun u => HF15.out.aside HP.out.k2 HG14.out.1 HG14.out.2.1 HG14.out.2.2.1 HG14.out.2.2.2 0 u
            clear hf15 ho15 hblk
            go_wp2_with (fail)
            clear d15 f15
            (with_reducible refine (read_any (HFC.out _) 0).mono ?_)
            rintro e w16 ⟨v16, rfl, ho16, hb16⟩
            rw [HP.out.q1] at ho16
            rw [HP.out.q1]
            simp only [errV_zero]
            have hl64 : (List.replicate 64 x).length = 64 := by simp
            rw [show ((List.replicate 64 x, (0 : Int)) : List Int × Int).1 = List.replicate 64 x from rfl, hl64] at ho16
            obtain ⟨A16, c16, rfl, h161, h162, hr16⟩ := own_read ho16
            have HF16 := Lib.hid ((HFC.out _).later hb16)
            have HR16 := Lib.hid hr16
            have HBW16 : Hid (Below w.heap.size w w16) := HB1.out.trans (HF16.out.below.mono HB1.out.size)
            have HST16 : Hid (∀ W', Below w16.heap.size w16 W' → (convert 23 9 (.slice A16 64 c16)).run Try.prog W' = .ok (.string (strOfNums (List.replicate 64 x))) W') := fun W' hb' => str_of (HR16.out.below hb' (Nat.le_refl _)) hl64
            have HFI : Hid (∀ W', Below w16.heap.size w16 W' → Calls Try.prog 27 #[.int .u8 x] W' fun e w' => ∃ A, e = .returned (.slice A 64 64) ∧ (convert 23 9 (.slice A 64 64)).run Try.prog w' = .ok (.string (strOfNums (List.replicate 64 x))) w' ∧ (convert 23 9 (.slice A16 64 c16)).run Try.prog w' = .ok (.string (strOfNums (List.replicate 64 x))) w' ∧ Below w16.heap.size w16 w') := by
              intro W' hb'
              refine (fill_any x hx W').mono ?_
              rintro e w' ⟨A, rfl, ho, hb⟩
              have hbt := hb'.trans (hb.mono hb'.size)
              exact ⟨A, rfl, str_of (own_rd63 ho) hl64, HST16.out w' hbt, hbt⟩
            have k0 := HST16.out w16.drew (Below.drew (Below.refl _ _))
            clear ho16 hb16 hr16
            go_upto_region 29 with (fail)
            go_region_held (fun w' => (convert 23 9 (.slice A16 64 c16)).run Try.prog w' = .ok (.string (strOfNums (List.replicate 64 x))) w') (first | exact k0 | exact k8) (first
              | (go_at_call 27; with_reducible refine (HFI.out _ (Below.drew (Below.refl _ _))).mono ?_; rintro e w18 ⟨A18, rfl, t18, k8, hb19⟩))
            all_goals
              (try go_wp2_with fail)
              go_ret
              exact ⟨rfl, HBW16.out.trans (hb19.mono HBW16.out.size)⟩
  · have HLO := Lib.hid (load_no 1 A5 n c5 w5 (by omega) hE)
    have HB9 : Hid (Below w.heap.size w w5) := HB1.out.trans (HB5.out.mono HB1.out.size)
    clear hE
    go_wp2_with (fail)
    (with_reducible refine HLO.out.mono ?_)
    rintro e w6 ⟨rfl, rfl⟩
    go_wp2
    go_ret
    exact ⟨rfl, HB9.out⟩
end Go.Proofs.Ytfeceamhlphelaa
