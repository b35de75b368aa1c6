/-
  Part 13 of the proof.
-/
import Derived.Test.YtjdknddnanopaaaGreatQ12
namespace Go.Proofs.YtjdknddnanopaaaGreat
open Go.RowKit Tryz
set_option maxRecDepth 100000
set_option maxHeartbeats 16000000
set_option linter.all false
variable {w w' w1 w2 : World} {S : Sc} {X Y : Nat → Prop} {e : TypeId} {B : Nat} {v : Value} {q : List Int} {L : Lc} {x : Int} {f : Fl} {s : St}
theorem KR {x : Rc} {g : Fl} (h : cf X w x g) (hX : ∀ b, X b → b < w.heap.size) (fi bl : Nat) (A : Option Addr) (n c : Nat) (sp : List eB) (hA : Rd w w.heap.size A (bK sp)) (lQ : sp.length = n) (qa : n ≤ c) (fS : c ≤ maxLen) (dc : ∀ p ∈ sp, p.ok) 
 (hd : g.aF = false) (dZ : 2 ≤ bl) (zZ : bl ≤ 16) (Dt : fi + bl ≤ g.aq.length) (yQ : 1 ≤ n) (uC : n ≤ 48) (Wx : sp.any fA = false) (aaf : ¬ g.pg < cO sp.length) :
 Calls prog 30 #[x.v g, .int .i64 (fi : Int), .int .i64 (bl : Int), .slice A n c] w (OpS X w g fi bl sp) := by
 have lG := h.ok.b2
 have HR := iD h
 have HX := iD hX
 have HE := iD (Hv hd dZ zZ Dt (by rw [lQ]; exact yQ) (by rw [lQ]; exact uC))
 rw [lQ] at HE
 have xN := h.ok.p2
 have sO := h.ok.p1
 have HA := iD hA
 have nh := iD lQ
 have gV := iD dc
 obtain ⟨B, cc, D, d, P, r⟩ := x
 show Calls prog 30 #[.agg #[.slice B g.img.length cc, .int .i64 g.pg, .slice D g.aq.length d, .bool g.aF, .int .i64 g.be, .slice P g.az.length r], _, _, _] w _
 obtain ⟨i9, Ox, En, Em, El⟩ := info_parts zK
 unfold maxLen at fS
 have zj : Hid ((bK sp).length = n * 3) := by rw [Hid, xK, lQ]
 have nQ : 0 ≤ maxLen := Nat.zero_le _
 rw [hd]
 obtain ⟨wl, Ij⟩ := ex g.aq.length
 rw [Ij] at lG Dt
 rw [Ij]
 have Yv := iD Wx
 have abh := iD aaf
 clear h hA lQ dc
 go_enter func30, ntmps30
 go_upto_region 9 with (fail)
 obtain ⟨W2, lY⟩ := ex ((w.alloc (.cells #[.slice B g.img.length cc, .int .i64 g.pg, .slice D wl d, .bool false, .int .i64 g.be, .slice P g.az.length r] 35)).alloc (.cells #[.int .i64 0, .int .i64 0, .slice none 0 0, .slice none 0 0, .slice none 0 0, .int .i64 0, .int .i64 0, .int .i64 0, .slice none 0 0, .slice none 0 0, .int .i64 0, .int .i64 0, .int .i64 0, .int .i64 0, .bool false] 43))
 have lW : Hid (∀ o, (w.alloc o).heap.size = w.heap.size + 1) := fun o => Array.size_push _
 have fK : Hid (bW w W2) := by rw [← lY]; exact ck _ _ _
 have Q7 : Hid (W2.ownsRow w.heap.size 35 6 (.slice (some ⟨w.heap.size, 0, none⟩) 1 1) 1 [.slice B g.img.length cc, .int .i64 g.pg, .slice D wl d, .bool false, .int .i64 g.be, .slice P g.az.length r]) := by
  rw [← lY]
  exact aD (vI rfl rfl cV) (bI _ _)
 have xY : Hid (W2.ownsRow w.heap.size 43 15 (.slice (some ⟨w.heap.size + 1, 0, none⟩) 1 1) 1 zL) := by
  rw [← lY]
  have := vI (w := w.alloc (.cells #[.slice B g.img.length cc, .int .i64 g.pg, .slice D wl d, .bool false, .int .i64 g.be, .slice P g.az.length r] 35)) (base := w.heap.size) (e := 43) (size := 15) (cs := #[.int .i64 0, .int .i64 0, .slice none 0 0, .slice none 0 0, .slice none 0 0, .int .i64 0, .int .i64 0, .int .i64 0, .slice none 0 0, .slice none 0 0, .int .i64 0, .int .i64 0, .int .i64 0, .int .i64 0, .bool false]) (xs := zL) rfl rfl (by rw [lW]; omega)
  rw [lW] at this
  exact this
 try rw [lY]
 clear lY
 go_wp2_with (at_builtin; refine aM _ rfl _ _ 40 rfl w.heap.size 132 i9 (.agg #[.int .i64 0, .int .i64 0, .int .i64 0]) 3 24 underlying40 Ox En Em El rfl oM _ 0 [] rfl (World.ownsRow_lit W2 #[] 0 fK.size nQ rfl) w.heap.size _ n c (bK sp) rfl ((HA.below fK cV).below ((Below.refl W2.heap.size W2).alloc cV _) fK.size) zj (mP _) (by unfold maxLen; omega) oM (by have := fK.size; simp; omega) ?_)
 intro v5 w5 hown5 hgrow5 _
 have ke : w5.ownsRow w.heap.size 132 3 v5 n (bK sp) := by simpa using hown5
 have gD : bW W2 w5 := ((Below.refl W2.heap.size W2).alloc cV _).grown hgrow5 (by simp) (fun k hk => by have hk' : some W2.heap.size = some k := hk; injection hk'; omega)
 have Ri : Hid (bW w w5) := fK.trans (gD.mono fK.size)
 have abm := iD (aD Q7 gD)
 have X0 := iD (aD xY gD)
 obtain ⟨Q, cq, rfl, Dp, AY, _⟩ := a9 ke
 have aa6 := iD ke
 clear hown5 hgrow5 ke gD
 have tr : Hid (w.heap.size + 1 < w5.heap.size) := (X0.lt _ rfl).2
 have hI6 : qu w (w5.alloc (.cells #[.int .i64 (fi : Int), .int .i64 (bl : Int), .slice Q n cq, .slice none 0 0, .slice none 0 0, .int .i64 0, .int .i64 0, .int .i64 (-1), .slice none 0 0, .slice none 0 0, .int .i64 0, .int .i64 (-1), .int .i64 0, .int .i64 0, .bool false] 43)) w.heap.size (w.heap.size + 1) w5.heap.size ⟨B, cc, D, d, P, r⟩ g fi bl Q n cq sp none 0 [] 0 0 (-1) := by
  have hb := (Below.refl w5.heap.size w5).alloc cV (.cells #[.int .i64 (fi : Int), .int .i64 (bl : Int), .slice Q n cq, .slice none 0 0, .slice none 0 0, .int .i64 0, .int .i64 0, .int .i64 (-1), .slice none 0 0, .slice none 0 0, .int .i64 0, .int .i64 (-1), .int .i64 0, .int .i64 0, .bool false] 43)
  refine ⟨Ri.out.trans (hb.mono Ri.out.size), ?_, aD X0.out hb, vI rfl rfl Ri.out.size, aD aa6.out hb, World.ownsRow_nil _ _ _ _, by have := tr.out; omega⟩
  have e : Rc.l ⟨B, cc, D, d, P, r⟩ g = [.slice B g.img.length cc, .int .i64 g.pg, .slice D wl d, .bool false, .int .i64 g.be, .slice P g.az.length r] := by
   unfold Rc.l
   rw [hd, Ij]
  rw [e]
  exact aD abm hb
 have PI := iD hI6
 obtain ⟨i3, vU, kE, jN, lh⟩ := info_parts mq
 clear hI6
 go_wp2
 go_loopw [64] (fun i wr => ∃ (j cs : Nat) (Qs : Option Addr), j ≤ n ∧ i = .int .i64 j ∧ qu w wr w.heap.size (w.heap.size + 1) w5.heap.size ⟨B, cc, D, d, P, r⟩ g fi bl Q n cq sp Qs cs ((sp.take j).map eB.df) 0 0 (-1) ∧ (sp.take j).any fA = false) (fun i _ => n - (intOf i).toNat)
 case atStart => exact ⟨0, 0, none, Nat.zero_le _, rfl, PI, rfl⟩
 case round =>
  obtain ⟨j, cs, Qs, hj, rfl, hI, Qt⟩ := hrel
  have HI := iD hI
  have Yd := iD Qt
  clear hI Qt
  by_cases aW : j < n
  ·obtain ⟨p, hp⟩ := getElem?_of_lt (l := sp) (k := j) (by rw [nh]; exact aW)
   obtain ⟨ba, off, rfl, c0, c1, c2⟩ := (HA.below HI.below cV).F7 hp
   have xz : Hid ((sp.take (j + 1)).map eB.df = (sp.take j).map eB.df ++ [p.df]) := by rw [Hid, bA _ j p hp, List.map_append]; rfl
   have FC : Hid (((sp.take j).map eB.df).length = j) := by rw [Hid, List.length_map, List.length_take, nh]; omega
   generalize (sp.take j).map eB.df = raw at xz FC HI
   obtain ⟨W, hW⟩ := ex (wr.alloc (.cells #[.int .i64 p.lo, .int .i64 p.hi, .int .i64 p.df] 132))
   have gj : Hid (bW wr W) := by rw [← hW]; exact bV.alloc cV _
   have d0 : W.cell? ⟨wr.heap.size, 0, none⟩ = some (.int .i64 p.lo) := by rw [← hW]; exact cm _ _ _ _ _ _ rfl rfl
   have d1 : W.cell? ⟨wr.heap.size, 1, none⟩ = some (.int .i64 p.hi) := by rw [← hW]; exact cm _ _ _ _ _ _ rfl rfl
   have d2 : W.cell? ⟨wr.heap.size, 2, none⟩ = some (.int .i64 p.df) := by rw [← hW]; exact cm _ _ _ _ _ _ rfl rfl
   have Jv := iD (HI.ab gj)
   have abV := gV p (List.mem_of_getElem? hp)
   have HP := iD hp
   clear hp
   by_cases fh : fA p = true
   ·exact absurd (Ay HP fh) (by rw [Yv]; decide)
   have cU : fA p = false := by simpa using fh
   have HBD := iD cU
   have hg : ¬ p.df < p.lo ∧ ¬ p.hi < p.df := by
    unfold fA at cU
    rw [decide_eq_false_iff_not] at cU
    omega
   obtain ⟨ub, vV⟩ := hg
   have r4 := Jv.row 4 _ rfl
   rw [FC] at r4
   have fB := Jv.sv
   rw [FC] at fB
   have xV := iD fB
   clear fh cU fB
   go_upto_region 13 with (fail)
   try rw [hW]
   clear hW c0 c1 c2
   go_wp2_with (at_builtin; refine wpList_append_own _ rfl _ _ 33 rfl w.heap.size 3 i3 (.int .i64 0) 1 8 underlying33 vU kE jN lh rfl oM _ j _ rfl (aD xV (bV.alloc cV _)) ⟨W.heap.size, 0, none⟩ 1 1 [.int .i64 p.df] rfl rfl (cell_one_new _ _ _) (by simp [Value.oneCell']) (by unfold maxLen; omega) oM (by have := Jv.below.size; simp; omega) ?_)
   intro v' w8 hown8 hgrow8 _
   have hpu := Jv.push (W' := w8) (v' := v') (y := p.df) (o := .cells #[.int .i64 p.df] 3) (by rw [FC, aw, List.map_append]; exact hown8) (by rw [FC]; exact hgrow8)
   obtain ⟨Qs', cs', rfl, _, z4, c4, hI8⟩ := hpu
   rw [FC] at hI8 c4
   rw [FC]
   have PH := iD hI8
   clear hown8 hgrow8 hI8 d0 d1 d2 r4
   go_wp2
   go_roundw
   case rel => exact ⟨j + 1, cs', Qs', oM, by go_num, by rw [xz]; exact PH, CY HP Yd HBD⟩
   case measure => simp [intOf]; omega
  have Ba : j = n := oM
  subst Ba
  have gG : sp.any fA = false := by
   have := Yd.out
   rwa [List.take_of_length_le (by rw [nh]; exact Nat.le_refl _)] at this
  have FD : Hid (cJ g fi bl sp = if g.pg < cO j then 11 else 0) := HE.trans (iN (by rw [gG]; decide))
  rw [List.take_of_length_le (by rw [nh]; exact Nat.le_refl _)] at HI
  have jk := iD (fun w => oC j oM w)
  have xj := iD gG
  have jG := jL uC
  have xv := jZ yQ
  obtain ⟨K, hK⟩ := ex (cO j)
  have HK := iD hK
  rw [hK] at FD jk jG xv
  have q1 := HI.ll 1 _ rfl
  clear gG hK
  go_wp2_with (fail)
  refine (jk _).mono ?_
  rintro e w6 ⟨rfl, rfl⟩
  by_cases vS : g.pg < K
  ·exact absurd vS (by rw [← HK, ← nh]; exact abh)
  have PK : Hid (cJ g fi bl sp = 0) := by rw [Hid, FD, iN vS]
  obtain ⟨pg, iA⟩ := ex g.pg
  have Js := iD iA
  obtain ⟨T, hT⟩ := ex (pg / K)
  have HT := iD hT
  have Wz : T ≤ 16 := by rw [← hT]; exact Nat.le_trans (Nat.div_le_self _ _) oM
  have tq : (pg : Int).tdiv (K : Int) = (T : Int) := by rw [Int.tdiv_eq_ediv_of_nonneg oM, ← hT]; push_cast; rfl
  have tq2 : (pg : Int) / (K : Int) = (T : Int) := by rw [← hT]; push_cast; rfl
  obtain ⟨s0, fp⟩ := ex (dM fi bl sp)
  have xX := iD fp
  have HR0 : Hid (AB s0 (sp.map eB.df) 0 0 (-1)) := by
   rw [← fp]
   exact ⟨rfl, rfl, rfl, by simp [dM], tU xj⟩
  rw [iA] at q1 vS
  have Ir : 1 ≤ pg := oM
  have Qi : pg ≤ 16 := oM
  have xz : Hid (T * K ≤ pg) := by rw [← hT]; exact Nat.div_mul_le_self _ _
  clear hT fp iA
  go_wp2
  clear q1
  go_loopw [98] (fun i wr => ∃ (b cs : Nat) (Qs : Option Addr) (raw : List Int) (seq gh av : Int), b ≤ bl ∧ i = .int .i64 b ∧ qu w wr w.heap.size (w.heap.size + 1) w5.heap.size ⟨B, cc, D, d, P, r⟩ g fi bl Q j cq sp Qs cs raw seq gh av ∧ AB (cS g T s0 b) raw seq gh av) (fun i _ => bl - (intOf i).toNat)
  case atStart => exact ⟨0, cs, Qs, _, 0, 0, -1, Nat.zero_le _, rfl, HI, HR0⟩
  case round =>
   obtain ⟨b, cs, Qs, raw, seq, gh, av, hb, rfl, hI, VL⟩ := hrel
   have HI := iD hI
   have zh := iD VL
   clear hI VL
   by_cases hltb : b < bl
   ·have q1 := HI.ll 1 _ rfl
    rw [Js] at q1
    go_wp2
    clear q1
    go_loopw [105] (fun i wr => ∃ (jj cs : Nat) (Qs : Option Addr) (raw : List Int) (seq gh av : Int), jj ≤ T ∧ i = .int .i64 jj ∧ qu w wr w.heap.size (w.heap.size + 1) w5.heap.size ⟨B, cc, D, d, P, r⟩ g fi bl Q j cq sp Qs cs raw seq gh av ∧ AB (ea g b (cS g T s0 b) jj) raw seq gh av) (fun i _ => T - (intOf i).toNat)
    case atStart => exact ⟨0, cs, Qs, raw, seq, gh, av, Nat.zero_le _, rfl, HI, zh⟩
    case round =>
     obtain ⟨jj, cs, Qs, raw, seq, gh, av, hjj, rfl, hI, VL⟩ := hrel
     have HI := iD hI
     have zh := iD VL
     clear hI VL
     by_cases hltj : jj < T
     ·obtain ⟨s, hs⟩ := ex (ea g b (cS g T s0 b) jj)
      rw [hs] at zh
      have vS : Kp s0 s := by rw [← hs]; exact (mS _ _ _ _).trans (pS _ _ _ _)
      have J5 : Hid (s.first = fi ∧ s.ax = sp) := ⟨vS.f.trans (by rw [← xX]; rfl), vS.s.trans (by rw [← xX]; rfl)⟩
      have vT : s.k = K := by unfold St.k; rw [J5.2, nh]; exact HK
      have qQ : jj * K + K ≤ pg := by
       have h1 : (jj + 1) * K ≤ T * K := Nat.mul_le_mul_right _ hltj
       have := xz.out
       rw [Nat.add_mul, Nat.one_mul] at h1
       omega
      obtain ⟨P0, JU⟩ := ex ((fi + b) * pg + jj * K)
      have QZ : Hid (aG s g b jj = P0) := by unfold aG; rw [Hid, J5.1, vT, Js]; exact JU
      have ack : P0 + K ≤ 64 * 16 := by
       have h1 : (fi + b + 1) * pg ≤ 64 * pg := Nat.mul_le_mul_right _ oM
       have h2 : 64 * pg ≤ 64 * 16 := Nat.mul_le_mul_left _ Qi
       rw [Nat.add_mul (fi + b), Nat.one_mul] at h1
       omega
      have ze := iD hs
      have zk := iD vT
      have acj : P0 + K ≤ wl * pg := by
       have h1 : (fi + b + 1) * pg ≤ wl * pg := Nat.mul_le_mul_right _ oM
       rw [Nat.add_mul (fi + b), Nat.one_mul] at h1
       omega
      have GP := iD JU
      clear vS vT hs JU
      go_wp2
      go_loopw [16, 109] (fun v i wr => ∃ (t : Nat) (vs : List Value), t ≤ K ∧ i = .int .i64 t ∧ Jj w wr v vs (bT g P0 t) ∧ qu w wr w.heap.size (w.heap.size + 1) w5.heap.size ⟨B, cc, D, d, P, r⟩ g fi bl Q j cq sp Qs cs raw seq gh av) (fun _ i _ => K - (intOf i).toNat)
      case atStart => exact ⟨0, [], Nat.zero_le _, rfl, Jj.nil, HI⟩
      case round =>
       obtain ⟨t, vs, ht, rfl, hpj, hI⟩ := hrel
       have XS := iD hpj
       have HI := iD hI
       clear hpj hI
       by_cases hltt : t < K
       ·have iJ : Hid (∀ W', bW wr W' → W'.cell? ⟨w5.heap.size, 0, none⟩ = some (.int .i64 (fi : Int)) ∧ W'.cell? ⟨w5.heap.size, 1, none⟩ = some (.int .i64 (bl : Int)) ∧ W'.cell? ⟨w5.heap.size, 2, none⟩ = some (.slice Q j cq) ∧ W'.cell? ⟨w5.heap.size, 3, none⟩ = some (.slice none 0 0) ∧ W'.cell? ⟨w5.heap.size, 4, none⟩ = some (.slice Qs raw.length cs) ∧ W'.cell? ⟨w5.heap.size, 5, none⟩ = some (.int .i64 seq) ∧ W'.cell? ⟨w5.heap.size, 6, none⟩ = some (.int .i64 gh) ∧ W'.cell? ⟨w5.heap.size, 7, none⟩ = some (.int .i64 av) ∧ W'.cell? ⟨w5.heap.size, 8, none⟩ = some (.slice none 0 0) ∧ W'.cell? ⟨w5.heap.size, 9, none⟩ = some (.slice none 0 0) ∧ W'.cell? ⟨w5.heap.size, 10, none⟩ = some (.int .i64 0) ∧ W'.cell? ⟨w5.heap.size, 11, none⟩ = some (.int .i64 (-1)) ∧ W'.cell? ⟨w5.heap.size, 12, none⟩ = some (.int .i64 0) ∧ W'.cell? ⟨w5.heap.size, 13, none⟩ = some (.int .i64 0) ∧ W'.cell? ⟨w5.heap.size, 14, none⟩ = some (.bool false) ∧ W'.cell? ⟨w.heap.size, 0, none⟩ = some (.slice B g.img.length cc) ∧ W'.cell? ⟨w.heap.size, 1, none⟩ = some (.int .i64 g.pg) ∧ W'.cell? ⟨w.heap.size, 2, none⟩ = some (.slice D wl d) ∧ W'.cell? ⟨w.heap.size, 3, none⟩ = some (.bool false) ∧ W'.cell? ⟨w.heap.size, 4, none⟩ = some (.int .i64 g.be) ∧ W'.cell? ⟨w.heap.size, 5, none⟩ = some (.slice P g.az.length r)) := fun W' hb => by
         have h9 : W'.cell? ⟨w5.heap.size, 0, none⟩ = some (.int .i64 (fi : Int)) ∧ W'.cell? ⟨w5.heap.size, 1, none⟩ = some (.int .i64 (bl : Int)) ∧ W'.cell? ⟨w5.heap.size, 2, none⟩ = some (.slice Q j cq) ∧ W'.cell? ⟨w5.heap.size, 3, none⟩ = some (.slice none 0 0) ∧ W'.cell? ⟨w5.heap.size, 4, none⟩ = some (.slice Qs raw.length cs) ∧ W'.cell? ⟨w5.heap.size, 5, none⟩ = some (.int .i64 seq) ∧ W'.cell? ⟨w5.heap.size, 6, none⟩ = some (.int .i64 gh) ∧ W'.cell? ⟨w5.heap.size, 7, none⟩ = some (.int .i64 av) ∧ W'.cell? ⟨w5.heap.size, 8, none⟩ = some (.slice none 0 0) ∧ W'.cell? ⟨w5.heap.size, 9, none⟩ = some (.slice none 0 0) ∧ W'.cell? ⟨w5.heap.size, 10, none⟩ = some (.int .i64 0) ∧ W'.cell? ⟨w5.heap.size, 11, none⟩ = some (.int .i64 (-1)) ∧ W'.cell? ⟨w5.heap.size, 12, none⟩ = some (.int .i64 0) ∧ W'.cell? ⟨w5.heap.size, 13, none⟩ = some (.int .i64 0) ∧ W'.cell? ⟨w5.heap.size, 14, none⟩ = some (.bool false) ∧ W'.cell? ⟨w.heap.size, 0, none⟩ = some (.slice B g.img.length cc) ∧ W'.cell? ⟨w.heap.size, 1, none⟩ = some (.int .i64 g.pg) ∧ W'.cell? ⟨w.heap.size, 2, none⟩ = some (.slice D g.aq.length d) ∧ W'.cell? ⟨w.heap.size, 3, none⟩ = some (.bool g.aF) ∧ W'.cell? ⟨w.heap.size, 4, none⟩ = some (.int .i64 g.be) ∧ W'.cell? ⟨w.heap.size, 5, none⟩ = some (.slice P g.az.length r) := ⟨(HI.ab hb).row 0 _ rfl, (HI.ab hb).row 1 _ rfl, (HI.ab hb).row 2 _ rfl, (HI.ab hb).row 3 _ rfl, (HI.ab hb).row 4 _ rfl, (HI.ab hb).row 5 _ rfl, (HI.ab hb).row 6 _ rfl, (HI.ab hb).row 7 _ rfl, (HI.ab hb).row 8 _ rfl, (HI.ab hb).row 9 _ rfl, (HI.ab hb).row 10 _ rfl, (HI.ab hb).row 11 _ rfl, (HI.ab hb).row 12 _ rfl, (HI.ab hb).row 13 _ rfl, (HI.ab hb).row 14 _ rfl, (HI.ab hb).ll 0 _ rfl, (HI.ab hb).ll 1 _ rfl, (HI.ab hb).ll 2 _ rfl, (HI.ab hb).ll 3 _ rfl, (HI.ab hb).ll 4 _ rfl, (HI.ab hb).ll 5 _ rfl⟩
         rw [Ij, hd] at h9
         exact h9
        have M0 : Hid (∀ z : Int, z = z → (.agg #[.slice B g.img.length cc, .int .i64 g.pg, .slice D g.aq.length d, .bool g.aF, .int .i64 g.be, .slice P g.az.length r] : Value) = .agg #[.slice B g.img.length cc, .int .i64 g.pg, .slice D wl d, .bool false, .int .i64 g.be, .slice P g.az.length r]) := fun _ _ => by rw [Ij, hd]
        have Yj : Hid (∀ W', bW wr W' → Calls prog 81 #[.agg #[.int .i64 (fi : Int), .int .i64 (bl : Int), .slice Q j cq, .slice none 0 0, .slice Qs raw.length cs, .int .i64 seq, .int .i64 gh, .int .i64 av, .slice none 0 0, .slice none 0 0, .int .i64 0, .int .i64 (-1), .int .i64 0, .int .i64 0, .bool false], .agg #[.slice B g.img.length cc, .int .i64 g.pg, .slice D wl d, .bool false, .int .i64 g.be, .slice P g.az.length r], .int .i64 (b : Int), .int .i64 (jj : Int)] W' fun e w' => e = .returned (.int .i64 (P0 : Int)) ∧ bW wr w') := by
         intro W' cU
         rw [← M0 0 rfl]
         refine (OL ⟨B, cc, D, d, P, r⟩ g fi bl fi Q j cq Qs raw.length cs seq gh av b jj W' rfl oM oM oM uC (by rw [Js]; exact Qi)).mono ?_
         rintro e w' ⟨rfl, lS⟩
         refine ⟨?_, cU.trans (lS.mono cU.size)⟩
         rw [HK, Js, GP]
        obtain ⟨PT, hPT⟩ := ex (P0 + t)
        have ph : Hid (∀ W', bW wr W' → Calls prog 79 #[.agg #[.slice B g.img.length cc, .int .i64 g.pg, .slice D wl d, .bool false, .int .i64 g.be, .slice P g.az.length r], .int .i64 (PT : Int)] W' fun e w' => ∃ A' n' c', e = .returned (.tuple #[.slice A' n' c', .int .i64 0]) ∧ (aB g PT).length = n' ∧ n' ≤ c' ∧ c' ≤ maxLen ∧ cn (fun b => u16.ownBlock = some b) w' A' (ag .u8 (aB g PT)) ∧ bW wr w') := by
         intro W' cU
         rw [← M0 0 rfl]
         have hr := HR.high (HI.below.trans (cU.mono HI.below.size)) (Y := fun b => u16.ownBlock = some b) (fun b hb => (XS.own.lt b hb).1)
         have Dn := yt hr (fun b hb => Nat.lt_of_lt_of_le (XS.own.lt b hb).2 cU.size) (PT : Int)
         rw [qG hd (by rw [Ij, Js]; omega)] at Dn
         refine Dn.mono ?_
         rintro e w' ⟨A', n', c', rfl, h1, h2, h3, h4, lS⟩
         exact ⟨A', n', c', rfl, h1, h2, h3, h4, cU.trans (lS.mono cU.size)⟩
        have t1 : IntKind.i64.wrap ((P0 : Int) + (t : Int)) = (PT : Int) := by
         rw [show (P0 : Int) + (t : Int) = (PT : Int) by omega]
         exact bf _ oM oM
        have k0 := iJ wr.drew (Below.drew bV)
        have XP := iD hPT
        have UN : Hid ((bT g P0 t).length = t) := by unfold bT; simp [Hid]
        obtain ⟨i23, aas, Vp, Vo, Vn⟩ := info_parts zM
        clear hPT
        go_upto_region 30 with (fail)
        go_region_held (fun W' => W'.cell? ⟨w5.heap.size, 0, none⟩ = some (.int .i64 (fi : Int)) ∧ W'.cell? ⟨w5.heap.size, 1, none⟩ = some (.int .i64 (bl : Int)) ∧ W'.cell? ⟨w5.heap.size, 2, none⟩ = some (.slice Q j cq) ∧ W'.cell? ⟨w5.heap.size, 3, none⟩ = some (.slice none 0 0) ∧ W'.cell? ⟨w5.heap.size, 4, none⟩ = some (.slice Qs raw.length cs) ∧ W'.cell? ⟨w5.heap.size, 5, none⟩ = some (.int .i64 seq) ∧ W'.cell? ⟨w5.heap.size, 6, none⟩ = some (.int .i64 gh) ∧ W'.cell? ⟨w5.heap.size, 7, none⟩ = some (.int .i64 av) ∧ W'.cell? ⟨w5.heap.size, 8, none⟩ = some (.slice none 0 0) ∧ W'.cell? ⟨w5.heap.size, 9, none⟩ = some (.slice none 0 0) ∧ W'.cell? ⟨w5.heap.size, 10, none⟩ = some (.int .i64 0) ∧ W'.cell? ⟨w5.heap.size, 11, none⟩ = some (.int .i64 (-1)) ∧ W'.cell? ⟨w5.heap.size, 12, none⟩ = some (.int .i64 0) ∧ W'.cell? ⟨w5.heap.size, 13, none⟩ = some (.int .i64 0) ∧ W'.cell? ⟨w5.heap.size, 14, none⟩ = some (.bool false) ∧ W'.cell? ⟨w.heap.size, 0, none⟩ = some (.slice B g.img.length cc) ∧ W'.cell? ⟨w.heap.size, 1, none⟩ = some (.int .i64 g.pg) ∧ W'.cell? ⟨w.heap.size, 2, none⟩ = some (.slice D wl d) ∧ W'.cell? ⟨w.heap.size, 3, none⟩ = some (.bool false) ∧ W'.cell? ⟨w.heap.size, 4, none⟩ = some (.int .i64 g.be) ∧ W'.cell? ⟨w.heap.size, 5, none⟩ = some (.slice P g.az.length r)) (first | exact k0 | exact k3 | exact k4) (first
         | (go_at_call 81; with_reducible refine (Yj.out _ (Below.drew bV)).mono ?_; rintro e w3 ⟨rfl, gL⟩; have k3 := iJ.out w3 gL)
         | (go_at_call 79; with_reducible refine (ph.out _ gL).mono ?_; rintro e w4 ⟨A4, n4, c4, rfl, h41, h42, h43, Ol, iT⟩; have k4 := iJ.out w4 iT))
        have XR := iD (XS.ab iT)
        have HI4 := iD (HI.ab iT)
        have Ex := XR.own
        rw [UN] at Ex
        have XV := iD Ex
        have QX := iD Ol
        have HH4 := iD (And.intro h41 (And.intro h42 h43))
        clear Ex gL iT Ol k0 t1 h41 h42 h43
        go_wp2_with (at_builtin; refine aM _ rfl _ _ 41 rfl w.heap.size 32 i23 (.slice none 0 0) 1 24 underlying41 aas Vp Vo Vn rfl oM _ t vs rfl (aD XV (bV.alloc cV _)) (w4.heap.size + 1) _ 1 1 [.slice A4 n4 c4] rfl (Rd.new w4 _ _ _ rfl) rfl (by simp [Value.oneCell']) (by unfold maxLen; omega) oM (by have := HI4.below.size; simp; omega) ?_)
        intro v' w8 hown8 hgrow8 hat8
        have abg : Hid (Jj w w8 v' (vs ++ [.slice A4 n4 c4]) (bT g P0 (t + 1))) := by
         have e : bT g P0 (t + 1) = bT g P0 t ++ [aB g PT] := by
          unfold bT
          rw [List.range_succ, List.map_append, ← XP]
          rfl
         rw [Hid, e]
         exact XR.push QX HH4.1 HH4.2.1 HH4.2.2 (by rw [UN]; exact hown8) hgrow8 (by rw [World.size_alloc]; exact hat8)
        have PH := iD ((HI4.ab (bV.alloc cV _)).beside (aD XV (bV.alloc cV _)) hgrow8)
        clear hown8 hgrow8 hat8
        go_wp2
        go_roundw
        case rel => exact ⟨t + 1, _, oM, by go_num, abg, PH⟩
        case measure => simp [intOf]; omega
       obtain rfl : t = K := oM
       have UN := iD (BS g P0 t)
       have Ex := XS.own
       rw [UN] at Ex
       obtain ⟨A9, c9, rfl, h91, h92, _⟩ := a9 Ex
       have Nv := iD (Mf A9 t c9 (bT g P0 t) wr XS.rd UN h91 h92 (fun p hp => by
        unfold bT at hp
        obtain ⟨i, _, rfl⟩ := List.mem_map.1 hp
        exact tR HR.ok _))
       obtain ⟨⟨ds, dv, de⟩, hdq⟩ := ex (ff (bT g P0 t))
       have ZB : Hid (ff (bT g (aG s g b jj) s.k) = (ds, dv, de)) := by rw [Hid, QZ, zk]; exact hdq
       rw [hdq] at Nv
       clear hdq Ex
       go_wp2_with (fail)
       refine Nv.mono ?_
       rintro e w7 ⟨A7, c7, rfl, Ng, jf⟩
       simp only at Ng ⊢
       have GU := iD (HI.ab jf)
       have X4 : Hid (w7.ownsRow w.heap.size 3 1 (.slice A7 dv.length c7) dv.length (aw dv)) := mR Ng HI.below.size
       have r5 := GU.row 5 _ rfl
       clear Ng jf
       by_cases c1 : de = 0
       rotate_left
       ·have QW := iD (zh.no ZB (.inl c1))
        have e1 : (de != 0) = true := by simpa using c1
        clear c1
        go_wp2
        go_roundw
        case rel => exact ⟨jj + 1, cs, Qs, raw, seq, gh, av, oM, by go_num, GU, by rw [dP, ze]; exact QW⟩
        case measure => simp [intOf]; omega
       have e1 : (de != 0) = false := by simpa using c1
       by_cases c2 : dv.length = j
       rotate_left
       ·have QW := iD (zh.no ZB (.inr (.inl (by rw [J5.2, nh]; exact c2))))
        have e2 : ((dv.length : Int) != (j : Int)) = true := by simp; omega
        clear c2
        generalize dv.length = dl at *
        go_wp2
        go_roundw
        case rel => exact ⟨jj + 1, cs, Qs, raw, seq, gh, av, oM, by go_num, GU, by rw [dP, ze]; exact QW⟩
        case measure => simp [intOf]; omega
       have e2 : ((j : Int) != (j : Int)) = false := by simp
       by_cases c3 : ds ≤ seq
       ·have QW := iD (zh.no ZB (.inr (.inr (by rw [← zh.rq]; exact c3))))
        rw [c2]
        go_wp2
        go_roundw
        case rel => exact ⟨jj + 1, cs, Qs, raw, seq, gh, av, oM, by go_num, GU, by rw [dP, ze]; exact QW⟩
        case measure => simp [intOf]; omega
       have Zm := iD (zh.yes ZB (by
        rintro (h | h | h)
        ·exact h c1
        ·exact h (by rw [J5.2, nh]; exact c2)
        exact c3 (by rw [zh.rq]; exact h)))
       have h5 := GU.cell 5 (.int .i64 ds) (Qs' := Qs) (cs' := cs) (raw' := raw) (seq' := ds) (blk' := gh) (slot' := av) rfl GU.sv
       have h6 := h5.cell 6 (.int .i64 (b : Int)) (Qs' := Qs) (cs' := cs) (raw' := raw) (seq' := ds) (blk' := b) (slot' := av) rfl h5.sv
       have h7 := h6.cell 7 (.int .i64 (jj : Int)) (Qs' := Qs) (cs' := cs) (raw' := raw) (seq' := ds) (blk' := b) (slot' := jj) rfl h6.sv
       have h4 := h7.cell 4 (.slice A7 dv.length c7) (Qs' := A7) (cs' := c7) (raw' := dv) (seq' := ds) (blk' := b) (slot' := jj) rfl (h6.other _ _ (h5.other _ _ (GU.other _ _ X4)))
       have HIY := iD h4
       have r4 := GU.row 4 _ rfl
       have r6 := GU.row 6 _ rfl
       have r7 := GU.row 7 _ rfl
       have f4 := GU.fz 4
       have f5 := GU.fz 5
       have f6 := GU.fz 6
       have f7 := GU.fz 7
       rw [c2] at HIY ⊢
       clear h4 h5 h6 h7
       go_wp2
       go_roundw
       case rel => exact ⟨jj + 1, c7, A7, dv, ds, b, jj, oM, by go_num, HIY, by rw [dP, ze]; exact Zm⟩
       case measure => simp [intOf]; omega
     obtain rfl : jj = T := oM
     go_wp2
     go_roundw
     case rel => exact ⟨b + 1, cs, Qs, raw, seq, gh, av, oM, by go_num, HI, by rw [eZ]; exact zh⟩
     case measure => simp [intOf]; omega
   obtain rfl : b = bl := oM
   obtain ⟨s, hs⟩ := ex (cS g T s0 b)
   rw [hs] at zh
   have vS : Kp s0 s := by rw [← hs]; exact mS _ _ _ _
   have J5 : Hid (s.first = fi ∧ s.aa = b ∧ s.ax = sp) := ⟨vS.f.trans (by rw [← xX]; rfl), vS.b.trans (by rw [← xX]; rfl), vS.s.trans (by rw [← xX]; rfl)⟩
   have ze := iD hs
   have UH : Hid (raw.length = sp.length) := zh.rl.trans (by rw [J5.2.2])
   clear hs vS
   go_wp2
   go_loopw [162] (fun i wr => ∃ t : Nat, t ≤ j ∧ i = .int .i64 t ∧ qu w wr w.heap.size (w.heap.size + 1) w5.heap.size ⟨B, cc, D, d, P, r⟩ g fi b Q j cq sp Qs cs (uT sp raw t) seq gh av) (fun i _ => j - (intOf i).toNat)
   case atStart => exact ⟨0, Nat.zero_le _, rfl, by rw [K0]; exact HI⟩
   case round =>
    obtain ⟨t, ht, rfl, hI⟩ := hrel
    have HI := iD hI
    clear hI
    by_cases hltt : t < j
    ·obtain ⟨p, hp⟩ := getElem?_of_lt (l := sp) (k := t) (by rw [nh]; exact hltt)
     obtain ⟨y, hy⟩ := getElem?_of_lt (l := raw) (k := t) (by rw [UH, nh]; exact hltt)
     obtain ⟨ba, off, rfl, c0, c1, c2⟩ := (HA.below HI.below cV).F7 hp
     have gZ : (uT sp raw t).length = j := by rw [Gi UH (by rw [nh]; omega)]; exact nh
     have J4 := iD (K3 UH hy hp)
     have kj := RR UH hy
     obtain ⟨lg, Qn⟩ := ex (uT sp raw t)
     rw [Qn] at HI gZ J4 kj
     have fB := HI.sv
     rw [gZ] at fB
     obtain ⟨A', c', e', _, _, hgs⟩ := a9 fB
     injection e' with e1 _ e3
     subst e1 e3
     obtain ⟨gs, rfl, _, _⟩ := hgs oM
     obtain ⟨W, hW⟩ := ex (wr.alloc (.cells #[.int .i64 p.lo, .int .i64 p.hi, .int .i64 p.df] 132))
     have gj : Hid (bW wr W) := by rw [← hW]; exact bV.alloc cV _
     have d0 : W.cell? ⟨wr.heap.size, 0, none⟩ = some (.int .i64 p.lo) := by rw [← hW]; exact cm _ _ _ _ _ _ rfl rfl
     have d1 : W.cell? ⟨wr.heap.size, 1, none⟩ = some (.int .i64 p.hi) := by rw [← hW]; exact cm _ _ _ _ _ _ rfl rfl
     have d2 : W.cell? ⟨wr.heap.size, 2, none⟩ = some (.int .i64 p.df) := by rw [← hW]; exact cm _ _ _ _ _ _ rfl rfl
     have Jv := iD (HI.ab gj)
     have r4 := Jv.row 4 _ rfl
     rw [gZ] at r4
     have hyc : W.cell? ⟨gs, t, none⟩ = some (.int .i64 y) := by
      have uA := Jv.sv
      rw [gZ] at uA
      rw [uA.cellAt t oM]
      simp [aw, kj]
     have hyf : W.frozen? ⟨gs, t, none⟩ = false := Jv.sv.frozenAt _
     have GZ := iD kj
     clear Qn fB kj hy hp
     go_upto_region 41 with (fail)
     try rw [hW]
     clear hW c0 c1 c2
     have hc : y < p.lo ∨ (¬ y < p.lo ∧ p.hi < y) ∨ (¬ y < p.lo ∧ ¬ p.hi < y) := oM
     rcases hc with e1 | ⟨e1, e2⟩ | ⟨e1, e2⟩
     ·have Ya : Hid (ey p y = p.df) := by unfold ey iy; rw [Hid, decide_eq_false oM]; rfl
      have dd : decide (y < p.lo) = true := decide_eq_true e1
      clear e1
      go_quiet (fail)
      go_wp2
      have ig := iD ((Jv.ab (Below.drewN bV nq)).PY t p.df)
      go_roundw
      case rel => exact ⟨t + 1, oM, by go_num, by rw [J4, Ya]; exact ig⟩
      case measure => simp [intOf]; omega
     ·have Ya : Hid (ey p y = p.df) := by unfold ey iy; rw [Hid, decide_eq_false oM]; rfl
      have dd : decide (y < p.lo) = false := decide_eq_false e1
      have dd2 : decide (p.hi < y) = true := decide_eq_true e2
      clear e1 e2
      go_quiet (fail)
      go_wp2
      have ig := iD ((Jv.ab (Below.drewN bV nq)).PY t p.df)
      go_roundw
      case rel => exact ⟨t + 1, oM, by go_num, by rw [J4, Ya]; exact ig⟩
      case measure => simp [intOf]; omega
     have Ya : Hid (ey p y = y) := by unfold ey iy; rw [Hid, decide_eq_true oM]; rfl
     have dd : decide (y < p.lo) = false := decide_eq_false e1
     have dd2 : decide (p.hi < y) = false := decide_eq_false e2
     clear e1 e2
     go_quiet (fail)
     go_wp2
     have ig := iD (Jv.ab (Below.drewN bV nq))
     go_roundw
     case rel => exact ⟨t + 1, oM, by go_num, by rw [J4, Ya, zt GZ]; exact ig⟩
     case measure => simp [intOf]; omega
    obtain rfl : t = j := oM
    have Il : uT sp raw t = s.an := by
     have h1 := N7 UH
     rw [nh] at h1
     rw [h1]
     have h2 := zh.rg
     rw [J5.2.2] at h2
     exact h2
    rw [Il] at HI
    have xW : Hid (s.an.length = t) := by
     rw [Hid, ← Il, Gi UH (by rw [nh]; exact Nat.le_refl _)]
     exact nh
    have fB := HI.sv
    rw [xW] at fB
    have xV := iD (mm fB)
    have uY : Hid ((aw s.an).length = t * 1) := by rw [Hid, cj, xW, Nat.mul_one]
    have r4 := HI.row 4 _ rfl
    rw [xW] at r4
    have r4a := (HI.ab (bI wr (.cells #[] 3))).row 4 _ rfl
    rw [xW] at r4a
    clear fB Il
    go_wp2_with (at_builtin; refine aM _ rfl _ _ 33 rfl w.heap.size 3 i3 (.int .i64 0) 1 8 underlying33 vU kE jN lh rfl oM _ 0 [] rfl (World.ownsRow_lit wr #[] 0 HI.below.size nQ rfl) wr.heap.size _ t cs (aw s.an) rfl (xV.below ((Below.refl wr.heap.size wr).alloc cV _) cV) uY (cZ .i64 _) (by unfold maxLen; omega) oM (by have := HI.below.size; simp; omega) ?_)
    intro v9 w9 hown9 hgrow9 _
    have kd : w9.ownsRow w.heap.size 3 1 v9 t (aw s.an) := by simpa using hown9
    have lS : bW wr w9 := ((Below.refl wr.heap.size wr).alloc cV _).grown hgrow9 (by simp) (fun k hk => by have hk' : some wr.heap.size = some k := hk; injection hk'; omega)
    have ig := iD (HI.ab lS)
    obtain ⟨Q2, c2, rfl, h21, h22, _⟩ := a9 kd
    have xc := iD kd
    have r0 := ig.row 0 _ rfl
    have z0 := ig.pH 0 _ rfl
    have f0 := ig.o8.frozenAt 0
    have r1 := ig.row 1 _ rfl
    have z1 := ig.pH 1 _ rfl
    have f1 := ig.o8.frozenAt 1
    have r2 := ig.row 2 _ rfl
    have z2 := ig.pH 2 _ rfl
    have f2 := ig.o8.frozenAt 2
    have r3 := ig.row 3 _ rfl
    have z3 := ig.pH 3 _ rfl
    have f3 := ig.o8.frozenAt 3
    have r4 := ig.row 4 _ rfl
    have z4 := ig.pH 4 _ rfl
    have f4 := ig.o8.frozenAt 4
    have r5 := ig.row 5 _ rfl
    have z5 := ig.pH 5 _ rfl
    have f5 := ig.o8.frozenAt 5
    have r6 := ig.row 6 _ rfl
    have z6 := ig.pH 6 _ rfl
    have f6 := ig.o8.frozenAt 6
    have r7 := ig.row 7 _ rfl
    have z7 := ig.pH 7 _ rfl
    have f7 := ig.o8.frozenAt 7
    have r8 := ig.row 8 _ rfl
    have z8 := ig.pH 8 _ rfl
    have f8 := ig.o8.frozenAt 8
    have r9 := ig.row 9 _ rfl
    have z9 := ig.pH 9 _ rfl
    have f9 := ig.o8.frozenAt 9
    have yw := ig.row 10 _ rfl
    have AS := ig.pH 10 _ rfl
    have f10 := ig.o8.frozenAt 10
    have AW := ig.row 11 _ rfl
    have Kd := ig.pH 11 _ rfl
    have f11 := ig.o8.frozenAt 11
    have uS := ig.row 12 _ rfl
    have NB := ig.pH 12 _ rfl
    have f12 := ig.o8.frozenAt 12
    have xI := ig.row 13 _ rfl
    have Kb := ig.pH 13 _ rfl
    have f13 := ig.o8.frozenAt 13
    have tQ := ig.row 14 _ rfl
    have G3 := ig.pH 14 _ rfl
    have f14 := ig.o8.frozenAt 14
    have fD := ig.fz 3
    rw [xW] at r4
    have abZ : w.heap.size + 1 ≠ w5.heap.size := by have := tr.out; omega
    have abY : w5.heap.size ≠ w.heap.size + 1 := by have := tr.out; omega
    have HD8 : Hid (w.heap.size ≤ w.heap.size + 1) := Nat.le_succ _
    have HD9 : Hid (w.heap.size ≤ w5.heap.size) := Nat.le_of_lt (by have := tr.out; omega)
    have abv := iD ig.below
    have uI : Hid (aJ g fi b sp = { s with aj := s.an }) := by
     unfold aJ
     rw [Hid, xX, nh, HK, Js, HT, ze]
    have Di : Hid (t ≤ cs ∧ cs ≤ maxLen ∧ t ≤ cq ∧ cq ≤ maxLen ∧ t ≤ c2 ∧ c2 ≤ maxLen) := by
     have uA := ig.sv
     rw [xW] at uA
     obtain ⟨A', c', e', a1, a2, _⟩ := a9 uA
     injection e' with _ _ e3
     subst e3
     exact ⟨a1, a2, Dp, AY, h21, h22⟩
    clear hown9 hgrow9 kd lS
    go_wp2
    (try simp only [Exit.inBlock, Exit.then])
    refine bodyPost_ret (v := .tuple #[.agg #[.int .i64 (fi : Int), .int .i64 (b : Int), .slice Q t cq, .slice Q2 t c2, .slice Qs t cs, .int .i64 seq, .int .i64 gh, .int .i64 av, .slice none 0 0, .slice none 0 0, .int .i64 0, .int .i64 (-1), .int .i64 0, .int .i64 0, .bool false], .int .i64 0]) ?_ rfl ⟨_, by rw [PK], ?_, fun _ => ?_, fun h => absurd PK.out h⟩
    ·rw [results_cell_tmp rfl]
     go_simp
    ·repeat (refine Below.setCell ?_ HD8 _)
     exact abv.setCell (p := ⟨w5.heap.size, 3, none⟩) HD9 _
    suffices key : ∀ W', ah (fun z => X z ∨ z = w5.heap.size ∨ z = w.heap.size + 1) w9 W' → Zg X W' (.agg #[.int .i64 (fi : Int), .int .i64 (b : Int), .slice Q t cq, .slice Q2 t c2, .slice Qs t cs, .int .i64 seq, .int .i64 gh, .int .i64 av, .slice none 0 0, .slice none 0 0, .int .i64 0, .int .i64 (-1), .int .i64 0, .int .i64 0, .bool false]) (aJ g fi b sp) by
     refine key _ ?_
     repeat (refine ah.trans ?_ (ah.set _ _ _ (.inr (.inr rfl))))
     exact ah.set _ ⟨w5.heap.size, 3, none⟩ _ (.inr (.inl rfl))
    intro W' hO
    rw [uI]
    have Un : ∀ (e : TypeId) (size k : Nat) (v : Value) (xs : List Value), w9.ownsRow w.heap.size e size v k xs → (43 : TypeId) ≠ e → ∀ z, v.ownBlock = some z → ¬ (X z ∨ z = w5.heap.size ∨ z = w.heap.size + 1) := by
     intro e size k v xs ho fR z hz hx
     rcases hx with hx | hx | hx
     ·have := HX z hx
      have := (ho.lt z hz).1
      omega
     ·exact aL ig.o ho fR z (by rw [hx]; rfl) hz
     exact aL ig.o8 ho fR z (by rw [hx]; rfl) hz
    have hn : ∀ (W : World) (A : Option Addr) (xs : List Value), cn (fun z => X z ∨ z = w5.heap.size ∨ z = w.heap.size + 1) W A xs → cn X W A xs := fun W A xs h => h.dQ (fun z _ h => .inl h)
    have R2 := ig.sv
    rw [xW] at R2
    refine ⟨Q, cq, Q2, c2, Qs, cs, ?_, ?_, ?_, Di.2.2.2.1, ?_, ?_, Di.2.2.2.2.2, ?_, ?_, Di.2.1⟩
    ·simp only [J5.out.1, J5.out.2.1, J5.out.2.2, nh.out, xW.out, zh.out.rq, zh.out.rb, zh.out.rs]
    ·simp only [J5.out.2.2]
     exact hn _ _ _ ((oE ig.sp (Un _ _ _ _ _ ig.sp (by decide))).ao hO)
    ·simp only [J5.out.2.2, nh.out]
     exact Di.2.2.1
    ·exact hn _ _ _ ((oE xc (Un _ _ _ _ _ xc (by decide))).ao hO)
    ·simp only [xW.out]
     exact Di.2.2.2.2.1
    ·exact hn _ _ _ ((oE R2 (Un _ _ _ _ _ R2 (by decide))).ao hO)
    simp only [xW.out]
    exact Di.1
theorem FX (n : Nat) (hn : n ≤ 1000000) (w : World) : Calls prog 31 #[.int .i64 (n : Int)] w fun e w' => ∃ A c, e = .returned (.slice A 9 c) ∧ 9 ≤ c ∧ c ≤ maxLen ∧ Rd w' w'.heap.size A (bK (aH n)) ∧ bW w w' := by
 obtain ⟨i9, Ox, En, Em, El⟩ := info_parts zK
 have h3 : (3 : Nat) ≤ maxLen := by unfold maxLen; omega
 go_enter func31, ntmps31
 go_wp2
 obtain ⟨W, hW⟩ := ex (w.alloc (.cells #[.int .i64 0, .int .i64 1, .int .i64 0, .int .i64 0, .int .i64 2, .int .i64 2, .int .i64 0, .int .i64 3, .int .i64 0] 132))
 have gj : Hid (bW w W) := by rw [← hW]; exact bV.alloc cV _
 have uk : Hid (W.ownsRow w.heap.size 132 3 (.slice (some ⟨w.heap.size, 0, none⟩) 3 3) 3 (bK ((aH n).take 3))) := by
  rw [← hW]
  exact World.ownsRow_lit w #[.int .i64 0, .int .i64 1, .int .i64 0, .int .i64 0, .int .i64 2, .int .i64 2, .int .i64 0, .int .i64 3, .int .i64 0] 3 cV h3 rfl
 rw [hW]
 clear hW
 go_loopw [3, 8] (fun v i wr => ∃ j : Nat, j ≤ 2 ∧ i = .int .i64 j ∧ wr.ownsRow w.heap.size 132 3 v (3 + 3 * j) (bK ((aH n).take (3 + 3 * j))) ∧ bW w wr) (fun _ i _ => 2 - (intOf i).toNat)
 case atStart => exact ⟨0, oM, rfl, uk, gj⟩
 case round =>
  obtain ⟨j, hj, rfl, hO, hB⟩ := hrel
  obtain ⟨A1, c1, rfl, h4, h5, h6⟩ := a9 hO
  have HO := iD hO
  have HB := iD hB
  clear hO hB h6
  by_cases aW : j < 2
  ·have ph := iD (Rd.new wr #[.int .i64 0, .int .i64 1073741824, .int .i64 0, .int .i64 0, .int .i64 n, .int .i64 0, .int .i64 0, .int .i64 4294967295, .int .i64 0] 132 (bK (vB n)) rfl)
   have mA : Hid ((wr.alloc (.cells #[.int .i64 0, .int .i64 1073741824, .int .i64 0, .int .i64 0, .int .i64 n, .int .i64 0, .int .i64 0, .int .i64 4294967295, .int .i64 0] 132)).ownsRow w.heap.size 132 3 (.slice A1 (3 + 3 * j) c1) (3 + 3 * j) (bK ((aH n).take (3 + 3 * j)))) := aD HO (bV.alloc cV _)
   have UR := iD (Cz n j aW)
   have Bl : Hid (w.heap.size ≤ wr.heap.size) := HB.size
   go_wp2_with (at_builtin; refine aM _ rfl _ _ 40 rfl w.heap.size 132 i9 (.agg #[.int .i64 0, .int .i64 0, .int .i64 0]) 3 24 underlying40 Ox En Em El rfl oM _ (3 + 3 * j) (bK ((aH n).take (3 + 3 * j))) rfl mA.out (wr.heap.size + 1) _ 3 3 (bK (vB n)) rfl ph.out rfl (mP _) (by unfold maxLen; omega) oM (by rw [World.size_alloc]; have := Bl.out; omega) ?_)
   intro v' w2 bX hgrow kj
   have fK : Hid (bW w w2) := (HB.out.alloc HB.out.size _).grown hgrow (by rw [World.size_alloc]; have := Bl.out; omega) (fun k hk => (mA.out.lt k hk).1)
   rw [← pB, ← UR] at bX
   have rZ := iD bX
   clear bX hgrow kj
   go_wp2
   go_roundw
   case rel => exact ⟨j + 1, oM, by go_num, rZ, fK⟩
   case measure => simp [intOf]; omega
  have JQ : j = 2 := oM
  subst JQ
  have H4 : Hid (3 + 3 * 2 ≤ c1) := h4
  have H5 := iD h5
  clear h4 h5
  go_wp2
  go_ret
  exact ⟨A1, c1, rfl, H4, H5, ky HO, HB⟩
theorem F1 (A : Option Addr) (n c : Nat) (b : List Int) (w : World) (hA : Rd w w.heap.size A (ag .u8 b)) (hn : b.length = n) (hm : n ≤ 64) :
 Calls prog 29 #[.slice A n c] w fun e w' => ∃ A' c', e = .returned (.slice A' 64 c') ∧ w'.ownsRow w.heap.size 5 1 (.slice A' 64 c') 64 (ag .u8 (gg b)) ∧ bW w w' := by
 obtain ⟨i5, rR, jc, jb, ja⟩ := info_parts kD
 have HP : Hid (gg b = b ++ List.replicate (64 - n) 255) := by rw [Hid]; unfold gg; rw [hn]
 have HN := iD hn
 have HA := iD hA
 have nQ : 0 ≤ maxLen := Nat.zero_le _
 clear hA hn
 go_enter func29, ntmps29
 go_wp2_with (first | (at_builtin; refine aM _ rfl _ _ 32 rfl w.heap.size 5 i5 (.int .u8 0) 1 1 underlying32 rR jc jb ja rfl oM _ 0 [] rfl (World.ownsRow_lit w #[] 0 cV nQ rfl) w.heap.size _ n _ (ag .u8 b) rfl (HA.below (bV.alloc cV _) cV) (by rw [aE, HN, Nat.mul_one]) (cZ _ _) (by unfold maxLen; omega) oM (by simp) ?_))
 intro v1 w1 bX hgrow kj
 have zm : Hid (bW w w1) := ((Below.refl w.heap.size w).alloc cV _).grown hgrow (by simp) (fun k hk => by have hk' : some w.heap.size = some k := hk; injection hk'; omega)
 try simp only [Nat.zero_add, List.nil_append] at bX
 have iH := iD bX
 clear bX hgrow kj
 go_wp2
 go_loopw [3] (fun v wr => ∃ j : Nat, n + j ≤ 64 ∧ wr.ownsRow w.heap.size 5 1 v (n + j) (ag .u8 (b ++ List.replicate j 255)) ∧ bW w wr) (fun v _ => 64 - (match v with | .slice _ m _ => m | _ => 0))
 case atStart => exact ⟨0, oM, by simpa using iH.out, zm.out⟩
 case round =>
  obtain ⟨j, hj, hO, hB⟩ := hrel
  obtain ⟨A1, c1, rfl, h1, h2, h3⟩ := a9 hO
  have HO := iD hO
  have HB := iD hB
  clear hO hB h3
  by_cases aW : n + j < 64
  ·have ph := iD (Rd.new wr #[.int .u8 255] 5 (ag .u8 [255]) rfl)
   have mA : Hid ((wr.alloc (.cells #[.int .u8 255] 5)).ownsRow w.heap.size 5 1 (.slice A1 (n + j) c1) (n + j) (ag .u8 (b ++ List.replicate j 255))) := aD HO (bV.alloc cV _)
   have Bl : Hid (w.heap.size ≤ wr.heap.size) := HB.size
   have zh : Hid (b ++ List.replicate (j + 1) 255 = b ++ List.replicate j 255 ++ [255]) := by rw [Hid, List.append_assoc, ← List.replicate_succ']
   go_wp2_with (at_builtin; refine aM _ rfl _ _ 32 rfl w.heap.size 5 i5 (.int .u8 0) 1 1 underlying32 rR jc jb ja rfl oM _ (n + j) (ag .u8 (b ++ List.replicate j 255)) rfl mA.out (wr.heap.size + 1) _ 1 1 (ag .u8 [255]) rfl ph.out rfl (cZ _ _) (by unfold maxLen; omega) oM (by rw [World.size_alloc]; have := Bl.out; omega) ?_)
   intro v' w2 bX hgrow kj
   have fK : Hid (bW w w2) := (HB.out.alloc HB.out.size _).grown hgrow (by rw [World.size_alloc]; have := Bl.out; omega) (fun k hk => (mA.out.lt k hk).1)
   rw [← dm, ← zh] at bX
   obtain ⟨A2, c2, rfl, h4, h5, h6⟩ := a9 bX
   have rZ := iD bX
   clear bX hgrow kj h6
   go_wp2
   go_roundw
   case rel => exact ⟨j + 1, oM, rZ, fK⟩
   case measure => simp; omega
  have JQ : n + j = 64 := oM
  have HE : Hid (j = 64 - n) := by rw [Hid]; omega
  rw [JQ] at HO ⊢
  clear h1 h2
  go_wp2
  go_ret
  exact ⟨A1, c1, rfl, by have := HO.out; rw [HE.out, ← HP.out] at this; exact this, HB.out⟩
section
variable {X : Nat → Prop} {w : World} {x : Rc} {g : Fl}
theorem uP (h : cf X w x g) (k : Nat) (hk : k ≤ 8) (bl : Int) (cB : bl = ((2 * k + 2 : Nat) : Int)) (w2 : World) :
 Calls prog 25 #[x.v g, .int .i64 bl] w2 fun e w' => e = .returned (.int .i64 (aN g (2 * k + 2) : Nat)) ∧ bW w2 w' := by
 have iA : g.pg ≤ 16 := h.ok.p2
 have HS : Hid (((aN g (2 * k + 2) : Nat) : Int) = (k : Int) * (g.pg : Int) * 64) := by
  rw [Hid]; unfold aN
  rw [show (2 * k + 2 - 2) / 2 = k by omega]
  push_cast
  rfl
 have h1 : (k : Int) * (g.pg : Int) ≤ 128 := by
  have h2 := Nat.mul_le_mul hk iA
  have h3 : ((k * g.pg : Nat) : Int) ≤ 128 := oM
  push_cast at h3
  exact h3
 have h0 : (0 : Int) ≤ (k : Int) * (g.pg : Int) := Int.mul_nonneg oM oM
 have q1 : (bl - 2).tdiv 2 = k := by rw [cB, Int.tdiv_eq_ediv_of_nonneg oM]; omega
 have q1' : (bl - 2) / 2 = k := by rw [cB]; omega
 have q0 : IntKind.i64.wrap (bl - 2) = bl - 2 := IntWalk.i64_in _ oM
 have q2 : IntKind.i64.wrap ((k : Int) * (g.pg : Int)) = (k : Int) * (g.pg : Int) := IntWalk.i64_in _ oM
 have q3 : IntKind.i64.wrap ((k : Int) * (g.pg : Int) * 64) = (k : Int) * (g.pg : Int) * 64 := IntWalk.i64_in _ oM
 have Wv : 4 ≤ bl + 2 ∧ bl ≤ 18 := oM
 obtain ⟨dB, dZ⟩ := Wv
 have uM := iD cB
 obtain ⟨B, cc, D, d, P, r⟩ := x
 show Calls prog 25 #[.agg #[.slice B g.img.length cc, .int .i64 g.pg, .slice D g.aq.length d, .bool g.aF, .int .i64 g.be, .slice P g.az.length r], _] w2 _
 obtain ⟨n1, e1⟩ := ex g.img.length
 obtain ⟨n2, e2⟩ := ex g.aq.length
 obtain ⟨n3, e3⟩ := ex g.az.length
 rw [e1, e2, e3]
 generalize g.pg = P0 at *
 generalize g.aF = dn at *
 generalize g.be = fu at *
 clear h cB e1 e2 e3
 go_enter func25, ntmps25
 go_wp2
 go_ret
 exact ⟨by rw [HS]; rfl, bI _ _⟩
theorem uQ (h : cf X w x g) (k a s : Nat) (hk : k ≤ 8) (hs : s ≤ 1) (ha : a ≤ 64) (fi bl si : Int) (lX : fi = a) (cB : bl = ((2 * k + 2 : Nat) : Int)) (Cj : si = s) (w2 : World) :
 Calls prog 28 #[x.v g, .int .i64 fi, .int .i64 bl, .int .i64 si] w2 fun e w' => e = .returned (.int .i64 (((a + 2 + s * k) * g.pg : Nat) : Int)) ∧ bW w2 w' := by
 have iA : g.pg ≤ 16 := h.ok.p2
 have VG : s * k ≤ 8 := by have := Nat.mul_le_mul hs hk; omega
 obtain ⟨T, hT⟩ := ex (s * k)
 rw [hT] at VG
 have q1 : si * (bl - 2) = 2 * (T : Int) := by
  rw [Cj, cB, ← hT]
  rw [show ((2 * k + 2 : Nat) : Int) - 2 = 2 * (k : Int) by omega]
  push_cast
  rw [Int.mul_left_comm]
 have q0 : IntKind.i64.wrap (bl - 2) = bl - 2 := IntWalk.i64_in _ oM
 have q2 : IntKind.i64.wrap (si * (bl - 2)) = 2 * (T : Int) := by rw [q1]; exact IntWalk.i64_in _ oM
 have q3 : (2 * (T : Int)).tdiv 2 = T := by rw [Int.tdiv_eq_ediv_of_nonneg oM]; omega
 have q3' : (2 * (T : Int)) / 2 = T := oM
 have q4 : IntKind.i64.wrap (fi + 2) = fi + 2 := IntWalk.i64_in _ oM
 have q5 : IntKind.i64.wrap (fi + 2 + (T : Int)) = fi + 2 + (T : Int) := IntWalk.i64_in _ oM
 have h1 : (fi + 2 + (T : Int)) * (g.pg : Int) = (((a + 2 + T) * g.pg : Nat) : Int) := by rw [lX]; push_cast; rfl
 have h2 : (a + 2 + T) * g.pg ≤ 74 * 16 := Nat.mul_le_mul oM iA
 have q6 : IntKind.i64.wrap ((fi + 2 + (T : Int)) * (g.pg : Int)) = (fi + 2 + (T : Int)) * (g.pg : Int) := IntWalk.i64_in _ (by rw [h1]; omega)
 have Sw : 0 ≤ fi ∧ fi ≤ 64 := oM
 obtain ⟨Cr, Nm⟩ := Sw
 have HR := iD h1
 rw [hT]
 obtain ⟨B, cc, D, d, P, r⟩ := x
 show Calls prog 28 #[.agg #[.slice B g.img.length cc, .int .i64 g.pg, .slice D g.aq.length d, .bool g.aF, .int .i64 g.be, .slice P g.az.length r], _, _, _] w2 _
 obtain ⟨n1, e1⟩ := ex g.img.length
 obtain ⟨n2, e2⟩ := ex g.aq.length
 obtain ⟨n3, e3⟩ := ex g.az.length
 rw [e1, e2, e3]
 generalize g.pg = P0 at *
 generalize g.aF = dn at *
 generalize g.be = fu at *
 clear h lX cB Cj e1 e2 e3 h1 h2 hT hs hk ha
 go_enter func28, ntmps28
 go_wp2
 go_ret
 exact ⟨by rw [← HR]; rfl, bI _ _⟩
theorem sB (h : cf X w x g) (first aa : Int) (Cr : dH first) (dB : dH aa) (w2 : World) :
 Calls prog 24 #[x.v g, .int .i64 first, .int .i64 aa] w2 fun e w' => e = .returned (.int .i64 (eC g first aa)) ∧ bW w2 w' := by
 have lG : g.aq.length ≤ 64 := h.ok.b2
 have iA : g.pg ≤ 16 := h.ok.p2
 obtain ⟨B, cc, D, d, P, r⟩ := x
 show Calls prog 24 #[.agg #[.slice B g.img.length cc, .int .i64 g.pg, .slice D g.aq.length d, .bool g.aF, .int .i64 g.be, .slice P g.az.length r], _, _] w2 _
 have HR := iD (rfl : eC g first aa = eC g first aa)
 obtain ⟨n1, e1⟩ := ex g.img.length
 obtain ⟨N, hN⟩ := ex g.aq.length
 obtain ⟨n3, e3⟩ := ex g.az.length
 obtain ⟨P0, hP⟩ := ex g.pg
 obtain ⟨fu, hfu⟩ := ex g.be
 obtain ⟨dn, qc⟩ := ex g.aF
 unfold dH at Cr dB
 rw [hN] at lG
 rw [hP] at iA
 unfold eC
 rw [e1, hN, e3, hP, hfu, qc]
 clear h HR e1 hN e3 hP hfu qc
 by_cases hd : dn = true
 ·rw [iP hd]
  subst hd
  go_enter func24, ntmps24
  go_wp2
  go_ret
  exact ⟨rfl, bI _ _⟩
 have kX : dn = false := by simpa using hd
 rw [iN hd]
 subst kX
 clear hd
 by_cases hb : aa % 2 ≠ 0 ∨ aa < 4 ∨ 18 < aa
 ·rw [iP hb]
  by_cases h4 : aa < 4
  ·clear hb
   go_enter func24, ntmps24
   go_wp2
   go_ret
   exact ⟨rfl, bI _ _⟩
  by_cases h18 : 18 < aa
  ·clear hb
   go_enter func24, ntmps24
   go_wp2
   go_ret
   exact ⟨rfl, bI _ _⟩
  have hm : aa % 2 ≠ 0 := oM
  rcases (nE aa).2 hm with ht | ht
  all_goals
   clear hb hm
   go_enter func24, ntmps24
   go_wp2
   go_ret
   exact ⟨rfl, bI _ _⟩
 rw [iN hb]
 have dZ : aa % 2 = 0 ∧ ¬ aa < 4 ∧ ¬ 18 < aa := oM
 have ht := (nE aa).1 dZ.1
 obtain ⟨aaJ, aaI, aaH⟩ := dZ
 have R3 : IntKind.i64.wrap ((N : Int) - aa) = (N : Int) - aa := IntWalk.i64_in _ oM
 clear hb
 by_cases hi : first < 0
 ·rw [iP (.inl hi)]
  go_enter func24, ntmps24
  go_wp2
  go_ret
  exact ⟨rfl, bI _ _⟩
 by_cases Ui : (N : Int) - aa < first
 ·rw [iP (.inr Ui)]
  go_enter func24, ntmps24
  go_wp2
  go_ret
  exact ⟨rfl, bI _ _⟩
 rw [iN oM]
 by_cases hp : P0 < 2
 ·rw [iP hp]
  have Dq : (P0 : Int) < 2 := oM
  go_enter func24, ntmps24
  go_wp2
  go_ret
  exact ⟨rfl, bI _ _⟩
 rw [iN hp]
 have Dq : ¬ (P0 : Int) < 2 := oM
 go_enter func24, ntmps24
 go_wp2
 go_ret
 exact ⟨rfl, bI _ _⟩
end
structure Bk where
 first : Nat
 aa : Nat
 st : St
 af : Bool
 av : Nat
 au : Bool
 dst : Nat
 version : Int
 length : Nat
 cH : Nat
 erase : List Int
 page : Nat
 data : Option (List Int)
 bh : Bool
 deriving Inhabited
def Bk.k (b : Bk) : Nat := (b.aa - 2) / 2
def cI (b : Bk) (s : Nat) : Nat := b.first + 2 + s * b.k
def aU (b : Bk) (i : Nat) : Int := b.st.an[i]?.getD 0
def bO (b : Bk) : Bool := !b.erase.isEmpty || b.data.isSome || b.bh
def ar (b : Bk) (f : Fl) : Bk := { b with af := b.af || f.aF }
def fv (f : Fl) (b : Bk) (s n : Nat) : List Int := (f.img.drop (64 * (cI b s * f.pg))).take n
def dC (s : St) (i : Nat) : List Int → St
 | [] => s
 | v :: l => dC (aV s i v) (i + 1) l
def ls (s : St) (i : Nat) : List Int → Prop
 | [] => True
 | v :: l => gf s i v = 0 ∧ ls (aV s i v) (i + 1) l
def cz (b : Bk) (f : Fl) : Bk × Fl × Int × Int :=
 if (ar b f).af = true then (ar b f, f, 0, 20) else if b.av ≠ 2 then (ar b f, f, 0, 12) else
 if aU b 1 = 2 then ({ ar b f with av := (aU b 0).toNat }, f, aU b 0, 0) else
 let s := if 0 < aU b 2 then aV b.st 2 (aU b 2 - 1) else aV b.st 1 2
 let run := if 0 < aU b 2 then aU b 1 else aU b 0
 if (aA s f).2.2 ≠ 0 then ({ ar b f with st := (aA s f).1, af := true }, (aA s f).2.1, 0, 20)
 else ({ ar b f with st := (aA s f).1, av := run.toNat }, (aA s f).2.1, run, 0)
def cA (b : Bk) (f : Fl) (v n : Int) : Bk × Int :=
 if (ar b f).af = true then (ar b f, 20) else if b.av = 2 ∨ aU b 1 ≠ 2 ∨ b.au = true then (ar b f, 12) else
 if bO b = true then (ar b f, 14) else if ¬ (1 ≤ v ∧ v ≤ 1073741824) ∨ ¬ (1 ≤ n ∧ n ≤ (aN f b.aa : Nat)) then (ar b f, 3) else
 ({ ar b f with au := true, dst := 1 - (aU b 0).toNat, version := v, length := n.toNat, cH := 0, erase := (List.range b.k).map fun i => ((cI b (1 - (aU b 0).toNat) + i : Nat) : Int) }, 0)
def dG (b : Bk) (f : Fl) (x : List Int) : Bk × Int :=
 if (ar b f).af = true then (ar b f, 20) else if b.au = false ∨ b.cH = b.length then (ar b f, 12) else
 if bO b = true then (ar b f, 14) else if x.length ≠ min 64 (b.length - b.cH) then (ar b f, 11) else
 ({ ar b f with page := cI b b.dst * f.pg + b.cH / 64, data := some (gg x), cH := b.cH + x.length }, 0)
def jx (b : Bk) (s : St) (f : Fl) : Bk := { b with st := aZ s f, bh := if aO s f = 0 then true else b.bh }
def gd (b : Bk) (c : Int) : St := dC (dC b.st (3 + 3 * b.dst) [b.version, (b.length : Int), c]) 1 [(b.dst : Int), 3]
def bU (b : Bk) (f : Fl) (c : Int) : Bk × Int :=
 if (ar b f).af = true then (ar b f, 20) else if b.au = false ∨ b.cH ≠ b.length then (ar b f, 12) else
 if bO b = true then (ar b f, 14) else if eS (fv f b b.dst b.length) ≠ c then ({ ar b f with au := false }, 19) else
 (jx { ar b f with au := false } (gd b c) f, 0)
def ei (b : Bk) (f : Fl) : Bk × Int :=
 if (ar b f).af = true then (ar b f, 20) else if b.au = false then (ar b f, 12) else
 ({ ar b f with au := false, erase := [], data := none }, 0)
def kQ (b : Bk) : St := dC b.st 0 [(b.av : Int), 2, 0]
def bJ (b : Bk) (f : Fl) : Bk × Int :=
 if (ar b f).af = true then (ar b f, 20) else if b.av = 2 ∨ aU b 1 ≠ b.av then (ar b f, 12) else
 if bO b = true then (ar b f, 14) else (jx (ar b f) (kQ b) f, 0)
def aK (b : Bk) (f : Fl) : Bk × Fl × Bool × Int :=
 if (ar b f).af = true then (ar b f, f, false, 20) else
 match b.erase with
 | e :: l => if (aT f e).2 ≠ 0 then ({ ar b f with af := true }, (aT f e).1, false, 20)
  else ({ ar b f with erase := l }, (aT f e).1, !bO { b with erase := l }, 0)
 | [] => match b.data with
  | some d => if (bz f b.page d).2 ≠ 0 then ({ ar b f with af := true }, (bz f b.page d).1, false, 20)
   else ({ ar b f with data := none }, (bz f b.page d).1, !bO { b with data := none }, 0)
  | none => if b.bh = true then
   (if (aI b.st f).2.2.2 ≠ 0 then ({ ar b f with st := (aI b.st f).1, af := true }, (aI b.st f).2.1, false, 20)
    else ({ ar b f with st := (aI b.st f).1, bh := !(aI b.st f).2.2.1 }, (aI b.st f).2.1, (aI b.st f).2.2.1, 0))
   else (ar b f, f, true, 0)
def dp (b : Bk) (f : Fl) (s : Int) : Bk × List Int × Int :=
 if (ar b f).af = true then (ar b f, [], 20) else if ¬ (0 ≤ s ∧ s ≤ 1) then (ar b f, [], 10) else
 if aU b (4 + 3 * s.toNat) = 0 ∨ (b.au = true ∧ (b.dst : Int) = s) then (ar b f, [], 12) else
 if eS (fv f b s.toNat (aU b (4 + 3 * s.toNat)).toNat) ≠ aU b (5 + 3 * s.toNat) then (ar b f, [], 19) else
 (ar b f, fv f b s.toNat (aU b (4 + 3 * s.toNat)).toNat, 0)
def pT (s : St) (first aa : Nat) : Bk := ⟨first, aa, s, false, 2, false, 0, 0, 0, 0, [], 0, none, false⟩
def dR (f : Fl) (first aa : Int) : Int :=
 if eC f first aa ≠ 0 then eC f first aa else
 let s := aJ f first.toNat 2 (aH (aN f aa.toNat))
 if s.an[4 + 3 * (s.an[0]?.getD 0).toNat]?.getD 0 = 0 then 12 else 0
def dI (f : Fl) (first aa : Int) : Bk := pT (aJ f first.toNat 2 (aH (aN f aa.toNat))) first.toNat aa.toNat
def QL (N : Nat) (v : List Int) : Prop :=
 ∃ a t k v0 l0 c0 v1 l1 c1 : Nat, v = [(a : Int), (t : Int), (k : Int), (v0 : Int), (l0 : Int), (c0 : Int), (v1 : Int), (l1 : Int), (c1 : Int)] ∧ a ≤ 1 ∧ t ≤ 2 ∧ k ≤ 3 ∧ v0 ≤ 1073741824 ∧ l0 ≤ N ∧ c0 < 4294967296 ∧ v1 ≤ 1073741824 ∧ l1 ≤ N ∧ c1 < 4294967296
theorem mU {hi : Int} (h0 : 0 ≤ x) (h1 : x ≤ hi) : ∃ n : Nat, x = n ∧ (n : Int) ≤ hi := ⟨x.toNat, oM, oM⟩
theorem iS {p : eB} (hb : fA p = false) (h : ey p x = x) : p.lo ≤ x ∧ x ≤ p.hi := by
 unfold ey at h
 split at h
 ·rename_i h2
  unfold iy at h2
  simpa using h2
 unfold fA at hb
 simp only [decide_eq_false_iff_not] at hb
 omega
theorem Rs {N : Nat} {v : List Int} (h : Lg (aH N) v) (hl : v.length = 9) : QL N v := by
 match v, hl with
 | [a, t, k, v0, l0, c0, v1, l1, c1], _ =>
  unfold Lg ez aH at h
  simp only [List.zipWith_cons_cons, List.zipWith_nil_left, List.cons.injEq, and_true] at h
  obtain ⟨h1, h2, h3, h4, h5, h6, h7, h8, h9⟩ := h
  have q1 := iS (p := ⟨0, 1, 0⟩) rfl h1
  have q2 := iS (p := ⟨0, 2, 2⟩) rfl h2
  have q3 := iS (p := ⟨0, 3, 0⟩) rfl h3
  have q4 := iS (p := ⟨0, 1073741824, 0⟩) rfl h4
  have q5 := iS (p := ⟨0, N, 0⟩) (by unfold fA; simp only [decide_eq_false_iff_not]; omega) h5
  have q6 := iS (p := ⟨0, 4294967295, 0⟩) rfl h6
  have q7 := iS (p := ⟨0, 1073741824, 0⟩) rfl h7
  have q8 := iS (p := ⟨0, N, 0⟩) (by unfold fA; simp only [decide_eq_false_iff_not]; omega) h8
  have q9 := iS (p := ⟨0, 4294967295, 0⟩) rfl h9
  simp only at q1 q2 q3 q4 q5 q6 q7 q8 q9
  obtain ⟨a', rfl, _⟩ := mU q1.1 q1.2
  obtain ⟨t', rfl, _⟩ := mU q2.1 q2.2
  obtain ⟨k', rfl, _⟩ := mU q3.1 q3.2
  obtain ⟨v0', rfl, _⟩ := mU q4.1 q4.2
  obtain ⟨l0', rfl, _⟩ := mU q5.1 q5.2
  obtain ⟨c0', rfl, _⟩ := mU q6.1 q6.2
  obtain ⟨v1', rfl, _⟩ := mU q7.1 q7.2
  obtain ⟨l1', rfl, _⟩ := mU q8.1 q8.2
  obtain ⟨c1', rfl, _⟩ := mU q9.1 q9.2
  exact ⟨a', t', k', v0', l0', c0', v1', l1', c1', rfl, oM, oM, oM, oM, oM, oM, oM, oM, oM⟩
structure bS (f : Fl) (b : Bk) : Prop where
 ok : bD f b.st
 sp : b.st.ax = aH (aN f b.aa)
 fi : b.st.first = b.first
 bl : b.st.aa = 2
 lg : Lg b.st.ax b.st.an
 br : b.st.af = false ∨ b.af = true
 bk : b.aa = 2 * b.k + 2
 k1 : 1 ≤ b.k
 k8 : b.k ≤ 8
 fw : b.first + b.aa ≤ f.aq.length
 pg : 2 ≤ f.pg
 av : b.av ≤ 2
 dst : b.dst ≤ 1
 DL : 0 ≤ b.version ∧ b.version ≤ 1073741824
 len : b.length ≤ aN f b.aa
 cH : b.cH ≤ b.length
 er : ∀ e ∈ b.erase, 0 ≤ e ∧ e < 64
 dt : ∀ d, b.data = some d → d.length = 64 ∧ Bytes d
 page : b.page < 1024
theorem bS.vec {b : Bk} (h : bS f b) : QL (aN f b.aa) b.st.an := by
 have hl := h.lg
 rw [h.sp] at hl
 refine Rs hl ?_
 rw [h.ok.sl, h.sp]
 rfl
section
variable {w0 w : World} {L : Lc} {S : Sc} {f : Fl} {s : St}
theorem IG (h : bB w0 w L f) (n : Int) (yQ : -9223372036854775808 ≤ n) (qS : n < 9223372036854775808) (A : Option Addr) (m c : Nat) (p : List Int) (hA : Rd w w.heap.size A (ag .u8 p)) (hm : p.length = m) (JO : m ≤ 140737488351232) (hp : Bytes p) :
 Calls prog 48 #[.pointer (some ⟨L.d, 0, none⟩), .int .i64 n, .slice A m c] w fun e w' => e = .returned (.tuple #[]) ∧ (∃ Ap cp, bB w0 w' { L with Ap := Ap, cp := cp } (fM f n p) ∧ ∀ X : Nat → Prop, (∀ b, X b → b < w.heap.size) → cn X w' Ap (ag .u8 p)) ∧ cE L w w' := by
 have h1 := gz L.d
 have HC := iD (kR A m c w.heap.size p w hA cV hm JO)
 have H := iD h
 have HM := iD hm
 have HP := iD hp
 clear h hA hm hp
 go_enter func48, ntmps48
 go_wp2_with (fail)
 refine HC.mono ?_
 rintro e w1 ⟨v', rfl, ho, hb⟩
 obtain ⟨A', c', rfl, g1, g2, g3⟩ := a9 ho
 have h2 := H.ab hb
 have c4 := h2.c4
 have c5 := h2.c5
 have f4 := h2.fz 4
 have f5 := h2.fz 5
 have Ww : gQ L w1 A' (ag .u8 p) := by
  intro fR
  have nQ : 0 < m := by
   rw [← HM]
   cases p with
   | nil => simp [ag] at fR
   | cons x r => simp
  obtain ⟨g, rfl, q1, q2⟩ := g3 nQ
  obtain ⟨b, off, e, aW, hc⟩ := ky ho fR
  obtain ⟨rfl, rfl⟩ : g = b ∧ 0 = off := by simpa using e
  have hd := H.ld
  have hi := H.bi.2
  have hw := H.bw.2
  exact ⟨g, 0, rfl, q2, oM, oM, oM, hc⟩
 have YK : ∀ X : Nat → Prop, (∀ b, X b → b < w.heap.size) → cn (fun b => X b ∨ b = L.d) w1 A' (ag .u8 p) := fun X hX => by
  refine cn.new (N := w.heap.size) (fun b cU => ?_) cV (by rw [aE, HM]) ho
  rcases cU with h | h
  ·exact hX b h
  rw [h]; exact H.ld
 obtain ⟨a1, a2⟩ := h2.fu (max n (-1)) oM oM
 obtain ⟨d1, d2⟩ := a1.pi A' c' p (by rw [HM]; exact g1) g2 HP (Ww.only a2)
 rw [HM] at d1 d2
 have HD := iD d1
 have HO : Hid (cE L w _) := ((cE.ak hb).trans a2).trans d2
 have Bi : Hid (∀ X : Nat → Prop, (∀ b, X b → b < w.heap.size) → cn X ((w1.setCell ⟨L.d, 4, none⟩ (.int .i64 (max n (-1)))).setCell ⟨L.d, 5, none⟩ (.slice A' m c')) A' (ag .u8 p)) := fun X hX =>
  (((YK X hX).ao (ah.set (X := fun b => X b ∨ b = L.d) w1 ⟨L.d, 4, none⟩ _ (.inr rfl))).ao (ah.set (X := fun b => X b ∨ b = L.d) _ ⟨L.d, 5, none⟩ _ (.inr rfl))).dQ (fun b _ h => .inl h)
 clear ho hb g3 h2 Ww a1 a2 d1 d2 YK
 go_wp2
 go_end0
 exact ⟨rfl, ⟨A', c', HD, Bi⟩, HO⟩
def Started (w0 w : World) (L : Lc) (f : Fl) (e : Ending) (w' : World) : Prop :=
 e = .returned (.tuple #[]) ∧ (∃ Ap cp, bB w0 w' { L with Ap := Ap, cp := cp } (aR f) ∧ ∀ X : Nat → Prop, cn X w L.Ap (ag .u8 f.az) → cn X w' Ap (ag .u8 (aR f).az)) ∧ cE L w w'
theorem DX (h : bB w0 w L f) : Calls prog 50 #[.pointer (some ⟨L.d, 0, none⟩)] w (Started w0 w L f) := by
 have h1 := gz L.d
 have c3 := h.c3
 have c4 := h.c4
 have c5 := h.c5
 have f3 := h.fz 3
 have f4 := h.fz 4
 have f5 := h.fz 5
 by_cases hd : f.aF = true
 ·have HS : Hid (aR f = { f with aF := false, be := -1, az := [] }) := by unfold aR; rw [Hid, iP hd]
  obtain ⟨a1, a2⟩ := h.dn false
  obtain ⟨b1, b2⟩ := a1.fu (-1) oM oM
  obtain ⟨d1, d2⟩ := b1.pi none 0 [] cV (Nat.zero_le _) (fun x hx => by simp at hx) (fun hx => absurd rfl hx)
  have HD := iD d1
  have HO : Hid (cE L w _) := (a2.trans b2).trans d2
  rw [hd] at c3
  clear h hd a1 a2 b1 b2 d1 d2
  go_enter func50, ntmps50
  go_wp2
  first
   | go_end0
   | ((try simp only [Exit.inBlock, Exit.then]); refine bodyPost_ret (results_none rfl _ _ _) rfl ?_)
  unfold Started
  rw [HS]
  exact ⟨rfl, ⟨none, 0, HD, fun X _ => cn.nil⟩, HO⟩
 have kX : f.aF = false := by simpa using hd
 have HS : Hid (aR f = f) := by unfold aR; rw [Hid, iN hd]
 have H := iD h
 rw [kX] at c3
 clear h hd kX
 go_enter func50, ntmps50
 go_wp2
 first
  | go_end0
  | ((try simp only [Exit.inBlock, Exit.then]); refine bodyPost_ret (results_none rfl _ _ _) rfl ?_)
 unfold Started
 rw [HS]
 exact ⟨rfl, ⟨L.Ap, L.cp, H, fun X h => h⟩, cE.refl _ _⟩
theorem IE (h : bM w0 w L S f s) (n : Int) (hn : dH n) (A : Option Addr) (m c : Nat) (p : List Int) (hA : Rd w w.heap.size A (ag .u8 p)) (hm : p.length = m) (JO : m ≤ 140737488351232) (hp : Bytes p) :
 Calls prog 48 #[.pointer (some ⟨L.d, 0, none⟩), .int .i64 n, .slice A m c] w fun e w' => e = .returned (.tuple #[]) ∧ (∃ Ap cp, bM w0 w' { L with Ap := Ap, cp := cp } S (fM f n p) s) ∧ ah (bQ L S) w w' := by
 refine (IG h.fl n hn.1 hn.2 A m c p hA hm JO hp).mono ?_
 rintro e w' ⟨rfl, ⟨Ap, cp, hf, hr⟩, ho⟩
 exact ⟨rfl, ⟨Ap, cp, h.LO hf ho (hr _ h.dY)⟩, .j9 ho (bQ.fl L S)⟩
theorem DV (h : bM w0 w L S f s) :
 Calls prog 50 #[.pointer (some ⟨L.d, 0, none⟩)] w fun e w' => e = .returned (.tuple #[]) ∧ (∃ Ap cp, bM w0 w' { L with Ap := Ap, cp := cp } S (aR f) s) ∧ ah (bQ L S) w w' := by
 refine (DX h.fl).mono ?_
 rintro e w' ⟨rfl, ⟨Ap, cp, hf, hr⟩, ho⟩
 exact ⟨rfl, ⟨Ap, cp, h.LO hf ho (hr _ h.pk)⟩, .j9 ho (bQ.fl L S)⟩
end
theorem yp : ∀ (l : List Int) (s : St) (i : Nat) (x : Int), dC s i (l ++ [x]) = aV (dC s i l) ((i + l.length : Nat) : Int) x
 | [], s, i, x => rfl
 | v :: l, s, i, x => by
  show dC (aV s i v) (i + 1) (l ++ [x]) = _
  rw [yp l (aV s i v) (i + 1) x, show i + 1 + l.length = i + (v :: l).length by simp; omega]
  rfl
theorem vq : ∀ (l : List Int) (s : St) (i : Nat) (x : Int), ls s i (l ++ [x]) ↔ ls s i l ∧ gf (dC s i l) ((i + l.length : Nat) : Int) x = 0
 | [], s, i, x => by
  show (gf s i x = 0 ∧ True) ↔ (True ∧ gf s ((i + 0 : Nat) : Int) x = 0)
  simp
 | v :: l, s, i, x => by
  show (gf s i v = 0 ∧ ls (aV s i v) (i + 1) (l ++ [x])) ↔ _
  rw [vq l (aV s i v) (i + 1) x, show i + 1 + l.length = i + (v :: l).length by simp; omega, ← and_assoc]
  rfl
theorem vp {i : Nat} : ∀ {l : List Int} {k : Nat} {x : Int}, ls s i l → l[k]? = some x → gf (dC s i (l.take k)) ((i + k : Nat) : Int) x = 0 ∧ dC s i (l.take (k + 1)) = aV (dC s i (l.take k)) ((i + k : Nat) : Int) x := by
 intro l k x h hx
 have hk := (List.getElem?_eq_some_iff.1 hx).1
 have hl : (l.take k).length = k := by rw [List.length_take]; omega
 have e := bA l k x hx
 refine ⟨?_, by rw [e, yp, hl]⟩
 have h1 : ls s i (l.take (k + 1)) := by
  clear e hl hx
  induction l generalizing s i k with
  | nil => simp; exact trivial
  | cons v l ih =>
   rw [List.take_succ_cons]
   refine ⟨h.1, ?_⟩
   cases k with
   | zero => rw [List.take_zero]; exact trivial
   | succ k => exact ih h.2 (by simpa using hk)
 rw [e, vq, hl] at h1
 exact h1.2
theorem lu {f : Fl} : ∀ {l : List Int} {s : St} {i : Nat}, bD f s → (∀ x ∈ l, dH x) → bD f (dC s i l)
 | [], s, i, h, hl => h
 | v :: l, s, i, h, hl => lu (l := l) (eH h (hl v (by simp))) (fun x hx => hl x (by simp [hx]))
section
variable {w0 w w' : World} {L : Lc} {f : Fl}
theorem cE.ZY (h : cE L w w1) (k : ah (bQ L S) w1 w2) (hD : w.heap.size ≤ S.D) (hG : w.heap.size ≤ S.G) : cE L w w2 :=
 ⟨Nat.le_trans h.size k.size, fun n hn a b c => (k.block n (Nat.lt_of_lt_of_le hn h.size) (fun hx => by rcases hx with e | e | e | e | e <;> omega)).trans (h.block n hn a b c)⟩
theorem EO (h : bB w0 w L f) (bi : Int) (B : Nat) (hbi : bi = B) : Calls prog 60 #[.pointer (some ⟨L.d, 0, none⟩), .int .i64 bi] w fun e w' => e = .returned (fy (aT f (B : Int)).2) ∧ bB w0 w' L (aT f (B : Int)).1 ∧ cE L w w' := by
 subst hbi
 exact ta h _
theorem zA (h : bB w0 w L f) (pi : Int) (P : Nat) (VQ : pi = P) (A : Option Addr) (m c : Nat) (b : List Int) (hA : gQ L w A (ag .u8 b)) (hm : b.length = m) (hc : m ≤ c) (qV : c ≤ maxLen) (hb : Bytes b) :
 Calls prog 62 #[.pointer (some ⟨L.d, 0, none⟩), .int .i64 pi, .slice A m c] w fun e w' => e = .returned (fy (bz f (P : Int) b).2) ∧ bB w0 w' L (bz f (P : Int) b).1 ∧ cE L w w' := by
 subst VQ
 exact nI h _ A m c b hA hm hc qV hb
theorem BD (h : bM w0 w L S f s) (ho : bD f s) (ii : Int) (i : Nat) (Nk : ii = i) (v : Int) (he : gf s (i : Int) v = 0) : Calls prog 66 #[.pointer (some ⟨S.D, 0, none⟩), .int .i64 ii, .int .i64 v] w fun e w' => e = .returned .nilIface ∧ bM w0 w' L S f (aV s (i : Int) v) ∧ ah (bQ L S) w w' := by
 subst Nk
 have := NS h ho (i : Int) v
 unfold Jh at this
 rw [he, bG] at this
 exact this
theorem Gz (h : bB w0 w L f) (hu : f.up) (rO : f.az = []) (a k : Nat) (hk : 1 ≤ k) (jG : k ≤ 8) (hw : a + (2 * k + 2) ≤ f.aq.length) (hp : 2 ≤ f.pg) (v : Int) (hv : 1 ≤ v ∧ v ≤ 1073741824) (A : Option Addr) (n c : Nat) (img : List Int)
 (hA : gQ L w A (ag .u8 img)) (hn : img.length = n) (qa : n ≤ c) (fS : c ≤ maxLen) (hb : Bytes img) (h1 : 1 ≤ n) (h2 : n ≤ aN f (2 * k + 2)) (fi bl : Int) (lX : fi = a) (cB : bl = ((2 * k + 2 : Nat) : Int)) :
 Calls prog 16 #[.pointer (some ⟨L.d, 0, none⟩), .int .i64 fi, .int .i64 bl, .int .i64 v, .slice A n c] w fun e w' => e = .returned .nilIface ∧ bB w0 w' L (iU f a (2 * k + 2) v (eS img) img).2.1 ∧ cE L w w' := by
 have g1 := ne_nil
 have hsz := ec h.ok jG
 have hC := l6 img
 have lG : f.aq.length ≤ 64 := h.ok.b2
 have iA : f.pg ≤ 16 := h.ok.p2
 have Jx := iD h
 obtain ⟨x1, x2, x3, x4, x5, x6, -, -, -, -, -⟩ := wy hu hk jG hw hp hb (by rw [hn]; exact h1) (by rw [hn]; exact h2) hv (c := eS img) ⟨hC.1, by have := hC.2; omega⟩
 have hE : eC f fi bl = 0 := by
  unfold eC
  rw [iN (by rw [hu.dn]; decide), iN oM, iN oM, iN oM]
 have HC := iD (wB h fi bl (by unfold dH; omega) (by unfold dH; omega))
 rw [hE, bG] at HC
 have pa := iD (oK h k jG bl cB)
 obtain ⟨N, hN⟩ := ex (aN f (2 * k + 2))
 have HN := iD hN
 have LD : aN (eD f a (2 * k + 2) img) (2 * k + 2) = N := by rw [← hN]; unfold aN; rw [(ib hu hw hk hb (by rw [hn]; exact h2)).2.1]
 have Jn : Hid (∀ W', bB w0 W' L (eD f a (2 * k + 2) img) → Calls prog 59 #[.pointer (some ⟨L.d, 0, none⟩), .int .i64 bl] W' fun e w' => e = .returned (.int .i64 (N : Int)) ∧ W' = w') := fun W' hF => by
  have := oK hF k jG bl cB
  rw [LD] at this
  exact this
 rw [hN] at pa h2 hsz x1 x2 x3 x4 x5
 rw [hn] at x4 x5
 have Wc : iU f a (2 * k + 2) v (eS img) img = aA (dC (aJ (eD f a (2 * k + 2) img) a 2 (aH N)) 3 [v, (n : Int), eS img]) (eD f a (2 * k + 2) img) := by
  unfold iU xQ
  rw [hN, hn]
  rfl
 rw [Wc] at x6 ⊢
 have rH := iD (l5 v 1 1073741824)
 have oS := iD (l5 (n : Int) 1 (N : Int))
 rw [decide_eq_true hv] at rH
 rw [decide_eq_true (show 1 ≤ (n : Int) ∧ (n : Int) ≤ (N : Int) by omega)] at oS
 obtain ⟨gu, gp, gw, gk, -, gr, -, gb⟩ := ib hu hw hk hb (by rw [hn, hN]; exact h2)
 rw [hn] at gr gb
 have HGK : Hid ((eD f a (2 * k + 2) img).az = []) := gk.trans rO
 have UQ := iD gp
 have HGB := iD gb
 have Gv := mv hu (a := a) (n := 2 * k + 2) hw
 have yP : (a + 2) * f.pg + ew n ≤ f.aq.length * f.pg := Nat.le_trans gr (Nat.mul_le_mul_right _ oM)
 have nV : f.aq.length * f.pg ≤ 1024 := gy h.ok
 have HEU := iD Gv
 have HG : Hid (eD f a (2 * k + 2) img = iO (eg f a (2 * k + 2)) ((a + 2) * f.pg) img (ew n)) := by rw [Hid, ← hn]; rfl
 have Fx : Hid (∀ m < ew n, (bz (iO (eg f a (2 * k + 2)) ((a + 2) * f.pg) img m) (((a + 2) * f.pg + m : Nat) : Int) (gg (eQ img m))).2 = 0) :=
  fun m hm => vG Gv.up hb (by rw [Gv.wl, Gv.pg]; exact yP) gb hm
 have Zu : Hid (ls (aJ (eD f a (2 * k + 2) img) a 2 (aH N)) 3 [v, (n : Int), eS img]) := ⟨x3, x4, x5, trivial⟩
 have xX : Hid (bD (eD f a (2 * k + 2) img) (aJ (eD f a (2 * k + 2) img) a 2 (aH N))) := kz x2 x1
 have HVI : Hid (∀ x ∈ [v, (n : Int), eS img], dH x) := fun x hx => by
  unfold MB at hC
  simp only [List.mem_cons, List.not_mem_nil, or_false] at hx
  rcases hx with rfl | rfl | rfl <;> (unfold dH; omega)
 have X1 := iD x1
 have X2 := iD x2
 have X6 := iD x6
 obtain ⟨Cs, OF⟩ := ex (eS img)
 have Uu : 0 ≤ Cs ∧ Cs < 4294967296 := by rw [← OF]; exact hC
 rw [OF] at Zu X6 HVI ⊢
 obtain ⟨P, hP⟩ := ex ((a + 2) * f.pg)
 have hPi : ((a : Int) + 2) * (f.pg : Int) = (P : Int) := by rw [← hP]; push_cast; rfl
 rw [hP] at yP HGB Fx HG
 have FA := iD hn
 have HA := iD hA
 have HB := iD hb
 have HU := iD hu
 have HHW := iD hw
 obtain ⟨K, hK⟩ := ex (2 * k + 2)
 have hKb : 4 ≤ K ∧ K ≤ 18 := oM
 rw [hK] at cB Jn HGK UQ HGB HEU HHW HG Fx Zu xX X1 X6 ⊢
 have Du : (0 : Int) ≤ fi ∧ fi ≤ 64 := oM
 have VW : ew n * 64 < n + 64 ∧ n ≤ ew n * 64 := by unfold ew; omega
 obtain ⟨np, Lr⟩ := ex (ew n)
 rw [Lr] at VW yP HGB Fx HG
 obtain ⟨aam, aal⟩ := VW
 obtain ⟨aaO, aaN⟩ := hKb
 obtain ⟨aay, aax⟩ := Du
 obtain ⟨aaQ, aaP⟩ := Uu
 have hw' : (a : Int) + K ≤ 64 := oM
 have hP1 : P + np ≤ 1024 := Nat.le_trans yP nV
 have PN := iD OF
 obtain ⟨G, hG⟩ := ex (eD f a K img)
 rw [hG] at HGK HG UQ Zu xX X1 X6 Jn ⊢
 have q1 : IntKind.i64.wrap ((a : Int) + 2) = (a : Int) + 2 := IntWalk.i64_in _ oM
 have q2 : IntKind.i64.wrap (((a : Int) + 2) * (f.pg : Int)) = (P : Int) := by rw [hPi]; exact IntWalk.i64_in _ oM
 have q3 : IntKind.i64.wrap Cs = Cs := IntWalk.i64_in _ oM
 unfold maxLen at fS
 clear h rO hA hn hb hu hE hC gp gw gk gu gb Gv hP hN LD lG iA hk jG hw hK gr hPi nV hv hG OF Lr yP Wc x1 x2 x3 x4 x5 x6 hp
 subst lX cB
 go_enter func16, ntmps16
 go_wp2_with (fail)
 refine HC.mono ?_
 rintro e w1 ⟨rfl, rfl⟩
 go_wp2_with (fail)
 refine (rH _).mono ?_
 rintro e w1 ⟨rfl, rfl⟩
 go_wp2_with (fail)
 refine pa.mono ?_
 rintro e w1 ⟨rfl, rfl⟩
 go_wp2_with (fail)
 refine (oS _).mono ?_
 rintro e w1 ⟨rfl, rfl⟩
 go_wp2_with (fail)
 go_loopw [41] (fun i wr => ∃ j : Nat, j ≤ K ∧ i = .int .i64 j ∧ bB w0 wr L (eg f a j) ∧ cE L w wr) (fun i _ => K - (intOf i).toNat)
 case atStart => exact ⟨0, Nat.zero_le _, rfl, Jx, cE.refl _ _⟩
 case round =>
  obtain ⟨j, hj, rfl, hF, hO⟩ := hrel
  have HF := iD hF
  have HO := iD hO
  clear hF hO
  by_cases aW : j < K
  ·have nn := iD (EO HF ((a : Int) + (j : Int)) (a + j) (by push_cast; rfl))
   rw [ud HU HHW aW, bG] at nn
   go_wp2_with (fail)
   refine nn.mono ?_
   rintro e w2 ⟨rfl, IB, QC⟩
   have um : Hid (bB w0 w2 L (eg f a (j + 1))) := IB
   have mA : Hid (cE L w w2) := HO.trans QC
   clear IB QC
   go_wp2_with (fail)
   go_roundw
   case rel => exact ⟨j + 1, oM, by go_num, um, mA⟩
   case measure => simp [intOf]; omega
  have hjK : j = K := oM
  subst hjK
  have jk := iD (iq HF)
  rw [HEU.pg] at jk
  go_wp2_with (fail)
  refine jk.mono ?_
  rintro e w1 ⟨rfl, rfl⟩
  go_wp2_with (fail)
  go_loopw [14] (fun i wr => ∃ m : Nat, m ≤ np ∧ i = .int .i64 m ∧ bB w0 wr L (iO (eg f a j) P img m) ∧ cE L w wr) (fun i _ => np - (intOf i).toNat)
  case atStart => exact ⟨0, Nat.zero_le _, rfl, HF, HO⟩
  case round =>
   obtain ⟨m, hm, rfl, hF, hO⟩ := hrel
   have Df := iD hF
   have iH := iD hO
   clear hF hO
   by_cases sR : m < np
   ·obtain ⟨bb, off, rfl⟩ : ∃ b off, A = some ⟨b, off, none⟩ := by
     obtain ⟨b, off, e, _⟩ := HA.rd (by
      intro e
      have := aE .u8 img
      rw [e, FA] at this
      simp at this
      omega)
     exact ⟨b, off, e⟩
    have ph : Hid (Rd wr wr.heap.size (some ⟨bb, off + m * 64, none⟩) (ag .u8 (eQ img m))) := by rw [Hid, Nat.mul_comm m 64]; exact (HA.only iH).rd.part (64 * m) 64
    obtain ⟨M, hM⟩ := ex (min 64 (n - 64 * m))
    have Dh : Hid ((eQ img m).length = M) := by rw [Hid, jv, FA, hM]
    have xP : 1 ≤ M ∧ M ≤ 64 ∧ 64 * m + M ≤ n := oM
    obtain ⟨hM3, Ur, hM5⟩ := xP
    have Sh : min (n : Int) (((m : Int) + 1) * 64) = (m : Int) * 64 + (M : Int) := oM
    clear hM
    go_wp2_with (fail)
    refine (Gb (some ⟨bb, off + m * 64, none⟩) M (c - m * 64) (eQ img m) wr ph Dh Ur).mono ?_
    rintro e w2 ⟨A2, c2, rfl, hO, hB⟩
    obtain ⟨A3, c3, e3, h4, h5, -⟩ := a9 hO
    injection e3 with e31 e32 e33
    subst e31 e33
    have mz := iD (zA (Df.ab hB) ((P : Int) + (m : Int)) (P + m) (by push_cast; rfl) A2 64 c2 (gg (eQ img m)) (zc Df (by rw [aE]; exact eR (by rw [Dh]; exact Ur)) hO) (eR (by rw [Dh]; exact Ur)) h4 h5 (kx (kl HB m)))
    rw [Fx m sR, bG] at mz
    have fK : Hid (cE L wr w2) := cE.ak hB
    clear hO hB h4 h5 e32
    go_wp2_with (fail)
    refine mz.mono ?_
    rintro e w3 ⟨rfl, IB, QC⟩
    have DC : Hid (bB w0 w3 L (iO (eg f a j) P img (m + 1))) := IB
    have rZ : Hid (cE L w w3) := (iH.trans fK).trans QC
    clear IB QC
    go_wp2_with (fail)
    go_roundw
    case rel => exact ⟨m + 1, oM, by go_num, DC, rZ⟩
    case measure => simp [intOf]; omega
   have hmn : m = np := oM
   subst hmn
   have De : Hid (bB w0 wr L G) := by rw [HG]; exact Df
   go_wp2_with (fail)
   refine (Jn _ De).mono ?_
   rintro e w1 ⟨rfl, rfl⟩
   go_wp2_with (fail)
   refine (yS N oM _).mono ?_
   rintro e w2 ⟨As, cs, rfl, gC, je, uB, hB⟩
   have uI := iD (yE (De.ab hB) (a : Int) 2 a 2 rfl rfl As 9 cs (aH N) uB rfl gC je X2 X1 (by rw [HGK]; exact cn.nil))
   have mA : Hid (cE L w w2) := iH.trans (cE.ak hB)
   clear gC je uB hB
   go_wp2_with (fail)
   refine uI.mono ?_
   rintro e w3 ⟨S, rfl, hS, hB, hD, hG⟩
   have HS := iD hS
   have rZ : Hid (cE L w w3) := mA.trans (cE.ak hB)
   have Yo : Hid (w.heap.size ≤ S.D ∧ w.heap.size ≤ S.G) := ⟨Nat.le_trans mA.size hD, Nat.le_trans mA.size hG⟩
   clear hS hB hD hG
   go_wp2_with (fail)
   refine (nX A n c img w3 (HA.only rZ).rd FA HB oM).mono ?_
   rintro e w4 ⟨rfl, q, rfl⟩
   rw [PN]
   have zg := iD (HS.ab (Below.drewN (Below.refl w3.heap.size w3) q))
   have Q7 : Hid (cE L w (w3.drewN q)) := rZ.trans (cE.ak (Below.drewN (Below.refl w3.heap.size w3) q))
   generalize w3.drewN q = W4 at zg Q7 ⊢
   go_wp2_with (fail)
   obtain ⟨W5, pD⟩ := ex (W4.alloc (.cells #[.int .i64 v, .int .i64 n, .int .i64 Cs] 3))
   have oZ : bW W4 W5 := by rw [← pD]; exact bV.alloc cV _
   have UK : Hid (cn (bQ L S) W5 (some ⟨W4.heap.size, 0, none⟩) (aw [v, (n : Int), Cs])) := by
    rw [← pD]
    refine KD (Rd.new W4 _ _ _ rfl) (by rw [World.size_alloc]; exact Nat.le_refl _) (fun hx => ?_)
    have := zg.dY _ (.inl hx)
    omega
   have HS5 := iD (zg.ab oZ)
   have MR : Hid (cE L w W5) := Q7.trans (cE.ak oZ)
   rw [pD]
   clear pD oZ
   go_loopw [103] (fun i wr => ∃ j : Nat, j ≤ 3 ∧ i = .int .i64 j ∧ bM w0 wr L S G (dC (aJ G a 2 (aH N)) 3 ([v, (n : Int), Cs].take j)) ∧ ah (bQ L S) W5 wr) (fun i _ => 3 - (intOf i).toNat)
   case atStart => exact ⟨0, Nat.zero_le _, rfl, HS5, ah.refl _ _⟩
   case round =>
    obtain ⟨r, hr, rfl, hS, hX⟩ := hrel
    have J2 := iD hS
    have Fo := iD hX
    clear hS hX
    by_cases Eu : r < 3
    ·obtain ⟨x, hx⟩ := getElem?_of_lt (l := [v, (n : Int), Cs]) (k := r) Eu
     obtain ⟨bb, off, e, cB, e0⟩ := (UK.ao Fo).rd.int hx
     injection e with e
     injection e with e1 e2
     subst e1 e2
     rw [Nat.zero_add] at e0
     obtain ⟨t1, t2⟩ := vp Zu hx
     have eW := iD (BD J2 (lu xX (fun y hy => HVI y (List.mem_of_mem_take hy))) (3 + (r : Int)) (3 + r) (by push_cast; rfl) x t1)
     rw [← t2] at eW
     clear hx cB t1 t2
     go_wp2_with (fail)
     refine eW.mono ?_
     rintro e w7 ⟨rfl, hS, hX⟩
     have C5 := iD hS
     have HX7 : Hid (ah (bQ L S) W5 w7) := Fo.trans hX
     clear hS hX
     go_wp2_with (fail)
     go_roundw
     case rel => exact ⟨r + 1, oM, by go_num, C5, HX7⟩
     case measure => simp [intOf]; omega
    have Ol : r = 3 := oM
    subst Ol
    have C5 : Hid (bM w0 wr L S G (dC (aJ G a 2 (aH N)) 3 [v, (n : Int), Cs])) := J2
    have uo := iD (wN C5 (lu xX HVI))
    unfold nc at uo
    rw [X6, bG] at uo
    go_wp2_with (fail)
    refine uo.mono ?_
    rintro e w8 ⟨rfl, ⟨S8, hd8, Gu, YJ⟩, iF⟩
    have HF8 := iD YJ.fl
    have xY : Hid (cE L w w8) := MR.ZY (Fo.trans iF) Yo.1 Yo.2
    clear hd8 Gu YJ iF
    go_wp2
    go_ret
    exact ⟨rfl, HF8, xY⟩
end
def QS (w : World) (e : TypeId) (B : Nat) (v : Value) (q : List Int) : Prop :=
 (v = .slice none 0 0 ∧ q = []) ∨
 ∃ g off cap cur, v = .slice (some ⟨g, off, none⟩) q.length cap ∧ B ≤ g ∧ w.heap[g]? = some (.cells cur e (0, 0)) ∧ q.length ≤ cap ∧ cap ≤ maxLen ∧ off + cap ≤ cur.size ∧
  ∀ j x, q[j]? = some x → cur[off + j]? = some (.int .i64 x)
theorem QS.kept (h : QS w e B v q) {row : Option Nat} (hg : w.grownBy w' row) (fR : ∀ g, v.ownBlock = some g → row ≠ some g) : QS w' e B v q := by
 rcases h with h | ⟨g, off, cap, cur, rfl, hB, hh, h1, h2, h3, h4⟩
 ·exact .inl h
 refine .inr ⟨g, off, cap, cur, rfl, hB, ?_, h1, h2, h3, h4⟩
 rw [hg.block g (Array.getElem?_eq_some_iff.1 hh).1 (fun e => fR g rfl e.symm)]
 exact hh
theorem QS.lt (h : QS w e B v q) {g : Nat} (hg : v.ownBlock = some g) : B ≤ g ∧ g < w.heap.size := by
 rcases h with ⟨rfl, _⟩ | ⟨g', off, cap, cur, rfl, hB, hh, _⟩
 ·simp [Value.ownBlock] at hg
 simp [Value.ownBlock] at hg
 subst hg
 exact ⟨hB, (Array.getElem?_eq_some_iff.1 hh).1⟩
theorem QS.nil (w : World) (e : TypeId) (B : Nat) : QS w e B (.slice none 0 0) [] := .inl ⟨rfl, rfl⟩
theorem QS.form (h : QS w e B v q) : ∃ A c, v = .slice A q.length c ∧ q.length ≤ c ∧ c ≤ maxLen := by
 rcases h with ⟨rfl, rfl⟩ | ⟨g, off, cap, cur, rfl, _, _, h1, h2, _⟩
 ·exact ⟨none, 0, rfl, Nat.le_refl _, Nat.zero_le _⟩
 exact ⟨_, cap, rfl, h1, h2⟩
theorem QS.front (h : QS w e B v (x :: q)) :
 ∃ g off cap, v = .slice (some ⟨g, off, none⟩) (q.length + 1) cap ∧ q.length + 1 ≤ cap ∧ cap ≤ maxLen ∧ w.cell? ⟨g, off, none⟩ = some (.int .i64 x) ∧
  QS w e B (if cap = 1 then .slice (some ⟨g, off, none⟩) q.length 0 else .slice (some ⟨g, off + 1, none⟩) q.length (cap - 1)) q := by
 rcases h with ⟨_, h⟩ | ⟨g, off, cap, cur, rfl, hB, hh, h1, h2, h3, h4⟩
 ·cases h
 simp only [List.length_cons] at h1
 refine ⟨g, off, cap, rfl, h1, h2, ?_, ?_⟩
 ·rw [cell_of_row w g off cur e (0, 0) hh]
  simpa using h4 0 x rfl
 by_cases hc : cap = 1
 ·subst hc
  have : q = [] := List.eq_nil_of_length_eq_zero oM
  subst this
  rw [iP rfl]
  exact .inr ⟨g, off, 0, cur, rfl, hB, hh, Nat.le_refl _, Nat.zero_le _, oM, fun j y hy => by simp at hy⟩
 rw [iN hc]
 refine .inr ⟨g, off + 1, cap - 1, cur, rfl, hB, hh, oM, oM, oM, fun j y hy => ?_⟩
 rw [show off + 1 + j = off + (j + 1) by omega]
 exact h4 (j + 1) y (by simpa using hy)
section
variable {P : Program} (w : World)
theorem py (B : Nat) (t ty e : TypeId) (i : TypeInfo) (z : Value) (ht : P.underlying t = some (.slice e)) (hi : P.info? e = some i) (hz : i.zero = some z)
 (gJ : i.size = 1) (uc : i.bytes = 8) (Cd : z.cells.size = 1)
 (v : Value) (q : List Int) (hq : QS w e B v q) (x : Int) (ad : Addr) (c : Nat) (hx : w.cell? ad = some (.int .i64 x))
 (hl : q.length + 1 ≤ 1000000000) (hB : B ≤ w.heap.size) :
 ∃ v' w', (Builtin.append_ #[t, t] ty #[v, .slice (some ad) 1 c]).run P w = .ok v' w' ∧ QS w' e B v' (q ++ [x]) ∧ w.grownBy w' v.ownBlock ∧
  (v'.ownBlock = v.ownBlock ∨ v'.ownBlock = some w.heap.size) := by
 have Ls : ∀ j u, [Value.int .i64 x][j]? = some u → w.cell? (ad.add j) = some u := by
  intro j u hu
  match j, hu with
  | 0, hu =>
   simp at hu
   subst hu
   have : ad.add 0 = ad := by unfold Addr.add; simp
   rw [this]
   exact hx
  | j + 1, hu => simp at hu
 have h1 : ∀ u ∈ [Value.int .i64 x], u.oneCell' = true := by
  intro u hu
  simp at hu
  subst hu
  rfl
 have hlen : (q ++ [x]).length = q.length + 1 := by simp
 have grown : ∀ (dX : Nat) (N2 : List Value), N2 = q.map (Value.int .i64) → ∀ row : Option Nat,
  QS (w.drew.alloc (.cells (N2.toArray ++ [Value.int .i64 x].toArray ++ Builtin.zeroCells z.cells (grownCap w (q.length + 1) dX e - (q.length + 1))) e)) e B
   (.slice (some ⟨w.heap.size, 0, none⟩) (q.length + 1) (grownCap w (q.length + 1) dX e)) (q ++ [x]) ∧
  w.grownBy (w.drew.alloc (.cells (N2.toArray ++ [Value.int .i64 x].toArray ++ Builtin.zeroCells z.cells (grownCap w (q.length + 1) dX e - (q.length + 1))) e)) row := by
  rintro dX N2 rfl row
  have Uj := grownCap_ge w (q.length + 1) dX e
  have fS : grownCap w (q.length + 1) dX e ≤ maxLen := grownCap_le_maxLen w (q.length + 1) dX e (by unfold maxLen; omega)
  refine ⟨.inr ⟨w.heap.size, 0, _, _, by rw [hlen], hB, heap_alloc_new w.drew _, by rw [hlen]; exact Uj, fS, ?_, ?_⟩, ⟨rfl, rfl, rfl, by simp, fun k hk _ => Below.heap_alloc w.drew _ k hk⟩⟩
  ·simp only [Array.size_append, List.size_toArray, List.length_map, List.length_cons, List.length_nil, size_zeroCells, Cd]
   omega
  intro j y hy
  rw [Nat.zero_add]
  have hj : j < q.length + 1 := by
   have := (List.getElem?_eq_some_iff.1 hy).1
   simpa using this
  have e1 : ((q.map (Value.int .i64)).toArray ++ [Value.int .i64 x].toArray ++ Builtin.zeroCells z.cells (grownCap w (q.length + 1) dX e - (q.length + 1)))[j]? = (((q ++ [x]).map (Value.int .i64)))[j]? := by
   rw [Array.getElem?_append_left (by simp; omega)]
   simp
  rw [e1, List.getElem?_map, hy]
  rfl
 rcases hq with ⟨rfl, rfl⟩ | ⟨g, off, cap, cur, rfl, hBg, hh, hqc, fS, ab6, sS⟩
 ·have hr := run_append_nil (P := P) w t ty e i z ht hi hz ad 1 c [Value.int .i64 x] (by simp [gJ]) Ls oM oM (by rw [uc]; omega)
  obtain ⟨g1, g2⟩ := grown 0 [] rfl (Value.ownBlock (.slice none 0 0))
  simp only [List.length_nil, Nat.zero_add, Array.empty_append] at g1 g2
  exact ⟨_, _, hr, by simpa using g1, by simpa using g2, .inr rfl⟩
 by_cases Gn : q.length + 1 ≤ cap
 ·have hf := run_firstCells_some (P := P) w i.size 1 ad 1 c [Value.int .i64 x] (by simp [gJ]) Ls
  rw [gJ] at hf
  have dV := run_storeCells_at P g (off + q.length) e [Value.int .i64 x] 0 cur w hh (by simp; omega) h1
  simp only [Nat.add_zero] at dV
  refine ⟨.slice (some ⟨g, off, none⟩) (q.length + 1) cap, _, by simp [Builtin.append_, run_underlying ht, sizeOf, typeInfo, hi, Builtin.lenOf, Gn, hf, Addr.add_lit, gJ, dV]; rfl, ?_, ?_, .inl rfl⟩
  ·refine .inr ⟨g, off, cap, _, by rw [hlen], hBg, setRow_heap w g cur _ e _ hh, by rw [hlen]; exact Gn, fS, ?_, ?_⟩
   ·simp only [List.size_toArray, List.length_append, List.length_take, List.length_drop, Array.length_toList, List.length_cons]
    omega
   intro j y hy
   have hj : j < q.length + 1 := by
    have := (List.getElem?_eq_some_iff.1 hy).1
    simpa using this
   rw [List.getElem?_toArray]
   by_cases hjq : j < q.length
   ·rw [List.getElem?_append_left (by simp; omega), List.getElem?_take, iP oM]
    rw [List.getElem?_append_left hjq] at hy
    simpa using sS j y hy
   obtain rfl : j = q.length := oM
   simp at hy
   subst hy
   rw [List.getElem?_append_right (by simp; omega)]
   have : off + q.length - (List.take (off + q.length) cur.toList).length = 0 := by simp; omega
   rw [this]
   rfl
  exact ⟨rfl, rfl, rfl, by simp, fun k _ hk => setRow_other w g k _ (fun e => hk (by simp [Value.ownBlock, e]))⟩
 have holds : ∀ j u, (q.map (Value.int .i64))[j]? = some u → w.cell? ((⟨g, off, none⟩ : Addr).add j) = some u := by
  intro j u hu
  rw [Addr.add_lit, cell_of_row w g (off + j) cur e (0, 0) hh]
  rw [List.getElem?_map] at hu
  obtain ⟨y, hy, rfl⟩ := Option.map_eq_some_iff.1 hu
  exact sS j y hy
 have hr := run_append_grow (P := P) w t ty e i z ht hi hz ⟨g, off, none⟩ q.length cap (q.map (Value.int .i64)) (by simp [gJ]) holds ad 1 c [Value.int .i64 x] (by simp [gJ]) Ls oM oM (growslice_fits oM (by rw [uc]; omega))
 obtain ⟨g1, g2⟩ := grown cap _ rfl (Value.ownBlock (.slice (some ⟨g, off, none⟩) q.length cap))
 exact ⟨_, _, hr, g1, g2, .inr rfl⟩
end
section
variable {w0 w w' : World} {L : Lc} {S S' : Sc} {f f' : Fl} {s s' : St}
theorem ah.up (h : ah (bQ L S) w w') : ah (eu L S) w w' := ⟨h.size, fun k hk hn => h.block k hk (fun h5 => hn (.inl h5))⟩
theorem ah.more (h : ah X w w') (hs : ∀ b, X b → Y b) : ah Y w w' := ⟨h.size, fun k hk hn => h.block k hk (fun h5 => hn (hs k h5))⟩
theorem bM.tag (h : bM w0 w L S f s) (hb : bW w w') (E : Nat → Prop) (hE : ∀ b, E b → b < w'.heap.size) (hN : ∀ b, b < w.heap.size → E b → L.E b) : bM w0 w' { L with E := E } S f s := by
 have h' := h.ab hb
 have hY : ∀ b, b < w.heap.size → eu { L with E := E } S b → eu L S b := fun b aW hy => by
  rcases hy with h5 | he
  ·exact .inl h5
  exact .inr (hN b aW he)
 have sl : Jg (eu { L with E := E } S) w' S s := (h.sl.dQ hY).ao (ah.ak (X := eu { L with E := E } S) hb)
 have pk : cn (eu { L with E := E } S) w' L.Ap (ag .u8 f.az) := (h.pk.dQ hY).ao (ah.ak (X := eu { L with E := E } S) hb)
 exact ⟨h'.fl.tag E hE, h'.dd, h'.dl, h'.d1, h'.d2, h'.d3, h'.dg, h'.g1, h'.g2, h'.g3, h'.row, h'.fz, h'.sg, sl, pk⟩
theorem bM.aside (h : bM w0 w L S f s) (hY : ∀ b, Y b → L.E b ∧ ¬ bQ L S b) (ho : ah Y w w') (hb : bW w0 w') : bM w0 w' L S f s := by
 have hs : ∀ b, Y b → eu L S b := fun b hy => .inr (hY b hy).1
 have h1 : ¬ Y L.d := fun e => (hY _ e).2 (bQ.fl L S).1
 have h2 : ¬ Y L.gi := fun e => (hY _ e).2 (bQ.fl L S).2.1
 have h3 : ¬ Y L.gw := fun e => (hY _ e).2 (bQ.fl L S).2.2
 have h4 : ¬ Y S.D := fun e => (hY _ e).2 (bQ.d L S)
 have h5 : ¬ Y S.G := fun e => (hY _ e).2 (bQ.g L S)
 have gU : bB w0 w' L f :=
  h.fl.aside hb ho h1 h2 h3 (fun j => cF (ho.block L.d h.fl.ld h1)) (dw h.fl.oi (ho.block L.gi h.fl.bi.2 h2)) (dw h.fl.ow (ho.block L.gw h.fl.bw.2 h3)) ((h.pk.ao ho hs).apart (eu.fl L S))
 exact ⟨gU, h.dd, Nat.lt_of_lt_of_le h.dl ho.size, h.d1, h.d2, h.d3, h.dg, h.g1, h.g2, h.g3, fun j u hu => (cell_of_block (ho.block S.D h.dl h4)).trans (h.row j u hu), fun j => (cF (ho.block S.D h.dl h4)).trans (h.fz j), dw h.sg (ho.block S.G h.gl.2 h5), h.sl.ao ho hs, h.pk.ao ho hs⟩
end
structure Kc where
 D : Nat
 v : Value
 A : Option Addr
 n : Nat
 c : Nat
variable {K : Kc}
def Kc.cells (K : Kc) (d D : Nat) (b : Bk) : List Value :=
 [.pointer (some ⟨d, 0, none⟩), .int .i64 b.first, .int .i64 b.aa, .pointer (some ⟨D, 0, none⟩), .bool b.af, .int .i64 b.av, .bool b.au, .int .i64 b.dst, .int .i64 b.version, .int .i64 b.length, .int .i64 b.cH,
  K.v, .int .i64 b.page, .slice K.A K.n K.c, .bool b.bh]
def qv (L : Lc) (S : Sc) (K : Kc) (b : Nat) : Prop := bQ L S b ∨ b = K.D ∨ K.v.ownBlock = some b
def oz (X : Nat → Prop) (w : World) (K : Kc) : Option (List Int) → Prop
 | none => K.A = none ∧ K.n = 0 ∧ K.c = 0
 | some d => cn X w K.A (ag .u8 d) ∧ d.length = K.n ∧ K.n ≤ K.c ∧ K.c ≤ maxLen
structure bo (w0 w : World) (L : Lc) (S : Sc) (K : Kc) (f : Fl) (b : Bk) : Prop where
 st : bM w0 w L S f b.st
 dd : w0.heap.size ≤ K.D
 nd : ¬ bQ L S K.D
 ed : L.E K.D
 row : ∀ j u, (K.cells L.d S.D b)[j]? = some u → w.cell? ⟨K.D, j, none⟩ = some u
 fz : ∀ j, w.frozen? ⟨K.D, j, none⟩ = false
 er : QS w 3 w0.heap.size K.v b.erase
 en : ∀ g, K.v.ownBlock = some g → ¬ bQ L S g ∧ g ≠ K.D ∧ L.E g
 dt : oz (eu L S) w K b.data
theorem oz.ao {o : Option (List Int)} (h : oz X w K o) (k : ah X w w') : oz X w' K o := by
 cases o with
 | none => exact h
 | some d => exact ⟨h.1.ao k, h.2⟩
theorem oz.dQ {o : Option (List Int)} (h : oz X w K o) (hY : ∀ b, b < w.heap.size → Y b → X b) : oz Y w K o := by
 cases o with
 | none => exact h
 | some d => exact ⟨h.1.dQ hY, h.2⟩
section
variable {w0 w w' : World} {L : Lc} {S S' : Sc} {K : Kc} {f f' : Fl} {b : Bk} {s' : St}
theorem bo.lt (h : bo w0 w L S K f b) : K.D < w.heap.size := World.block_lt_of_cell? w _ (h.row 0 _ rfl)
theorem QS.block (h : QS w e B v q) (hb : ∀ g, v.ownBlock = some g → w'.heap[g]? = w.heap[g]?) : QS w' e B v q := by
 rcases h with h | ⟨g, off, cap, cur, rfl, hB, hh, h1, h2, h3, h4⟩
 ·exact .inl h
 exact .inr ⟨g, off, cap, cur, rfl, hB, (hb g rfl).trans hh, h1, h2, h3, h4⟩
theorem bo.ab (h : bo w0 w L S K f b) (hb : bW w w') : bo w0 w' L S K f b :=
 ⟨h.st.ab hb, h.dd, h.nd, h.ed, fun j u hu => (hb.cell (p := ⟨K.D, j, none⟩) h.lt).trans (h.row j u hu), fun j => (hb.frozen (p := ⟨K.D, j, none⟩) h.lt).trans (h.fz j), h.er.block (fun g hg => hb.block g (h.er.lt hg).2), h.en, h.dt.ao (ah.ak hb)⟩
theorem bo.prog (h : bo w0 w L S K f b) (hs : bM w0 w' L S' f' s') (hd : S'.D = S.D) (hg : S'.G = S.G) (ho : ah (bQ L S) w w') : bo w0 w' L S' K f' { b with st := s' } := by
 have e := eu.same (L := L) hd hg
 have e5 := bQ.same (L := L) hd hg
 refine ⟨hs, h.dd, by rw [e5]; exact h.nd, h.ed, fun j u hu => ?_, fun j => (cF (ho.block _ h.lt h.nd)).trans (h.fz j), h.er.block (fun g hg => ho.block g (h.er.lt hg).2 (h.en g hg).1), fun g hg => by rw [e5]; exact h.en g hg, by rw [e]; exact h.dt.ao ho.up⟩
 have hc : K.cells L.d S'.D { b with st := s' } = K.cells L.d S.D b := by unfold Kc.cells; rw [hd]
 rw [hc] at hu
 exact (cell_of_block (ho.block _ h.lt h.nd)).trans (h.row j u hu)
theorem bo.Vh (h : bo w0 w L S K f b) {Ap : Option Addr} {cp : Nat} (hs : bM w0 w' { L with Ap := Ap, cp := cp } S f' s') (ho : ah (bQ L S) w w') : bo w0 w' { L with Ap := Ap, cp := cp } S K f' { b with st := s' } :=
 ⟨hs, h.dd, h.nd, h.ed, fun j u hu => (cell_of_block (ho.block _ h.lt h.nd)).trans (h.row j u hu), fun j => (cF (ho.block _ h.lt h.nd)).trans (h.fz j), h.er.block (fun g hg => ho.block g (h.er.lt hg).2 (h.en g hg).1), h.en, h.dt.ao ho.up⟩
theorem bo.cell (h : bo w0 w L S K f b) (j : Nat) (u : Value) (K' : Kc) (b' : Bk) (e1 : K'.D = K.D) (e2 : b'.st = b.st) (hc : K'.cells L.d S.D b' = (K.cells L.d S.D b).set j u)
 (he : QS w 3 w0.heap.size K'.v b'.erase) (hn : ∀ g, K'.v.ownBlock = some g → ¬ bQ L S g ∧ g ≠ K.D ∧ L.E g) (hd : oz (eu L S) w K' b'.data) :
 bo w0 (w.setCell ⟨K.D, j, none⟩ u) L S K' f b' ∧ ah (fun g => g = K.D) w (w.setCell ⟨K.D, j, none⟩ u) := by
 have ho : ah (fun g => g = K.D) w (w.setCell ⟨K.D, j, none⟩ u) := .set w ⟨K.D, j, none⟩ u rfl
 have hb : bW w0 (w.setCell ⟨K.D, j, none⟩ u) := h.st.fl.below.setCell (p := ⟨K.D, j, none⟩) h.dd _
 refine ⟨⟨?_, by rw [e1]; exact h.dd, by rw [e1]; exact h.nd, by rw [e1]; exact h.ed, ?_, ?_, he.block (fun g hg => ho.block g (he.lt hg).2 (hn g hg).2.1), fun g hg => ⟨(hn g hg).1, by rw [e1]; exact (hn g hg).2.1, (hn g hg).2.2⟩, hd.ao (ho.more (fun g hg => .inr (by rw [hg]; exact h.ed)))⟩, ho⟩
 ·rw [e2]
  exact h.st.aside (Y := fun g => g = K.D) (fun g hg => by subst hg; exact ⟨h.ed, h.nd⟩) ho hb
 ·intro i v hv
  rw [e1]
  rw [hc, List.getElem?_set] at hv
  by_cases hij : j = i
  ·subst hij
   rw [iP rfl] at hv
   split at hv
   ·rename_i aW
    injection hv with hv
    subst hv
    exact World.cell?_setCell_same _ _ _ (h.row j _ (List.getElem?_eq_getElem aW))
   cases hv
  rw [iN hij] at hv
  rw [World.cell?_setCell_other _ _ _ _ (by
   intro e
   injection e with _ e
   exact hij e)]
  exact h.row i v hv
 intro i
 rw [e1, World.frozen?_setCell]
 exact h.fz i
theorem bo.jX (h : bo w0 w L S K f b) (j : Nat) (u : Value) (b' : Bk) (e2 : b'.st = b.st) (e3 : b'.erase = b.erase) (e4 : b'.data = b.data) (hc : K.cells L.d S.D b' = (K.cells L.d S.D b).set j u) :
 bo w0 (w.setCell ⟨K.D, j, none⟩ u) L S K f b' ∧ ah (fun g => g = K.D) w (w.setCell ⟨K.D, j, none⟩ u) :=
 h.cell j u K b' rfl e2 hc (by rw [e3]; exact h.er) h.en (by rw [e4]; exact h.dt)
end
structure bY (w w' : World) (L : Lc) (S : Sc) (K : Kc) (L' : Lc) (S' : Sc) (K' : Kc) : Prop where
 only : ah (qv L S K) w w'
 own : ∀ b, b < w.heap.size → qv L' S' K' b → qv L S K b
 ein : ∀ b, b < w.heap.size → L'.E b → L.E b
 Zb : ∀ b, L.E b → L'.E b
 d : K'.D = K.D
 ld : L'.d = L.d
 gi : L'.gi = L.gi
 gw : L'.gw = L.gw
theorem bY.refl (w : World) (L : Lc) (S : Sc) (K : Kc) : bY w w L S K L S K := ⟨ah.refl _ _, fun b _ h => h, fun b _ h => h, fun b h => h, rfl, rfl, rfl, rfl⟩
theorem ah.Kl {a b c : World} (h : ah X a b) (k : ah Y b c) (hs : ∀ n, n < a.heap.size → Y n → X n) : ah X a c :=
 ⟨Nat.le_trans h.size k.size, fun n hn hx => (k.block n (Nat.lt_of_lt_of_le hn h.size) (fun hy => hx (hs n hn hy))).trans (h.block n hn hx)⟩
theorem bY.trans {L1 L2 : Lc} {S1 S2 : Sc} {K1 K2 : Kc} (h : bY w w1 L S K L1 S1 K1) (k : bY w1 w2 L1 S1 K1 L2 S2 K2) : bY w w2 L S K L2 S2 K2 :=
 ⟨h.only.Kl k.only (fun n hn hy => h.own n hn hy), fun n hn hy => h.own n hn (k.own n (Nat.lt_of_lt_of_le hn h.only.size) hy), fun n hn hy => h.ein n hn (k.ein n (Nat.lt_of_lt_of_le hn h.only.size) hy), fun n hn => k.Zb n (h.Zb n hn), k.d.trans h.d, k.ld.trans h.ld, k.gi.trans h.gi, k.gw.trans h.gw⟩
theorem bY.ak (h : bW w w') : bY w w' L S K L S K := ⟨ah.ak h, fun b _ h => h, fun b _ h => h, fun b h => h, rfl, rfl, rfl, rfl⟩
theorem bY.mT {K' : Kc} (h : ah (fun g => g = K.D) w w') (hd : K'.D = K.D) (hv : ∀ g, g < w.heap.size → K'.v.ownBlock = some g → K.v.ownBlock = some g) : bY w w' L S K L S K' :=
 ⟨h.more (fun g hg => .inr (.inl hg)), fun b hb h => by
  rcases h with h | h | h
  ·exact .inl h
  ·exact .inr (.inl (by rw [← hd]; exact h))
  exact .inr (.inr (hv b hb h)), fun b _ h => h, fun b h => h, hd, rfl, rfl, rfl⟩
theorem bY.iQ {S' : Sc} (h : ah (bQ L S) w w') (hd : S'.D = S.D) (hg : S'.G = S.G) : bY w w' L S K L S' K :=
 ⟨h.more (fun g hg => .inl hg), fun b hb h => by
  have e5 := bQ.same (L := L) hd hg
  rcases h with h | h
  ·rw [e5] at h; exact .inl h
  exact .inr h, fun b _ h => h, fun b h => h, rfl, rfl, rfl, rfl⟩
def nt (w0 w : World) (L : Lc) (S : Sc) (K : Kc) (f : Fl) (b : Bk) (w' : World) : Prop := ∃ L' S' K', bY w w' L S K L' S' K' ∧ bo w0 w' L' S' K' f b
end Go.Proofs.YtjdknddnanopaaaGreat
